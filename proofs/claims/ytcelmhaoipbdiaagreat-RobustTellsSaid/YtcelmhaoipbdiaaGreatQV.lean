/- The functions of the program, as the value machine has them, by program. -/
import Derived.Test.YtcelmhaoipbdiaaGreatQ0
import Derived.Test.YtcelmhaoipbdiaaGreatQ1
import Derived.Test.YtcelmhaoipbdiaaGreatQ2
import Derived.Test.YtcelmhaoipbdiaaGreatQ3
import Derived.Test.YtcelmhaoipbdiaaGreatProg
namespace Go.Proofs.YtcelmhaoipbdiaaGreat
open Go.Vm
set_option maxRecDepth 100000
def DW:Ps:=⟨[(130,2),(226,0),(227,1)],[]⟩
def aeo(P:Program)(ps:Ps)(k:FuncId)(vf:bc):Bool:=match P.funcs[jA k]? with
 |some fn=>xn P ps fn vf
 |none=>false
theorem TS{P:Program}{ps:Ps}{k:FuncId}{vf:bc}(h:aeo P ps k vf=true):∃fn,P.funcs[jA k]?=some fn∧xn P ps fn vf=true:=by
 unfold aeo at h;split at h
 ·exact⟨_,by assumption,h⟩
 ·cases h
def F0:FuncId→Option bc
 |3=>some IS
 |4=>some aai
 |5=>some aaj
 |6=>some aak
 |7=>some aal
 |8=>some aam
 |9=>some aao
 |10=>some Sf
 |11=>some MA
 |12=>some yM
 |13=>some I4
 |14=>some I5
 |15=>some MB
 |16=>some Sj
 |17=>some DP
 |18=>some MC
 |19=>some I6
 |20=>some Sl
 |21=>some MD
 |22=>some aaC
 |23=>some Sq
 |24=>some ME
 |25=>some aaE
 |26=>some aaG
 |27=>some aaI
 |28=>some MF
 |29=>some MG
 |30=>some MH
 |31=>some MI
 |32=>some SD
 |33=>some SE
 |34=>some aaR
 |35=>some MJ
 |36=>some MK
 |37=>some ML
 |38=>some SF
 |39=>some aaU
 |40=>some aaW
 |41=>some aaY
 |42=>some MM
 |43=>some I9
 |44=>some Ja
 |45=>some FU
 |46=>some aa4
 |47=>some FV
 |48=>some SH
 |49=>some Jb
 |50=>some FW
 |51=>some aa6
 |52=>some MN
 |53=>some SJ
 |54=>some SK
 |55=>some SL
 |56=>some abb
 |57=>some abd
 |58=>some abf
 |59=>some abh
 |60=>some abj
 |61=>some SM
 |62=>some Jc
 |63=>some SN
 |64=>some abm
 |65=>some FX
 |66=>some MO
 |67=>some abo
 |68=>some abp
 |69=>some SS
 |70=>some FY
 |71=>some SW
 |72=>some abw
 |73=>some SY
 |74=>some abA
 |75=>some SZ
 |76=>some abD
 |77=>some Jd
 |78=>some S4
 |79=>some S5
 |80=>some FZ
 |81=>some abI
 |82=>some abJ
 |83=>some MP
 |84=>some Je
 |85=>some abK
 |86=>some abP
 |87=>some MQ
 |88=>some MR
 |89=>some B5
 |90=>some MS
 |91=>some Jf
 |92=>some abT
 |93=>some tT
 |94=>some F3
 |95=>some S7
 |96=>some abX
 |97=>some S8
 |98=>some Tb
 |99=>some Jh
 |100=>some MW
 |101=>some Tc
 |102=>some Td
 |_=>none
set_option maxHeartbeats 8000000 in
theorem asC:∀f vf,F0 f=some vf→∃fn,Tryz.prog.funcs[jA f]?=some fn∧xn Tryz.prog DW fn vf=true:=fun f vf h=>by
 unfold F0 at h;split at h<;>first|(cases h;exact TS (by as_aux_lemma=>kernel_rfl))|cases h
def F1:FuncId→Option bc
 |103=>some Te
 |104=>some MY
 |105=>some MZ
 |106=>some Tg
 |107=>some Th
 |108=>some ab8
 |109=>some ab9
 |110=>some F4
 |111=>some acb
 |112=>some ace
 |113=>some acf
 |114=>some acg
 |115=>some aci
 |116=>some acj
 |117=>some F5
 |118=>some Ti
 |119=>some M0
 |120=>some M1
 |121=>some Ji
 |122=>some Tj
 |123=>some Tk
 |124=>some acp
 |125=>some acr
 |126=>some acu
 |127=>some acw
 |128=>some Tn
 |129=>some acy
 |131=>some acA
 |132=>some acB
 |133=>some M3
 |134=>some acC
 |135=>some acE
 |136=>some acF
 |137=>some To
 |138=>some Jj
 |139=>some Tp
 |140=>some Tq
 |141=>some acM
 |142=>some F6
 |143=>some Ts
 |144=>some M4
 |145=>some Tt
 |146=>some acN
 |147=>some Jk
 |148=>some Tu
 |149=>some F7
 |150=>some M5
 |151=>some Jl
 |152=>some Tw
 |153=>some acY
 |154=>some ac0
 |155=>some ac2
 |156=>some Jm
 |157=>some ac4
 |158=>some ac5
 |159=>some ac6
 |160=>some Jo
 |161=>some ada
 |162=>some Tx
 |163=>some adf
 |164=>some u5
 |165=>some Jp
 |166=>some Tz
 |167=>some adn
 |168=>some Jq
 |169=>some adp
 |170=>some TA
 |171=>some adq
 |172=>some adr
 |173=>some ads
 |174=>some F8
 |175=>some adu
 |176=>some TB
 |177=>some TC
 |178=>some adx
 |179=>some adz
 |180=>some adB
 |181=>some M8
 |182=>some Jr
 |183=>some B6
 |184=>some TD
 |185=>some adD
 |186=>some adF
 |187=>some adG
 |188=>some TE
 |189=>some TF
 |190=>some M9
 |191=>some TG
 |192=>some adI
 |193=>some adJ
 |194=>some adL
 |195=>some adN
 |196=>some adP
 |197=>some TI
 |198=>some adS
 |199=>some adT
 |200=>some Js
 |201=>some adV
 |202=>some Nb
 |203=>some adX
 |_=>none
set_option maxHeartbeats 8000000 in
theorem asD:∀f vf,F1 f=some vf→∃fn,Tryz.prog.funcs[jA f]?=some fn∧xn Tryz.prog DW fn vf=true:=fun f vf h=>by
 unfold F1 at h;split at h<;>first|(cases h;exact TS (by as_aux_lemma=>kernel_rfl))|cases h
def F2:FuncId→Option bc
 |204=>some TJ
 |205=>some TK
 |206=>some Jt
 |207=>some adZ
 |208=>some TL
 |209=>some ad1
 |210=>some ad3
 |211=>some TM
 |212=>some TN
 |213=>some ad4
 |214=>some ad5
 |215=>some ad8
 |216=>some Ju
 |217=>some Nc
 |218=>some DV
 |219=>some aec
 |220=>some TO
 |221=>some aeg
 |222=>some aeh
 |223=>some Nd
 |224=>some TP
 |225=>some TQ
 |228=>some TR
 |1000010=>some aen
 |1000129=>some asB
 |_=>none
set_option maxHeartbeats 8000000 in
theorem asE:∀f vf,F2 f=some vf→∃fn,Tryz.prog.funcs[jA f]?=some fn∧xn Tryz.prog DW fn vf=true:=fun f vf h=>by
 unfold F2 at h;split at h<;>first|(cases h;exact TS (by as_aux_lemma=>kernel_rfl))|cases h
def F(f:FuncId):Option bc :=
 if f≤102 then F0 f else if f≤203 then F1 f else F2 f
theorem asF:∀f vf,F f=some vf→∃fn,Tryz.prog.funcs[jA f]?=some fn∧xn Tryz.prog DW fn vf=true:=fun f vf h=>by
 unfold F at h;split at h
 ·exact asC f vf h
 split at h
 ·exact asD f vf h
 exact asE f vf h
end Go.Proofs.YtcelmhaoipbdiaaGreat
