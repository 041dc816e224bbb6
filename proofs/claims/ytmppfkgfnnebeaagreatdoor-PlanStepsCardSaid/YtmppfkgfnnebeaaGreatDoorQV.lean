/- The functions of the program, as the value machine has them, by program. -/
import Derived.Test.YtmppfkgfnnebeaaGreatDoorQ0
import Derived.Test.YtmppfkgfnnebeaaGreatDoorQ1
import Derived.Test.YtmppfkgfnnebeaaGreatDoorQ2
import Derived.Test.YtmppfkgfnnebeaaGreatDoorProg
namespace Go.Proofs.YtmppfkgfnnebeaaGreatDoor
open Go.Vm
set_option maxRecDepth 100000
def Al:Ps:=⟨[(198,2),(256,0),(257,1)],[(0,[.bool false,.bool false,.bool true,.bool false,.bool false,.bool false,.bool false,.bool true,.bool true,.bool true])]⟩
def ads(P:Program)(ps:Ps)(k:FuncId)(vf:ba):Bool:=match P.funcs[jq k]? with
 |some fn=>xj P ps fn vf
 |none=>false
theorem SH{P:Program}{ps:Ps}{k:FuncId}{vf:ba}(h:ads P ps k vf=true):∃fn,P.funcs[jq k]?=some fn∧xj P ps fn vf=true:=by
 unfold ads at h;split at h
 ·exact⟨_,by assumption,h⟩
 ·cases h
def F0:FuncId→Option ba
 |3=>some SI
 |6=>some ZB
 |7=>some ZC
 |8=>some ZD
 |9=>some ZE
 |10=>some L6
 |11=>some ZG
 |12=>some ZI
 |13=>some ZK
 |14=>some Fu
 |15=>some aht
 |16=>some Rn
 |17=>some ahv
 |18=>some ahx
 |19=>some yK
 |20=>some ZO
 |21=>some Fv
 |23=>some Ro
 |25=>some ZQ
 |28=>some L7
 |36=>some ZU
 |37=>some ZW
 |38=>some ZZ
 |39=>some Z1
 |40=>some Z4
 |41=>some Z5
 |42=>some Fw
 |43=>some L8
 |44=>some Rx
 |45=>some ahz
 |46=>some L9
 |47=>some Ry
 |48=>some aid
 |49=>some aii
 |50=>some LK
 |51=>some aea
 |52=>some aiq
 |53=>some Z8
 |54=>some aec
 |55=>some IC
 |56=>some Fx
 |57=>some aad
 |58=>some aaf
 |59=>some Fy
 |60=>some Rz
 |61=>some IE
 |62=>some IF
 |63=>some aah
 |64=>some aai
 |65=>some RA
 |66=>some RB
 |67=>some Ma
 |68=>some aal
 |77=>some aar
 |78=>some aas
 |79=>some Mb
 |80=>some RF
 |81=>some aat
 |82=>some aau
 |83=>some RG
 |84=>some RH
 |85=>some Mc
 |86=>some Md
 |87=>some II
 |88=>some tI
 |89=>some RI
 |90=>some RJ
 |91=>some aei
 |92=>some aiD
 |93=>some aiG
 |94=>some LM
 |95=>some xt
 |96=>some aaF
 |97=>some Me
 |98=>some aaH
 |99=>some Fz
 |100=>some aaK
 |101=>some RL
 |102=>some RP
 |103=>some IL
 |104=>some Mi
 |105=>some RQ
 |106=>some Ml
 |107=>some IM
 |108=>some aaV
 |116=>some aa1
 |117=>some aa3
 |118=>some aa5
 |119=>some aa7
 |120=>some RV
 |121=>some Mm
 |122=>some RW
 |123=>some RX
 |124=>some aa8
 |125=>some aba
 |126=>some FA
 |127=>some xy
 |128=>some Mn
 |129=>some abd
 |130=>some abf
 |_=>none
set_option maxHeartbeats 8000000 in
theorem aqE:∀f vf,F0 f=some vf→∃fn,Tryz.prog.funcs[jq f]?=some fn∧xj Tryz.prog Al fn vf=true:=fun f vf h=>by
 unfold F0 at h;split at h<;>first|(cases h;exact SH (by as_aux_lemma=>kernel_rfl))|cases h
def F1:FuncId→Option ba
 |131=>some IN
 |132=>some RZ
 |133=>some abj
 |134=>some FB
 |135=>some R0
 |136=>some abl
 |137=>some abn
 |138=>some EJ
 |139=>some aev
 |140=>some IP
 |141=>some IQ
 |142=>some aew
 |143=>some FC
 |144=>some Mo
 |145=>some IS
 |146=>some R3
 |147=>some abA
 |148=>some abC
 |149=>some abD
 |150=>some IT
 |151=>some abH
 |152=>some R4
 |153=>some abK
 |154=>some FD
 |155=>some abL
 |157=>some R7
 |158=>some abQ
 |159=>some IU
 |160=>some abS
 |161=>some R8
 |162=>some Mp
 |163=>some R9
 |164=>some abT
 |165=>some abU
 |166=>some Sa
 |167=>some Sb
 |168=>some abW
 |169=>some abX
 |170=>some Sc
 |171=>some Mq
 |172=>some Mr
 |173=>some IV
 |174=>some ab2
 |175=>some Ms
 |176=>some BJ
 |177=>some Sd
 |178=>some ab4
 |179=>some ab6
 |180=>some Mt
 |181=>some IW
 |182=>some BK
 |183=>some Se
 |184=>some ab8
 |185=>some aca
 |186=>some acb
 |187=>some acd
 |188=>some Sf
 |189=>some acg
 |190=>some ach
 |191=>some IX
 |192=>some IY
 |193=>some Sg
 |194=>some uJ
 |195=>some acn
 |196=>some Sj
 |197=>some IZ
 |199=>some acq
 |200=>some acr
 |201=>some Mu
 |202=>some acs
 |203=>some acv
 |204=>some acw
 |205=>some Sl
 |206=>some acy
 |207=>some Sq
 |208=>some acB
 |209=>some acC
 |210=>some acD
 |211=>some acE
 |212=>some Mv
 |213=>some Dt
 |214=>some acF
 |215=>some Sr
 |216=>some acG
 |217=>some acH
 |218=>some FE
 |219=>some acM
 |220=>some acN
 |221=>some acP
 |222=>some I0
 |223=>some acQ
 |224=>some acR
 |225=>some acT
 |226=>some acV
 |227=>some Sx
 |229=>some acX
 |230=>some MA
 |231=>some acZ
 |232=>some Sy
 |233=>some Sz
 |_=>none
set_option maxHeartbeats 8000000 in
theorem aqF:∀f vf,F1 f=some vf→∃fn,Tryz.prog.funcs[jq f]?=some fn∧xj Tryz.prog Al fn vf=true:=fun f vf h=>by
 unfold F1 at h;split at h<;>first|(cases h;exact SH (by as_aux_lemma=>kernel_rfl))|cases h
def F2:FuncId→Option ba
 |234=>some I1
 |236=>some ac3
 |237=>some SA
 |238=>some ac5
 |239=>some ac7
 |240=>some SB
 |241=>some SC
 |242=>some ac8
 |243=>some ac9
 |244=>some ade
 |245=>some I2
 |246=>some MB
 |247=>some Du
 |249=>some SD
 |250=>some adj
 |251=>some adk
 |252=>some MC
 |253=>some ado
 |254=>some SE
 |255=>some SF
 |258=>some SG
 |1000038=>some aqB
 |1000108=>some adr
 |_=>none
set_option maxHeartbeats 8000000 in
theorem aqG:∀f vf,F2 f=some vf→∃fn,Tryz.prog.funcs[jq f]?=some fn∧xj Tryz.prog Al fn vf=true:=fun f vf h=>by
 unfold F2 at h;split at h<;>first|(cases h;exact SH (by as_aux_lemma=>kernel_rfl))|cases h
def F(f:FuncId):Option ba :=
 if f≤130 then F0 f else if f≤233 then F1 f else F2 f
theorem aqH:∀f vf,F f=some vf→∃fn,Tryz.prog.funcs[jq f]?=some fn∧xj Tryz.prog Al fn vf=true:=fun f vf h=>by
 unfold F at h;split at h
 ·exact aqE f vf h
 split at h
 ·exact aqF f vf h
 exact aqG f vf h
end Go.Proofs.YtmppfkgfnnebeaaGreatDoor
