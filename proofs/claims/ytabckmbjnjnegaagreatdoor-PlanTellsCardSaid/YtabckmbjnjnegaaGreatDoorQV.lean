/- - -/
import Derived.Test.YtabckmbjnjnegaaGreatDoorQ0
import Derived.Test.YtabckmbjnjnegaaGreatDoorQ1
import Derived.Test.YtabckmbjnjnegaaGreatDoorQ2
import Derived.Test.YtabckmbjnjnegaaGreatDoorQ3
import Derived.Test.YtabckmbjnjnegaaGreatDoorProg
namespace Go.Proofs.YtabckmbjnjnegaaGreatDoor
open Go.Vm
set_option maxRecDepth 100000
def BQ:Ps:=⟨[(187,2),(254,0),(255,1)],[(0,[.bool false,.bool false,.bool true,.bool false,.bool false,.bool false,.bool false,.bool true,.bool true,.bool true])]⟩
def aho(P:Program)(ps:Ps)(k:FuncId)(vf:bb):Bool:=match P.funcs[kb k]? with
 |some fn=>ze P ps fn vf
 |none=>false
theorem Wx{P:Program}{ps:Ps}{k:FuncId}{vf:bb}(h:aho P ps k vf=true):∃fn,P.funcs[kb k]?=some fn/\ze P ps fn vf=true:=by
 unfold aho at h;split at h
 .exact⟨_,by assumption,h⟩
 .cases h
def F0:FuncId->Option bb
 |3=>some acV
 |4=>some acW
 |5=>some acX
 |6=>some acY
 |7=>some acZ
 |8=>some OU
 |9=>some ac1
 |10=>some ac2
 |11=>some ac4
 |12=>some ac6
 |13=>some HM
 |14=>some HN
 |15=>some UX
 |16=>some OV
 |17=>some HP
 |18=>some KO
 |19=>some UY
 |20=>some OW
 |21=>some U0
 |22=>some KP
 |23=>some adi
 |24=>some DF
 |25=>some OX
 |26=>some adn
 |27=>some KW
 |28=>some OY
 |29=>some ads
 |30=>some adu
 |31=>some adx
 |32=>some adz
 |33=>some K0
 |34=>some adB
 |35=>some adC
 |36=>some K1
 |37=>some U8
 |38=>some U9
 |39=>some OZ
 |40=>some adG
 |41=>some HQ
 |42=>some Vb
 |43=>some HR
 |44=>some adJ
 |45=>some AF
 |46=>some HS
 |47=>some adO
 |48=>some adP
 |49=>some adS
 |50=>some adT
 |51=>some O0
 |52=>some Vh
 |53=>some adW
 |54=>some adY
 |55=>some ad0
 |56=>some ad1
 |57=>some Vj
 |58=>some ad3
 |59=>some ad5
 |60=>some ad6
 |61=>some O1
 |62=>some Vp
 |63=>some O2
 |64=>some K7
 |65=>some aeb
 |66=>some O3
 |67=>some K8
 |68=>some Vq
 |69=>some O4
 |70=>some O5
 |71=>some IL
 |72=>some aej
 |73=>some ael
 |74=>some HU
 |75=>some Vr
 |76=>some K9
 |77=>some Vs
 |78=>some Vt
 |79=>some aep
 |80=>some Vu
 |81=>some aes
 |82=>some aet
 |83=>some Vv
 |84=>some Vw
 |85=>some aex
 |86=>some aez
 |87=>some aeB
 |88=>some Vx
 |89=>some aeC
 |90=>some O6
 |91=>some Vy
 |92=>some aeE
 |93=>some aeF
 |94=>some Vz
 |95=>some aeH
 |96=>some aeJ
 |97=>some aeL
 |98=>some aeN
 |99=>some VD
 |100=>some VE
 |101=>some O7
 |102=>some aeO
 |_=>none
set_option maxHeartbeats 8000000 in
theorem awt:∀f vf,F0 f=some vf->∃fn,Tryz.prog.funcs[kb f]?=some fn/\ze Tryz.prog BQ fn vf=true:=λf vf h=>by
 unfold F0 at h;split at h<;>first|(cases h;exact Wx (by as_aux_lemma=>kernel_rfl))|cases h
def F1:FuncId->Option bb
 |103=>some La
 |104=>some aeS
 |105=>some VG
 |106=>some aeV
 |107=>some Ld
 |108=>some VH
 |109=>some VJ
 |110=>some ae2
 |111=>some HV
 |112=>some O8
 |113=>some ae5
 |114=>some ae7
 |115=>some Lf
 |116=>some ae9
 |117=>some vT
 |118=>some HW
 |119=>some VN
 |120=>some Lh
 |121=>some Pd
 |122=>some VP
 |123=>some VQ
 |124=>some VR
 |125=>some afj
 |126=>some afl
 |127=>some zD
 |128=>some zE
 |129=>some afn
 |130=>some Lj
 |131=>some VS
 |132=>some afo
 |133=>some HX
 |134=>some afp
 |135=>some VT
 |136=>some VU
 |137=>some afr
 |138=>some aft
 |139=>some Ll
 |140=>some afu
 |141=>some VW
 |142=>some afz
 |143=>some Lm
 |144=>some afB
 |145=>some Ln
 |146=>some VX
 |147=>some afC
 |148=>some afE
 |149=>some afG
 |150=>some VY
 |151=>some VZ
 |152=>some Pf
 |153=>some Pg
 |154=>some Lo
 |155=>some afM
 |156=>some Ph
 |157=>some DG
 |158=>some HZ
 |159=>some V0
 |160=>some H0
 |161=>some Pj
 |162=>some Lp
 |163=>some V3
 |164=>some afX
 |165=>some afZ
 |166=>some V4
 |167=>some Pl
 |168=>some V5
 |169=>some af0
 |170=>some af1
 |171=>some af2
 |172=>some V6
 |173=>some V7
 |174=>some af3
 |175=>some af4
 |176=>some V8
 |177=>some af7
 |178=>some af8
 |179=>some Lq
 |180=>some Lr
 |181=>some aga
 |182=>some Fi
 |183=>some V9
 |184=>some agc
 |185=>some Wa
 |186=>some Ls
 |188=>some agf
 |189=>some agh
 |190=>some Pm
 |191=>some agi
 |192=>some agk
 |193=>some agl
 |194=>some Wc
 |195=>some Wd
 |196=>some agn
 |197=>some agp
 |198=>some Po
 |199=>some Lt
 |200=>some DH
 |201=>some We
 |202=>some agr
 |203=>some w5
 |_=>none
set_option maxHeartbeats 8000000 in
theorem awu:∀f vf,F1 f=some vf->∃fn,Tryz.prog.funcs[kb f]?=some fn/\ze Tryz.prog BQ fn vf=true:=λf vf h=>by
 unfold F1 at h;split at h<;>first|(cases h;exact Wx (by as_aux_lemma=>kernel_rfl))|cases h
def F2:FuncId->Option bb
 |204=>some agv
 |205=>some agw
 |206=>some agx
 |207=>some Pp
 |208=>some Fj
 |209=>some agz
 |210=>some agA
 |211=>some agB
 |212=>some H2
 |213=>some Wf
 |214=>some agE
 |215=>some agF
 |216=>some Wg
 |217=>some agH
 |218=>some agI
 |219=>some agJ
 |220=>some agK
 |221=>some agM
 |222=>some agO
 |223=>some agQ
 |224=>some Lu
 |225=>some Wk
 |226=>some uS
 |227=>some PA
 |228=>some agT
 |229=>some Wo
 |230=>some Wp
 |231=>some Lw
 |232=>some agV
 |233=>some agW
 |234=>some Wq
 |235=>some agY
 |236=>some ag0
 |237=>some Wr
 |238=>some Ws
 |239=>some ag1
 |240=>some ag2
 |241=>some ag5
 |242=>some Lx
 |243=>some PC
 |244=>some Fk
 |245=>some ag9
 |246=>some ahb
 |247=>some Wt
 |248=>some ahf
 |249=>some ahg
 |250=>some PD
 |251=>some ahk
 |252=>some Wu
 |253=>some Wv
 |256=>some Ww
 |1000031=>some awq
 |1000065=>some ahn
 |_=>none
set_option maxHeartbeats 8000000 in
theorem awv:∀f vf,F2 f=some vf->∃fn,Tryz.prog.funcs[kb f]?=some fn/\ze Tryz.prog BQ fn vf=true:=λf vf h=>by
 unfold F2 at h;split at h<;>first|(cases h;exact Wx (by as_aux_lemma=>kernel_rfl))|cases h
def F(f:FuncId):Option bb :=
 if f<=102 then F0 f else if f<=203 then F1 f else F2 f
theorem aww:∀f vf,F f=some vf->∃fn,Tryz.prog.funcs[kb f]?=some fn/\ze Tryz.prog BQ fn vf=true:=λf vf h=>by
 unfold F at h;split at h
 .exact awt f vf h
 split at h
 .exact awu f vf h
 exact awv f vf h
