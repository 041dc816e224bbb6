/- The functions of the program, as the value machine has them, by program. -/
import Derived.Test.YtcelmhaoipbdiaaGreatDoorQ0
import Derived.Test.YtcelmhaoipbdiaaGreatDoorQ1
import Derived.Test.YtcelmhaoipbdiaaGreatDoorQ2
import Derived.Test.YtcelmhaoipbdiaaGreatDoorProg
namespace Go.Proofs.YtcelmhaoipbdiaaGreatDoor
open Go.Vm
set_option maxRecDepth 100000
def As:Ps:=⟨[(199,2),(257,0),(258,1)],[(0,[.bool false,.bool false,.bool true,.bool false,.bool false,.bool false,.bool false,.bool true,.bool true,.bool true])]⟩
def ZM(P:Program)(ps:Ps)(k:FuncId)(vf:bc):Bool:=match P.funcs[jb k]? with
 |some fn=>wY P ps fn vf
 |none=>false
theorem ZN{P:Program}{ps:Ps}{k:FuncId}{vf:bc}(h:ZM P ps k vf=true):∃fn,P.funcs[jb k]?=some fn∧wY P ps fn vf=true:=by
 unfold ZM at h;split at h
 ·exact⟨_,by assumption,h⟩
 ·cases h
def F0:FuncId→Option bc
 |4=>some Kb
 |7=>some Wr
 |8=>some Ws
 |9=>some Wt
 |10=>some Wu
 |11=>some Kc
 |12=>some Ww
 |13=>some Wy
 |15=>some Wz
 |17=>some O5
 |20=>some w6
 |21=>some Kd
 |22=>some GN
 |23=>some WH
 |24=>some WI
 |25=>some DP
 |27=>some O8
 |29=>some WK
 |37=>some WL
 |38=>some WN
 |39=>some WR
 |41=>some ah2
 |43=>some DQ
 |44=>some WU
 |45=>some Pc
 |47=>some Ke
 |48=>some Pd
 |54=>some WW
 |56=>some GQ
 |57=>some DR
 |58=>some W1
 |59=>some W3
 |60=>some DS
 |61=>some Pf
 |62=>some GS
 |63=>some W4
 |64=>some DT
 |65=>some W6
 |66=>some W7
 |67=>some GU
 |68=>some W9
 |69=>some Xa
 |70=>some Pg
 |71=>some Ph
 |72=>some Kf
 |78=>some Xe
 |79=>some Xf
 |80=>some Kg
 |84=>some Pj
 |86=>some Kh
 |87=>some Ki
 |88=>some GY
 |89=>some sx
 |90=>some Pl
 |91=>some Pm
 |97=>some Xp
 |98=>some Kj
 |99=>some Xr
 |100=>some DU
 |101=>some Xu
 |102=>some Pp
 |103=>some Pv
 |104=>some G5
 |105=>some Ko
 |106=>some Pw
 |107=>some Px
 |108=>some Py
 |109=>some XE
 |110=>some Pz
 |111=>some Kq
 |112=>some G6
 |113=>some XK
 |117=>some XM
 |118=>some XO
 |119=>some XQ
 |120=>some XS
 |121=>some PD
 |124=>some PE
 |127=>some DV
 |129=>some Kr
 |130=>some XV
 |131=>some XX
 |132=>some G8
 |133=>some PG
 |134=>some X4
 |135=>some DW
 |136=>some PH
 |137=>some X6
 |138=>some X8
 |141=>some G9
 |142=>some Ha
 |143=>some PI
 |144=>some DX
 |145=>some Ks
 |146=>some Hb
 |147=>some PK
 |148=>some Yk
 |149=>some Ym
 |150=>some Yn
 |151=>some Hc
 |_=>none
set_option maxHeartbeats 8000000 in
theorem alS:∀f vf,F0 f=some vf→∃fn,Tryz.prog.funcs[jb f]?=some fn∧wY Tryz.prog As fn vf=true:=fun f vf h=>by
 unfold F0 at h;split at h<;>first|(cases h;exact ZN (by as_aux_lemma=>kernel_rfl))|cases h
def F1:FuncId→Option bc
 |152=>some Yr
 |153=>some PL
 |154=>some Yu
 |158=>some PN
 |159=>some Yz
 |160=>some Hd
 |161=>some YB
 |163=>some Kt
 |164=>some PO
 |167=>some PQ
 |168=>some PR
 |170=>some YD
 |172=>some Ku
 |173=>some Kw
 |174=>some He
 |175=>some YI
 |176=>some Kx
 |177=>some Ap
 |178=>some PS
 |179=>some YK
 |180=>some YM
 |181=>some Ky
 |182=>some Hf
 |183=>some Aq
 |184=>some PT
 |185=>some YO
 |186=>some YQ
 |194=>some PU
 |195=>some tA
 |196=>some YV
 |197=>some PV
 |198=>some Hg
 |200=>some YY
 |201=>some YZ
 |202=>some Kz
 |203=>some Y0
 |204=>some Y2
 |205=>some Y3
 |206=>some PY
 |207=>some Y5
 |208=>some PZ
 |209=>some Y8
 |210=>some Y9
 |213=>some KU
 |215=>some Za
 |216=>some P2
 |217=>some Zb
 |218=>some Zc
 |219=>some DY
 |221=>some Z8
 |222=>some Ze
 |223=>some Hh
 |224=>some Zf
 |225=>some Zg
 |226=>some Zi
 |227=>some Zk
 |230=>some Zl
 |231=>some KD
 |232=>some Zn
 |233=>some P4
 |234=>some P5
 |235=>some Hj
 |237=>some Zr
 |238=>some P6
 |239=>some Zt
 |240=>some Zv
 |241=>some P7
 |242=>some P8
 |243=>some Zw
 |244=>some Zx
 |245=>some ZA
 |246=>some Hk
 |247=>some KE
 |248=>some BV
 |250=>some P9
 |251=>some ZF
 |252=>some ZG
 |253=>some KF
 |254=>some ZK
 |255=>some Qa
 |256=>some Qb
 |259=>some Qc
 |1000039=>some alO
 |1000113=>some alR
 |_=>none
set_option maxHeartbeats 8000000 in
theorem alT:∀f vf,F1 f=some vf→∃fn,Tryz.prog.funcs[jb f]?=some fn∧wY Tryz.prog As fn vf=true:=fun f vf h=>by
 unfold F1 at h;split at h<;>first|(cases h;exact ZN (by as_aux_lemma=>kernel_rfl))|cases h
def F(f:FuncId):Option bc :=
 if f≤151 then F0 f else F1 f
theorem alU:∀f vf,F f=some vf→∃fn,Tryz.prog.funcs[jb f]?=some fn∧wY Tryz.prog As fn vf=true:=fun f vf h=>by
 unfold F at h;split at h
 ·exact alS f vf h
 exact alT f vf h
end Go.Proofs.YtcelmhaoipbdiaaGreatDoor
