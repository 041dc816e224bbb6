/- The functions of the program, as the value machine has them, by program. -/
import Derived.Test.YtmpikpodpgnjhaaGreatQ0
import Derived.Test.YtmpikpodpgnjhaaGreatQ1
import Derived.Test.YtmpikpodpgnjhaaGreatQ2
import Derived.Test.YtmpikpodpgnjhaaGreatProg
namespace Go.Proofs.YtmpikpodpgnjhaaGreat
open Go.Vm
set_option maxRecDepth 100000
def bS:List (Nat×Nat):=[(146,2),(229,0),(230,1)]
def ary(P:Program)(ps:List (Nat×Nat))(k:FuncId)(vf:bq):Bool:=match P.funcs[k]? with
 |some fn=>bP P ps fn vf
 |none=>false
theorem arz{P:Program}{ps:List (Nat×Nat)}{k:FuncId}{vf:bq}(h:ary P ps k vf=true):∃fn,P.funcs[k]?=some fn∧bP P ps fn vf=true:=by
 unfold ary at h;split at h
 ·exact⟨_,by assumption,h⟩
 ·cases h
def F0:FuncId→Option bq
 |8=>some mr
 |12=>some KA
 |13=>some KB
 |14=>some KC
 |15=>some Re
 |16=>some KD
 |17=>some Di
 |19=>some yI
 |22=>some KG
 |23=>some Dk
 |26=>some A5
 |27=>some A6
 |28=>some F6
 |29=>some yO
 |31=>some Dl
 |32=>some Dn
 |40=>some zU
 |41=>some tP
 |42=>some tI
 |52=>some KJ
 |53=>some Ru
 |54=>some Dz
 |55=>some A7
 |56=>some DA
 |57=>some KK
 |58=>some F7
 |59=>some F8
 |60=>some F9
 |61=>some A8
 |63=>some KP
 |64=>some KQ
 |65=>some akj
 |66=>some akm
 |67=>some DD
 |68=>some A9
 |69=>some Ba
 |70=>some yT
 |71=>some KR
 |72=>some p9
 |73=>some yU
 |74=>some Gf
 |75=>some Gg
 |76=>some KT
 |77=>some Gi
 |79=>some KU
 |84=>some aiw
 |86=>some Bb
 |87=>some Bc
 |88=>some KV
 |89=>some KW
 |90=>some abH
 |91=>some DI
 |92=>some akn
 |93=>some KX
 |94=>some KY
 |95=>some KZ
 |96=>some akt
 |110=>some K0
 |111=>some K1
 |112=>some DJ
 |113=>some vN
 |114=>some Be
 |115=>some K2
 |116=>some DK
 |117=>some Gj
 |118=>some Bf
 |119=>some Gk
 |120=>some yX
 |121=>some DM
 |122=>some Bg
 |123=>some Gl
 |124=>some K5
 |125=>some K6
 |126=>some K7
 |127=>some Bh
 |128=>some K8
 |129=>some Gm
 |130=>some Lc
 |131=>some Gn
 |132=>some Gp
 |133=>some Ld
 |134=>some Gq
 |135=>some yY
 |136=>some Gr
 |137=>some Gu
 |138=>some DN
 |139=>some DO
 |143=>some DP
 |144=>some Gy
 |145=>some Lf
 |147=>some Lg
 |153=>some Lh
 |154=>some Ll
 |155=>some Ln
 |156=>some Lp
 |157=>some Lq
 |158=>some Lr
 |159=>some DQ
 |160=>some Ls
 |161=>some Lt
 |_=>none
set_option maxHeartbeats 8000000 in
theorem agC:∀f vf,F0 f=some vf→∃fn,Tryz.prog.funcs[f]?=some fn∧bP Tryz.prog bS fn vf=true:=fun f vf h=>by
 unfold F0 at h;split at h<;>first|(cases h;exact arz (by as_aux_lemma=>kernel_rfl))|cases h
def F1:FuncId→Option bq
 |162=>some Gz
 |163=>some GA
 |164=>some Lu
 |165=>some aku
 |166=>some Lw
 |167=>some Lx
 |168=>some DR
 |169=>some Bi
 |170=>some vO
 |171=>some GB
 |172=>some Ly
 |173=>some Lz
 |174=>some Bj
 |175=>some GC
 |176=>some qG
 |179=>some GD
 |180=>some LC
 |181=>some Bk
 |182=>some LD
 |183=>some GG
 |184=>some LF
 |185=>some LG
 |186=>some yZ
 |187=>some GJ
 |188=>some LH
 |189=>some LI
 |190=>some LJ
 |191=>some LK
 |192=>some GK
 |194=>some GL
 |195=>some DS
 |196=>some GM
 |197=>some LM
 |198=>some LN
 |199=>some LO
 |200=>some LQ
 |201=>some LR
 |202=>some Bl
 |203=>some LS
 |204=>some DT
 |205=>some LU
 |206=>some GO
 |207=>some GP
 |208=>some UF
 |209=>some LV
 |210=>some GQ
 |211=>some LW
 |212=>some LX
 |213=>some GR
 |214=>some GS
 |215=>some LY
 |216=>some LZ
 |217=>some L0
 |218=>some Bo
 |219=>some DU
 |220=>some xe
 |221=>some L1
 |222=>some GU
 |223=>some L2
 |224=>some L3
 |225=>some DV
 |226=>some L4
 |227=>some GV
 |228=>some GW
 |231=>some GX
 |232=>some DW
 |235=>some L5
 |_=>none
set_option maxHeartbeats 8000000 in
theorem agD:∀f vf,F1 f=some vf→∃fn,Tryz.prog.funcs[f]?=some fn∧bP Tryz.prog bS fn vf=true:=fun f vf h=>by
 unfold F1 at h;split at h<;>first|(cases h;exact arz (by as_aux_lemma=>kernel_rfl))|cases h
def F(f:FuncId):Option bq :=
 if f≤161 then F0 f else F1 f
theorem agE:∀f vf,F f=some vf→∃fn,Tryz.prog.funcs[f]?=some fn∧bP Tryz.prog bS fn vf=true:=fun f vf h=>by
 unfold F at h;split at h
 ·exact agC f vf h
 exact agD f vf h
end Go.Proofs.YtmpikpodpgnjhaaGreat
