/- The functions of the program, as the value machine has them, by program. -/
import Derived.Test.YtmpikpodpgnjhaaGreatQ0
import Derived.Test.YtmpikpodpgnjhaaGreatQ1
import Derived.Test.YtmpikpodpgnjhaaGreatQ2
import Derived.Test.YtmpikpodpgnjhaaGreatProg
namespace Go.Proofs.YtmpikpodpgnjhaaGreat
open Go.Vm
set_option maxRecDepth 100000
def DE:List (Nat×Nat):=[(146,2),(229,0),(230,1)]
def UJ(P:Program)(ps:List (Nat×Nat))(k:FuncId)(vf:ba):Bool:=match P.funcs[k]? with
 |some fn=>uZ P ps fn vf
 |none=>false
theorem UK{P:Program}{ps:List (Nat×Nat)}{k:FuncId}{vf:ba}(h:UJ P ps k vf=true):∃fn,P.funcs[k]?=some fn∧uZ P ps fn vf=true:=by
 unfold UJ at h;split at h
 ·exact⟨_,by assumption,h⟩
 ·cases h
def F0:FuncId→Option ba
 |6=>some CY
 |12=>some Rh
 |13=>some Ri
 |14=>some Rj
 |15=>some Rk
 |16=>some Ro
 |17=>some F6
 |19=>some A6
 |22=>some Rq
 |23=>some F7
 |24=>some KF
 |26=>some C1
 |27=>some C2
 |28=>some KG
 |29=>some A7
 |30=>some KI
 |31=>some F8
 |32=>some F9
 |34=>some RD
 |35=>some Gb
 |36=>some RG
 |42=>some u6
 |52=>some RK
 |53=>some RM
 |54=>some Gd
 |55=>some C9
 |56=>some Ge
 |57=>some RP
 |58=>some KK
 |59=>some KL
 |60=>some KO
 |61=>some Df
 |63=>some RW
 |64=>some RX
 |65=>some RZ
 |67=>some Gj
 |68=>some Dj
 |69=>some Dk
 |70=>some A8
 |71=>some R6
 |72=>some qp
 |73=>some A9
 |74=>some KQ
 |75=>some KR
 |76=>some Sc
 |77=>some KS
 |79=>some Se
 |86=>some Dl
 |87=>some Dn
 |88=>some Sf
 |89=>some Sq
 |91=>some Gk
 |93=>some Sr
 |94=>some Su
 |95=>some KT
 |110=>some Sy
 |111=>some Sz
 |112=>some Gl
 |113=>some xD
 |114=>some Dp
 |115=>some SB
 |116=>some Gm
 |117=>some KU
 |118=>some Dq
 |119=>some KV
 |120=>some Ba
 |121=>some Gn
 |122=>some Du
 |123=>some KX
 |124=>some SM
 |125=>some SO
 |126=>some SP
 |127=>some Dx
 |128=>some SV
 |129=>some KZ
 |130=>some SY
 |131=>some K1
 |132=>some K2
 |133=>some S8
 |134=>some K3
 |135=>some Bb
 |136=>some K4
 |137=>some K5
 |138=>some Gp
 |139=>some Gq
 |143=>some Gr
 |144=>some K6
 |145=>some Tb
 |147=>some Tc
 |153=>some Te
 |154=>some Th
 |155=>some Tj
 |156=>some Tl
 |157=>some Tn
 |158=>some To
 |159=>some Gx
 |160=>some Tq
 |161=>some Ts
 |162=>some La
 |163=>some Lc
 |_=>none
set_option maxHeartbeats 8000000 in
theorem afY:∀f vf,F0 f=some vf→∃fn,Tryz.prog.funcs[f]?=some fn∧uZ Tryz.prog DE fn vf=true:=fun f vf h=>by
 unfold F0 at h;split at h<;>first|(cases h;exact UK (by as_aux_lemma=>kernel_rfl))|cases h
def F1:FuncId→Option ba
 |164=>some Tv
 |165=>some Tx
 |166=>some Tz
 |167=>some TB
 |168=>some Gy
 |169=>some Dy
 |170=>some xE
 |171=>some Ld
 |172=>some TD
 |173=>some TF
 |174=>some Dz
 |175=>some Lh
 |176=>some rj
 |179=>some Lj
 |180=>some TN
 |181=>some DA
 |182=>some TP
 |183=>some Ll
 |184=>some TQ
 |185=>some TR
 |186=>some Bc
 |187=>some Lm
 |188=>some TU
 |189=>some TV
 |190=>some TX
 |191=>some TY
 |192=>some Ln
 |194=>some Lo
 |195=>some GB
 |196=>some Lp
 |197=>some T3
 |198=>some T4
 |199=>some T6
 |200=>some T8
 |201=>some Ua
 |202=>some DB
 |203=>some Uc
 |204=>some GD
 |205=>some Ue
 |206=>some Lr
 |207=>some Ls
 |208=>some DC
 |209=>some Ug
 |210=>some Lt
 |211=>some Ui
 |212=>some Uk
 |213=>some Lu
 |214=>some Lw
 |215=>some Ul
 |216=>some Um
 |217=>some Uq
 |218=>some DD
 |219=>some GG
 |220=>some zl
 |221=>some Ux
 |222=>some Lx
 |223=>some UB
 |224=>some UC
 |225=>some GH
 |226=>some UG
 |227=>some Ly
 |228=>some Lz
 |231=>some LA
 |232=>some GI
 |235=>some UI
 |_=>none
set_option maxHeartbeats 8000000 in
theorem afZ:∀f vf,F1 f=some vf→∃fn,Tryz.prog.funcs[f]?=some fn∧uZ Tryz.prog DE fn vf=true:=fun f vf h=>by
 unfold F1 at h;split at h<;>first|(cases h;exact UK (by as_aux_lemma=>kernel_rfl))|cases h
def F(f:FuncId):Option ba :=
 if f≤163 then F0 f else F1 f
theorem af0:∀f vf,F f=some vf→∃fn,Tryz.prog.funcs[f]?=some fn∧uZ Tryz.prog DE fn vf=true:=fun f vf h=>by
 unfold F at h;split at h
 ·exact afY f vf h
 exact afZ f vf h
end Go.Proofs.YtmpikpodpgnjhaaGreat
