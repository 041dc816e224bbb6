/- The functions of the program, as the value machine has them, by program. -/
import Derived.Test.YtocclbnghhaejaaGreatQ0
import Derived.Test.YtocclbnghhaejaaGreatQ1
import Derived.Test.YtocclbnghhaejaaGreatQ2
import Derived.Test.YtocclbnghhaejaaGreatProg
namespace Go.Proofs.YtocclbnghhaejaaGreat
open Go.Vm
set_option maxRecDepth 100000
def F5:List (Nat×Nat):=[(182,2),(246,0),(247,1)]
def YA(P:Program)(ps:List (Nat×Nat))(k:FuncId)(vf:bb):Bool:=match P.funcs[k]? with
 |some fn=>wi P ps fn vf
 |none=>false
theorem YB{P:Program}{ps:List (Nat×Nat)}{k:FuncId}{vf:bb}(h:YA P ps k vf=true):∃fn,P.funcs[k]?=some fn∧wi P ps fn vf=true:=by
 unfold YA at h;split at h
 ·exact⟨_,by assumption,h⟩
 ·cases h
def F0:FuncId→Option bb
 |7=>some afF
 |8=>some al4
 |9=>some ar4
 |10=>some abB
 |12=>some UL
 |13=>some UM
 |14=>some UN
 |15=>some UP
 |16=>some Bk
 |19=>some FB
 |20=>some FC
 |21=>some Np
 |22=>some Di
 |25=>some Br
 |28=>some U5
 |29=>some U7
 |33=>some wy
 |35=>some asc
 |36=>some atO
 |37=>some afJ
 |39=>some afO
 |41=>some amp
 |44=>some afQ
 |46=>some atV
 |47=>some auq
 |48=>some Vg
 |49=>some EJ
 |50=>some Iy
 |51=>some auG
 |52=>some ZU
 |53=>some IU
 |54=>some Vh
 |55=>some Vj
 |56=>some Ny
 |57=>some IV
 |60=>some IW
 |61=>some FJ
 |62=>some IX
 |63=>some FK
 |64=>some Dj
 |65=>some Vy
 |66=>some rT
 |67=>some Dk
 |68=>some NB
 |70=>some VF
 |71=>some ND
 |77=>some VQ
 |78=>some IY
 |84=>some V4
 |85=>some Dn
 |86=>some NK
 |87=>some FM
 |89=>some Dp
 |90=>some auJ
 |91=>some auK
 |92=>some amZ
 |94=>some auN
 |96=>some am0
 |97=>some Wc
 |98=>some aaf
 |99=>some auQ
 |100=>some auR
 |101=>some auT
 |102=>some auU
 |103=>some auW
 |104=>some auX
 |105=>some IZ
 |106=>some auY
 |107=>some FN
 |108=>some Wg
 |109=>some Wh
 |110=>some Wi
 |111=>some FO
 |112=>some auZ
 |113=>some NM
 |114=>some Wr
 |115=>some FQ
 |116=>some NO
 |117=>some NQ
 |118=>some Wy
 |119=>some NR
 |120=>some NS
 |121=>some Dt
 |122=>some NT
 |123=>some NU
 |124=>some I0
 |125=>some I1
 |128=>some WB
 |129=>some Du
 |130=>some WD
 |133=>some NY
 |134=>some N3
 |135=>some FT
 |136=>some I5
 |137=>some N4
 |138=>some WM
 |139=>some WN
 |140=>some au2
 |141=>some au3
 |142=>some au4
 |_=>none
set_option maxHeartbeats 8000000 in
theorem aln:∀f vf,F0 f=some vf→∃fn,Tryz.prog.funcs[f]?=some fn∧wi Tryz.prog F5 fn vf=true:=fun f vf h=>by
 unfold F0 at h;split at h<;>first|(cases h;exact YB (by as_aux_lemma=>kernel_rfl))|cases h
def F1:FuncId→Option bb
 |143=>some au6
 |144=>some au7
 |145=>some am5
 |146=>some I7
 |147=>some WO
 |148=>some IC
 |149=>some au9
 |150=>some WQ
 |151=>some FU
 |152=>some WV
 |153=>some I8
 |154=>some WX
 |155=>some zQ
 |156=>some WZ
 |157=>some W1
 |158=>some W3
 |159=>some W5
 |160=>some W7
 |161=>some W9
 |162=>some FV
 |163=>some FW
 |164=>some N8
 |165=>some N9
 |166=>some s7
 |167=>some I9
 |168=>some Ja
 |169=>some Oa
 |170=>some Dy
 |171=>some Jb
 |172=>some FX
 |173=>some Oc
 |174=>some Xo
 |175=>some Xq
 |176=>some Xs
 |177=>some avb
 |178=>some abI
 |179=>some Xu
 |180=>some Xv
 |181=>some afS
 |183=>some Xx
 |184=>some Xy
 |185=>some Jc
 |186=>some Xz
 |187=>some XB
 |188=>some XC
 |189=>some Od
 |190=>some Oe
 |191=>some XH
 |192=>some FY
 |193=>some XJ
 |194=>some XK
 |195=>some XM
 |196=>some XO
 |197=>some XP
 |198=>some Of
 |199=>some Og
 |200=>some XS
 |201=>some XU
 |202=>some Jd
 |203=>some FZ
 |204=>some zR
 |205=>some Oh
 |206=>some XW
 |207=>some Oi
 |208=>some XX
 |209=>some XY
 |210=>some Dz
 |211=>some Oj
 |212=>some abZ
 |213=>some Ol
 |214=>some X2
 |215=>some Jg
 |216=>some Om
 |217=>some X3
 |218=>some X4
 |219=>some X6
 |220=>some X8
 |221=>some X9
 |222=>some Yb
 |223=>some Ji
 |224=>some Yd
 |225=>some On
 |226=>some Oo
 |227=>some F3
 |228=>some Yh
 |229=>some Oq
 |230=>some Yj
 |231=>some Yl
 |232=>some Ot
 |233=>some Ou
 |234=>some Ym
 |235=>some Yn
 |236=>some Yq
 |237=>some F4
 |238=>some Jj
 |239=>some Bx
 |240=>some Ov
 |241=>some Yv
 |242=>some Yw
 |243=>some Jk
 |_=>none
set_option maxHeartbeats 8000000 in
theorem alo:∀f vf,F1 f=some vf→∃fn,Tryz.prog.funcs[f]?=some fn∧wi Tryz.prog F5 fn vf=true:=fun f vf h=>by
 unfold F1 at h;split at h<;>first|(cases h;exact YB (by as_aux_lemma=>kernel_rfl))|cases h
def F2:FuncId→Option bb
 |244=>some Ox
 |245=>some Oy
 |248=>some Oz
 |_=>none
set_option maxHeartbeats 8000000 in
theorem azu:∀f vf,F2 f=some vf→∃fn,Tryz.prog.funcs[f]?=some fn∧wi Tryz.prog F5 fn vf=true:=fun f vf h=>by
 unfold F2 at h;split at h<;>first|(cases h;exact YB (by as_aux_lemma=>kernel_rfl))|cases h
def F(f:FuncId):Option bb :=
 if f≤142 then F0 f else if f≤243 then F1 f else F2 f
theorem alp:∀f vf,F f=some vf→∃fn,Tryz.prog.funcs[f]?=some fn∧wi Tryz.prog F5 fn vf=true:=fun f vf h=>by
 unfold F at h;split at h
 ·exact aln f vf h
 split at h
 ·exact alo f vf h
 exact azu f vf h
end Go.Proofs.YtocclbnghhaejaaGreat
