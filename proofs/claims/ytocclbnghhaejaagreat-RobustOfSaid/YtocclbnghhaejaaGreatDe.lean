/- Parts of the proof, joined: Ref6, Dam8, Dst1, Dsm1, Drn1, Drn2, Rch1, Rch2, Rch3, Rch4, Rch5, Riv1, Cas1, Cas2, Fla1, Cas3. -/
import Derived.Test.YtocclbnghhaejaaGreatDd
import Derived.Test.YtocclbnghhaejaaGreatDa
namespace Go.Proofs.YtocclbnghhaejaaGreat
set_option linter.all false
open Go.Vm
attribute [local simp] lQ lR kP lP
theorem anC(d:Dm)(s:Ds)(inf los rel:Int):∃G',aX F 85 [dm d,dst s,i64 inf,i64 los,i64 rel] []=some (so d s inf los rel,G'):=by
 suffices h:∀Q:V→List aP→Prop,(∀G',Q (so d s inf los rel) G')→gy (aX F) 85 [dm d,dst s,i64 inf,i64 los,i64 rel] [] Q by
  obtain⟨_,G',h,rfl⟩:=h (fun v G'=>v=so d s inf los rel) fun _=>rfl;exact⟨G',h⟩
 intro Q hQ;refine gS rfl rfl ?_;by_cases hd:dE d s=0
 ·obtain⟨qc,hf⟩:=GI hd
  have vQ:lvl d s=jG d.r s.v:=by simp[lvl,hd]
  by_cases ho:[inf,los,rel].any wH=false
  ·have he:nB d s inf los rel=0:=by unfold nB;rw[if_neg (fun g=>g hd),ho];rfl
   unfold so at hQ;rw[if_pos he]at hQ;have hx:=ho;simp only[wH,List.any_cons,List.any_nil,Bool.or_false,Bool.or_eq_false_iff,Bool.not_eq_false',decide_eq_true_eq]at hx;obtain⟨x1,x2,x3⟩:=hx;have i1:(decide (0≤inf)&&decide (inf≤1073741824))=true:=by simp;omega
   have i2:(decide (0≤los)&&decide (los≤1073741824))=true:=by simp;omega
   have i3:(decide (0≤rel)&&decide (rel≤1073741824))=true:=by simp;omega
   have p:=PJ qc hf x1 x2 x3;have hv:=hf.1;have hC:=JU qc.r;have hD:=JT qc.r;have GP:=Jr d.r d.r.d [];rw[amY qc.r,if_pos rfl,show ik d.r.c d.r.d=DR d from rfl]at GP;have GQ:=Jr d.r d.r.t [];rw[Pw qc.r,if_pos rfl,show ik d.r.c d.r.t=kD d from rfl]at GQ;have hL:s.v+inf-min los (s.v+inf)=eh s inf los:=rfl;have rC:max 0 (eh s inf los-DR d)=jX d (eh s inf los):=by unfold jX;omega
   have hLr:0≤eh s inf los∧eh s inf los≤4611686018427387904:=by unfold eh;omega
   have PR:0≤jX d (eh s inf los)∧jX d (eh s inf los)≤4611686018427387904:=by unfold jX;omega
   have hU:=anA qc hf (q:=min rel (jX d (eh s inf los))) (by omega) []
   rw[show min (min rel (jX d (eh s inf los))) (200*d.gr)=kT d rel (eh s inf los) from rfl]at hU;rw[show dN (gK d s (kT d rel (eh s inf los))) d.u.length=fW d s inf los rel from rfl]at hU;have hT:=p.T0;have hTr:=p.Tr;have hW:min rel (jX d (eh s inf los))-fW d s inf los rel=mZ d rel (eh s inf los) (fW d s inf los rel):=rfl;have hS:=amS d.g s.g (jG d.r s.v) (mZ d rel (eh s inf los) (fW d s inf los rel)) [];have hF:=JY d.g s.g (jG d.r s.v) (mZ d rel (eh s inf los) (fW d s inf los rel))
   have hP:min (nA d.g s.g (jG d.r s.v) (mZ d rel (eh s inf los) (fW d s inf los rel))) (jX d (eh s inf los)-fW d s inf los rel)=lC d s inf los rel:=rfl;have hP0:=p.P0;have hP1:=p.P1;have hO:max 0 (eh s inf los-(fW d s inf los rel+lC d s inf los rel)-kD d)=sn d s inf los rel:=by unfold sn;omega
   have hO0:0≤sn d s inf los rel∧sn d s inf los rel≤4611686018427387904:=by unfold sn;omega
   have hmn:min 1073741824 (fW d s inf los rel+lC d s inf los rel)=min (fW d s inf los rel+lC d s inf los rel) 1073741824:=Int.min_comm _ _;unfold lU lD at hQ;generalize sn d s inf los rel=O at *;generalize lC d s inf los rel=P at *;generalize mZ d rel (eh s inf los) (fW d s inf los rel)=W at *;generalize fW d s inf los rel=T at *;generalize hLL:eh s inf los=L at *;simp (config:={ maxSteps:=2000000 }) +contextual (disch:=omega) [-getElem?_pos,-List.length_eq_zero_iff,-Int.natCast_eq_zero,wrap64,Dn,GO,hd,vQ,cT,i1,i2,i3,GP,GQ]
   simp (config:={ maxSteps:=2000000 }) +contextual (disch:=omega) [-getElem?_pos,-List.length_eq_zero_iff,-Int.natCast_eq_zero,wrap64,hL,rC,hU];simp (config:={ maxSteps:=2000000 }) +contextual (disch:=omega) [-getElem?_pos,-List.length_eq_zero_iff,-Int.natCast_eq_zero,wrap64,hW,hS,hP,hO,hmn];exact hQ _
  ·have ho:[inf,los,rel].any wH=true:=(Bool.eq_false_or_eq_true _).resolve_right ho
   have he:nB d s inf los rel=1:=by unfold nB;rw[if_neg (fun g=>g hd),ho];rfl
   unfold so at hQ;rw[he,if_neg (by omega)]at hQ
   simp only[wH,List.any_cons,List.any_nil,Bool.or_false]at ho;by_cases i1:0≤inf∧inf≤1073741824
   ·by_cases i2:0≤los∧los≤1073741824
    ·by_cases i3:0≤rel∧rel≤1073741824
     ·simp[i1,i2,i3]at ho
     ·have j1:(decide (0≤inf)&&decide (inf≤1073741824))=true:=by simp;omega
      have j2:(decide (0≤los)&&decide (los≤1073741824))=true:=by simp;omega
      have j3:(decide (0≤rel)&&decide (rel≤1073741824))=false:=by simp;omega
      simp (config:={ maxSteps:=2000000 }) +contextual (disch:=omega) [-getElem?_pos,-List.length_eq_zero_iff,-Int.natCast_eq_zero,wrap64,Dn,GO,hd,vQ,cT,j1,j2,j3];exact hQ _
    ·have j1:(decide (0≤inf)&&decide (inf≤1073741824))=true:=by simp;omega
     have j2:(decide (0≤los)&&decide (los≤1073741824))=false:=by simp;omega
     simp (config:={ maxSteps:=2000000 }) +contextual (disch:=omega) [-getElem?_pos,-List.length_eq_zero_iff,-Int.natCast_eq_zero,wrap64,Dn,GO,hd,vQ,cT,j1,j2];exact hQ _
   ·have j1:(decide (0≤inf)&&decide (inf≤1073741824))=false:=by simp;omega
    simp (config:={ maxSteps:=2000000 }) +contextual (disch:=omega) [-getElem?_pos,-List.length_eq_zero_iff,-Int.natCast_eq_zero,wrap64,Dn,GO,hd,vQ,cT,j1];exact hQ _
 ·have he:nB d s inf los rel=dE d s:=by unfold nB;rw[if_pos hd]
  unfold so at hQ;rw[he,if_neg hd]at hQ;simp[wrap64,Dn,GO,hd];exact hQ _
theorem anI(s:List Us)(hs:s.length≤1000)(G:List aP):aX F 124 [jT s] G=some (Ge s,G):=by
 cases s with
 |nil =>
  refine Mr (p:=0) (m:=3) rfl rfl rfl rfl ?_ ?_
  ·simp (disch:=omega) [wrap64,I0]
  ·simp (disch:=omega) [wrap64,I0]
 |cons a s =>
  have hs:s.length+1≤1000:=by simpa using hs
  show aX F 124 [.slice none 3 (a.row::s.map Us.row)] G=some (.slice (some 0) 3 (a.row::s.map Us.row),G);refine Ms (p:=0) rfl rfl rfl (fun m=>by simp) ?_
  simp (disch:=omega) [wrap64,I0]
theorem anJ(s:List Gs)(hs:s.length≤1000)(G:List aP):aX F 125 [jJ s] G=some (JZ s,G):=by
 cases s with
 |nil =>
  refine Mr (p:=0) (m:=2) rfl rfl rfl rfl ?_ ?_
  ·simp (disch:=omega) [wrap64,I1]
  ·simp (disch:=omega) [wrap64,I1]
 |cons a s =>
  have hs:s.length+1≤1000:=by simpa using hs
  show aX F 125 [.slice none 2 (a.row::s.map Gs.row)] G=some (.slice (some 0) 2 (a.row::s.map Gs.row),G);refine Ms (p:=0) rfl rfl rfl (fun m=>by simp) ?_
  simp (disch:=omega) [wrap64,I1]
noncomputable def BU(d:Dm)(s:Ds)(A B C:List Int):Nat→Ds
 |0=>s
 |i+1=>lU d (BU d s A B C i) (nth A i) (nth B i) (nth C i)
noncomputable def rnR(d:Dm)(s:Ds)(A B C:List Int)(i:Nat):Dr:=lD d (BU d s A B C i) (nth A i) (nth B i) (nth C i)
noncomputable def J2(d:Dm)(s:Ds)(A B C:List Int)(n:Nat):List Dr:=(List.range n).map (rnR d s A B C)
end Go.Proofs.YtocclbnghhaejaaGreat
namespace Go.Proofs.YtocclbnghhaejaaGreat
set_option linter.all false
open Go.Vm
end Go.Proofs.YtocclbnghhaejaaGreat
namespace Go.Proofs.YtocclbnghhaejaaGreat
set_option linter.all false
open Go.Vm
theorem DV{α:Type}[Inhabited α]{l:List α}{i k:Nat}:nth (l.drop k) i=nth l (k+i):=by simp[nth,List.getElem?_drop]
theorem aag{d:Dm}{s:Ds}{A B C:List Int}{m:Nat}:∀i,BU d (BU d s A B C m) (A.drop m) (B.drop m) (C.drop m) i=BU d s A B C (m+i)
 |0=>rfl
 |i+1=>by
  rw[←Nat.add_assoc];simp only[BU];rw[aag i,DV,DV,DV]
theorem avW{d:Dm}{s:Ds}{A B C:List Int}{m n:Nat}:J2 d s A B C m++J2 d (BU d s A B C m) (A.drop m) (B.drop m) (C.drop m) n=J2 d s A B C (m+n):=by
 unfold J2;rw[List.range_add,List.map_append,List.map_map];congr 1;refine List.map_congr_left fun i _=>?_;unfold rnR;rw[aag,DV,DV,DV];rfl
end Go.Proofs.YtocclbnghhaejaaGreat
namespace Go.Proofs.YtocclbnghhaejaaGreat
set_option linter.all false
open Go.Vm
def okF(A B C:List Int)(i:Nat):Prop:=(0≤nth A i∧nth A i≤1073741824)∧(0≤nth B i∧nth B i≤1073741824)∧(0≤nth C i∧nth C i≤1073741824)
instance {A B C:List Int} {i:Nat}:Decidable (okF A B C i):=inferInstanceAs (Decidable (_∧_∧_))
def okA(A B C:List Int):Prop:=∀i,i<A.length→okF A B C i
noncomputable instance {A B C:List Int}:Decidable (okA A B C):=Classical.propDecidable _
end Go.Proofs.YtocclbnghhaejaaGreat
namespace Go.Proofs.YtocclbnghhaejaaGreat
set_option linter.all false
open Go.Vm
attribute [local simp] lQ lR kP lP
theorem anL(r:Dr)(ht:0≤r.tur∧r.tur≤1099511627776)(hs:0≤r.spi∧r.spi≤1099511627776)(ho:0≤r.ovr∧r.ovr≤1099511627776)(G:List aP):aX F 86 [dr r] G=some (i64 (r.tur+r.spi+r.ovr),G) :=
 bM rfl rfl (by
  simp (disch:=omega) [wrap64,NK])
def eJ(l:List Int)(b:Int):Prop:=∀i,i<l.length→0≤nth l i∧nth l i≤b
noncomputable instance {l:List Int} {b:Int}:Decidable (eJ l b):=Classical.propDecidable _
def sm(l:List Int):Nat→Int
 |0=>0
 |i+1=>sm l i+nth l i
theorem yq{l:List Int}{b:Int}:∀{i:Nat},(∀j,j<i→0≤nth l j∧nth l j≤b)→0≤sm l i∧sm l i≤b*i
 |0,_=>by simp[sm]
 |i+1,h=>by
  have:=yq fun j hj=>h j (Nat.lt_succ_of_lt hj);have:=h i (by omega)
  have:b*((i+1:Nat):Int)=b*i+b:=by simp[Int.mul_add]
  simp only[sm];omega
structure Rc where
 w:List Int
 den:Int
 deriving Inhabited
abbrev Rc.row(r:Rc):List V:=[ints r.w,i64 r.den]
abbrev rc(r:Rc):V:=.agg r.row
abbrev wv(p:List Int):V:=.agg [ints p]
noncomputable def eM(r:Rc):Int :=
 if r.w.length=0∨nth r.w (r.w.length-1)=0 then 3 else if 24<r.w.length then 10 else if eJ r.w 10000 then (if sm r.w r.w.length=r.den then 0 else 2) else 1
theorem wI(r:Rc)(hl:r.w.length≤17592186044416)(G:List aP):aX F 111 [rc r] G=some (i64 (eM r),G) :=
 bM rfl rfl (by
  obtain⟨w,den⟩:=r;simp only at hl;generalize hW:eM ⟨w,den⟩=W;unfold eM at hW;simp only at hW;by_cases h1:w.length=0
  ·rw[if_pos (.inl h1)]at hW
   have ju:(w.length:Int)=0:=by omega
   simp (disch:=omega) [-getElem?_pos,-Int.natCast_eq_zero,wrap64,FO,ju];exact hW
  have ju:¬ (w.length:Int)=0:=by omega
  by_cases h2:nth w (w.length-1)=0
  ·rw[if_pos (.inr h2)]at hW
   simp (disch:=omega) [-getElem?_pos,-Int.natCast_eq_zero,wrap64,FO,ju,dj (l:=w),h2];exact hW
  rw[if_neg (by omega)]at hW
  by_cases h3:24<w.length
  ·rw[if_pos h3]at hW
   have gU:(24:Int)<w.length:=by omega
   simp (disch:=omega) [-getElem?_pos,-Int.natCast_eq_zero,wrap64,FO,ju,dj (l:=w),h2,gU];exact hW
  rw[if_neg h3]at hW;have gU:¬ (24:Int)<w.length:=by omega
  simp (disch:=omega) [-getElem?_pos,-Int.natCast_eq_zero,wrap64,FO,ju,dj (l:=w),h2,gU];refine go_loop (fun i:Nat=>aiL (sm w i) (ints w) w.length i (Rc.row ⟨w,den⟩) G) (fun i=>i≤w.length∧∀j,j<i→0≤nth w j∧nth w j≤10000) (fun i=>w.length-i) 0 rfl (by simp[sm]) (by simp) ?_
  rintro i ⟨hi,hj⟩;have hs:=yq hj;simp (disch:=omega) [-getElem?_pos,-Int.natCast_eq_zero,wrap64,Wj];refine bE (fun h5=>?_) (fun h5=>?_)
  ·have h5:i<w.length:=by omega
   by_cases h6:0≤nth w i∧nth w i≤10000
   ·have gV:(decide (0≤nth w i)&&decide (nth w i≤10000))=true:=by simp;exact h6
    simp (disch:=omega) [-getElem?_pos,-Int.natCast_eq_zero,wrap64,dj (l:=w),dC,cT,gV];refine bF (i+1) (by simp[sm]) ⟨by omega,fun j h7=>?_⟩ (by omega)
    rcases Nat.lt_or_ge j i with h8|h8
    ·exact hj j h8
    ·rwa [show j=i by omega]
   ·have gV:(decide (0≤nth w i)&&decide (nth w i≤10000))=false:=by simp;omega
    rw[if_neg (fun g:eJ w 10000=>h6 (g i h5))]at hW;simp (disch:=omega) [-getElem?_pos,-Int.natCast_eq_zero,wrap64,dj (l:=w),dC,cT,gV];exact hW
  ·obtain rfl:i=w.length:=by omega
   rw[if_pos (show eJ w 10000 from hj)]at hW;by_cases h7:sm w w.length=den
   ·rw[if_pos h7]at hW
    simp (disch:=omega) [-getElem?_pos,-Int.natCast_eq_zero,wrap64,h7];exact hW
   ·rw[if_neg h7]at hW
    simp (disch:=omega) [-getElem?_pos,-Int.natCast_eq_zero,wrap64,h7];exact hW)
theorem wJ(r:Rc)(hl:r.w.length≤17592186044416)(G:List aP):aX F 115 [rc r] G=some (i64 (eM r),G) :=
 bM rfl rfl (by
  obtain⟨w,den⟩:=r;simp only at hl;generalize hW:eM ⟨w,den⟩=W;unfold eM at hW;simp only at hW;by_cases h1:w.length=0
  ·rw[if_pos (.inl h1)]at hW
   have ju:(w.length:Int)=0:=by omega
   simp (disch:=omega) [-getElem?_pos,-Int.natCast_eq_zero,wrap64,FQ,ju];exact hW
  have ju:¬ (w.length:Int)=0:=by omega
  by_cases h2:nth w (w.length-1)=0
  ·rw[if_pos (.inr h2)]at hW
   simp (disch:=omega) [-getElem?_pos,-Int.natCast_eq_zero,wrap64,FQ,ju,dj (l:=w),h2];exact hW
  rw[if_neg (by omega)]at hW
  by_cases h3:24<w.length
  ·rw[if_pos h3]at hW
   have gU:(24:Int)<w.length:=by omega
   simp (disch:=omega) [-getElem?_pos,-Int.natCast_eq_zero,wrap64,FQ,ju,dj (l:=w),h2,gU];exact hW
  rw[if_neg h3]at hW;have gU:¬ (24:Int)<w.length:=by omega
  simp (disch:=omega) [-getElem?_pos,-Int.natCast_eq_zero,wrap64,FQ,ju,dj (l:=w),h2,gU];refine go_loop (fun i:Nat=>aiW (sm w i) (ints w) w.length i (Rc.row ⟨w,den⟩) G) (fun i=>i≤w.length∧∀j,j<i→0≤nth w j∧nth w j≤10000) (fun i=>w.length-i) 0 rfl (by simp[sm]) (by simp) ?_
  rintro i ⟨hi,hj⟩;have hs:=yq hj;simp (disch:=omega) [-getElem?_pos,-Int.natCast_eq_zero,wrap64,au0];refine bE (fun h5=>?_) (fun h5=>?_)
  ·have h5:i<w.length:=by omega
   by_cases h6:0≤nth w i∧nth w i≤10000
   ·have gV:(decide (0≤nth w i)&&decide (nth w i≤10000))=true:=by simp;exact h6
    simp (disch:=omega) [-getElem?_pos,-Int.natCast_eq_zero,wrap64,dj (l:=w),dC,cT,gV];refine bF (i+1) (by simp[sm]) ⟨by omega,fun j h7=>?_⟩ (by omega)
    rcases Nat.lt_or_ge j i with h8|h8
    ·exact hj j h8
    ·rwa [show j=i by omega]
   ·have gV:(decide (0≤nth w i)&&decide (nth w i≤10000))=false:=by simp;omega
    rw[if_neg (fun g:eJ w 10000=>h6 (g i h5))]at hW;simp (disch:=omega) [-getElem?_pos,-Int.natCast_eq_zero,wrap64,dj (l:=w),dC,cT,gV];exact hW
  ·obtain rfl:i=w.length:=by omega
   rw[if_pos (show eJ w 10000 from hj)]at hW;by_cases h7:sm w w.length=den
   ·rw[if_pos h7]at hW
    simp (disch:=omega) [-getElem?_pos,-Int.natCast_eq_zero,wrap64,h7];exact hW
   ·rw[if_neg h7]at hW
    simp (disch:=omega) [-getElem?_pos,-Int.natCast_eq_zero,wrap64,h7];exact hW)
def im(r:Rc)(p:List Int):Prop:=p.length≤r.w.length∧(0<p.length→nth p (p.length-1)≠0)∧eJ p 2251799813685248
noncomputable instance {r:Rc} {p:List Int}:Decidable (im r p):=Classical.propDecidable _
theorem aah(r:Rc)(p:List Int)(hl:p.length≤17592186044416)(G:List aP):aX F 162 [rc r,wv p] G=some (.bool (decide (im r p)),G) :=
 bM rfl rfl (by
  obtain⟨w,den⟩:=r;generalize hW:decide (im ⟨w,den⟩ p)=W;have no:¬ im ⟨w,den⟩ p→W=false:=fun h=>by rw[←hW];simp[h]
  unfold im at no;simp only at no;by_cases h1:(w.length:Int)<p.length
  ·simp +contextual (disch:=omega) [-getElem?_pos,wrap64,FV,h1]
   exact no (by omega)
  by_cases h2:0<p.length∧nth p (p.length-1)=0
  ·have mg:(0:Int)<p.length:=by omega
   simp +contextual (disch:=omega) [-getElem?_pos,wrap64,FV,h1,mg,dj (l:=p),h2.2];exact no (fun h=>h.2.1 h2.1 h2.2)
  rcases (by omega:(0:Int)<p.length∧nth p (p.length-1)≠0∨¬ (0:Int)<p.length) with⟨h3,h4⟩ | h3
  ·simp +contextual (disch:=omega) [-getElem?_pos,wrap64,FV,h1,h3,dj (l:=p),h4]
   refine go_loop (fun i:Nat=>ajK (ints p) p.length i G) (fun i=>i≤p.length∧∀j,j<i→0≤nth p j∧nth p j≤2251799813685248) (fun i=>p.length-i) 0 rfl (by simp) (by simp) ?_
   rintro i ⟨hi,hj⟩;simp +contextual (disch:=omega) [-getElem?_pos,wrap64,N7];refine bE (fun h5=>?_) (fun h5=>?_)
   ·have h5:i<p.length:=by omega
    by_cases h6:0≤nth p i∧nth p i≤2251799813685248
    ·have gV:(decide (0≤nth p i)&&decide (nth p i≤2251799813685248))=true:=by simp;exact h6
     simp +contextual (disch:=omega) [-getElem?_pos,wrap64,dj (l:=p),dC,cT,gV];refine bF (i+1) (by simp) ⟨by omega,fun j h7=>?_⟩ (by omega)
     rcases Nat.lt_or_ge j i with h8|h8
     ·exact hj j h8
     ·rwa [show j=i by omega]
    ·have gV:(decide (0≤nth p i)&&decide (nth p i≤2251799813685248))=false:=by simp;omega
     simp +contextual (disch:=omega) [-getElem?_pos,wrap64,dj (l:=p),dC,cT,gV];exact no (fun h=>h6 (h.2.2 i h5))
   ·obtain rfl:i=p.length:=by omega
    rw[←hW,decide_eq_true (show im ⟨w,den⟩ p from⟨by simp only;omega,fun h6 h7=>h2 ⟨h6,h7⟩,hj⟩)]
  ·obtain rfl:p=[]:=List.length_eq_zero_iff.1 (by omega)
   have ju:¬ (w.length:Int)<0:=by omega
   simp +contextual (disch:=omega) [-getElem?_pos,wrap64,FV,ju];unfold Xa;rw[Bc];simp +contextual (disch:=omega) [-getElem?_pos,wrap64,N7];rw[←hW,decide_eq_true (show im ⟨w,den⟩ [] from⟨by simp,by simp,fun i hi=>by simp at hi⟩)])
theorem aai(r:Rc)(hr:r.w.length≤17592186044416)(p:List Int)(hl:p.length≤17592186044416)(G:List aP):aX F 67 [rc r,wv p] G=some (.bool (decide (eM r=0∧im r p)),G) :=
 bM rfl rfl (by
  have hc:=wJ r hr;by_cases hz:eM r=0
  ·rw[hz]at hc
   obtain⟨w,den⟩:=r;rw[show decide (eM ⟨w,den⟩=0∧im ⟨w,den⟩ p)=decide (im ⟨w,den⟩ p) by simp[hz]]
   generalize hW:decide (im ⟨w,den⟩ p)=W;have no:¬ im ⟨w,den⟩ p→W=false:=fun h=>by rw[←hW];simp[h]
   unfold im at no;simp only at no;by_cases h1:(w.length:Int)<p.length
   ·simp +contextual (disch:=omega) [-getElem?_pos,wrap64,Dk,hc,h1]
    exact no (by omega)
   by_cases h2:0<p.length∧nth p (p.length-1)=0
   ·have mg:(0:Int)<p.length:=by omega
    simp +contextual (disch:=omega) [-getElem?_pos,wrap64,Dk,hc,h1,mg,dj (l:=p),h2.2];exact no (fun h=>h.2.1 h2.1 h2.2)
   rcases (by omega:(0:Int)<p.length∧nth p (p.length-1)≠0∨¬ (0:Int)<p.length) with⟨h3,h4⟩ | h3
   ·simp +contextual (disch:=omega) [-getElem?_pos,wrap64,Dk,hc,h1,h3,dj (l:=p),h4]
    refine go_loop (fun i:Nat=>ahI (ints p) p.length i G) (fun i=>i≤p.length∧∀j,j<i→0≤nth p j∧nth p j≤2251799813685248) (fun i=>p.length-i) 0 rfl (by simp) (by simp) ?_
    rintro i ⟨hi,hj⟩;simp +contextual (disch:=omega) [-getElem?_pos,wrap64,NA];refine bE (fun h5=>?_) (fun h5=>?_)
    ·have h5:i<p.length:=by omega
     by_cases h6:0≤nth p i∧nth p i≤2251799813685248
     ·have gV:(decide (0≤nth p i)&&decide (nth p i≤2251799813685248))=true:=by simp;exact h6
      simp +contextual (disch:=omega) [-getElem?_pos,wrap64,dj (l:=p),dC,cT,gV];refine bF (i+1) (by simp) ⟨by omega,fun j h7=>?_⟩ (by omega)
      rcases Nat.lt_or_ge j i with h8|h8
      ·exact hj j h8
      ·rwa [show j=i by omega]
     ·have gV:(decide (0≤nth p i)&&decide (nth p i≤2251799813685248))=false:=by simp;omega
      simp +contextual (disch:=omega) [-getElem?_pos,wrap64,dj (l:=p),dC,cT,gV];exact no (fun h=>h6 (h.2.2 i h5))
    ·obtain rfl:i=p.length:=by omega
     rw[←hW,decide_eq_true (show im ⟨w,den⟩ p from⟨by simp only;omega,fun h6 h7=>h2 ⟨h6,h7⟩,hj⟩)]
   ·obtain rfl:p=[]:=List.length_eq_zero_iff.1 (by omega)
    have ju:¬ (w.length:Int)<0:=by omega
    simp +contextual (disch:=omega) [-getElem?_pos,wrap64,Dk,hc,ju];unfold VB;rw[Bc];simp +contextual (disch:=omega) [-getElem?_pos,wrap64,NA];rw[←hW,decide_eq_true (show im ⟨w,den⟩ [] from⟨by simp,by simp,fun i hi=>by simp at hi⟩)]
  ·generalize hW:decide (eM r=0∧im r p)=W
   simp +contextual (disch:=omega) [-getElem?_pos,wrap64,Dk,hc,hz];rw[←hW];simp[hz])
theorem anM(r:Rc)(hr:r.w.length≤17592186044416)(p:List Int)(hl:p.length≤17592186044416)(G:List aP):aX F 119 [rc r,wv p] G=some (.bool (decide (eM r=0∧im r p)),G) :=
 bM rfl rfl (by
  have hc:=wI r hr;have hf:=aah r p hl;by_cases hz:eM r=0
  ·simp[wrap64,NR,hc,hf,hz]
  ·simp[wrap64,NR,hc,hf,hz])
structure Rv(r:Rc):Prop where
 pos:1≤r.w.length
 len:r.w.length≤24
 last:nth r.w (r.w.length-1)≠0
 w:∀i,i<r.w.length→0≤nth r.w i∧nth r.w i≤10000
 sum:sm r.w r.w.length=r.den
 den:1≤r.den∧r.den≤240000
theorem te{r:Rc}(h:eM r=0):Rv r:=by
 unfold eM at h;split at h
 ·cases h
 split at h
 ·cases h
 split at h
 ·rename_i h1 h2 h3
  split at h
  ·rename_i h4
   have h0:1≤r.w.length:=by omega
   have s1:=yq (l:=r.w) (b:=10000) (i:=r.w.length) h3;have s2:=yq (l:=r.w) (b:=10000) (i:=r.w.length-1) fun j hj=>h3 j (by omega)
   have s3:sm r.w r.w.length=sm r.w (r.w.length-1)+nth r.w (r.w.length-1):=by
    conv=>lhs;rw[show r.w.length=r.w.length-1+1 by omega]
    rfl
   have h5:=h3 (r.w.length-1) (by omega)
   exact⟨h0,by omega,by omega,h3,h4,by omega⟩
  ·cases h
 ·cases h
def rq(r:Rc)(p:List Int)(x:Int)(k:Nat):Int:=nth p k+x*nth r.w k
def uu(r:Rc)(p:List Int)(x:Int):Prop:=∀k,k<r.w.length→rq r p x k≤1125899906842624
noncomputable instance {r:Rc} {p:List Int} {x:Int}:Decidable (uu r p x):=Classical.propDecidable _
def lG(r:Rc)(p:List Int)(x:Int):Int:=rq r p x 0 / r.den
def rN(r:Rc)(p:List Int)(x:Int)(k:Nat):Int:=if k=0 then rq r p x 1+rq r p x 0 % r.den else rq r p x (k+1)
def mh(f:Nat→Int):Nat→Nat
 |0=>0
 |n+1=>if f n=0 then mh f n else n+1
def kj(r:Rc)(p:List Int)(x:Int):List Int:=(List.range (mh (rN r p x) r.w.length)).map (rN r p x)
theorem uw{l:List Int}{i:Nat}(h:l.length≤i):nth l i=0:=by
 simp[nth,List.getD,List.getElem?_eq_none h]
theorem yr{r:Rc}(hr:Rv r){p:List Int}(hp:im r p){x:Int}(hx:0≤x∧x≤1073741824)(k:Nat):0≤rq r p x k∧rq r p x k≤2262537232089088:=by
 have h1:0≤nth p k∧nth p k≤2251799813685248:=by
  rcases Nat.lt_or_ge k p.length with h|h
  ·exact hp.2.2 k h
  ·rw[uw h];omega
 have h2:0≤nth r.w k∧nth r.w k≤10000:=by
  rcases Nat.lt_or_ge k r.w.length with h|h
  ·exact hr.w k h
  ·rw[uw h];omega
 have h3:0≤x*nth r.w k:=Int.mul_nonneg hx.1 h2.1;have h4:x*nth r.w k≤1073741824*10000:=Int.mul_le_mul hx.2 h2.2 h2.1 (by omega)
 unfold rq;omega
theorem aaj{p:List Int}:(dM p).all V.sc=true:=by simp[dM,V.sc]
theorem aak{p:List Int}{n:Nat}(h:p.length≤n):(dM p).take n++(ek n fun _=>0).drop p.length=ek n (nth p):=by
 rw[List.take_of_length_le (by simpa using h)]
 apply List.ext_getElem?;intro i;rcases Nat.lt_or_ge i p.length with h1|h1
 ·rw[List.getElem?_append_left (by simpa using h1),lx h1,nk (by omega)]
 ·rw[List.getElem?_append_right (by simpa using h1),afh,List.getElem?_drop,show p.length+(i-p.length)=i by omega]
  rcases Nat.lt_or_ge i n with h2|h2
  ·rw[nk h2,nk h2,uw h1]
  ·rw[List.getElem?_eq_none (by simpa using h2),List.getElem?_eq_none (by simpa using h2)]
theorem anP{n:Nat}{f:Nat→Int}:(List.take n (ek (n+1) f).tail).all V.sc=true:=by
 rw[List.all_eq_true];intro v hv;have:=List.mem_of_mem_tail (List.mem_of_mem_take hv);simp only[ek,List.mem_map]at this;obtain⟨j,_,rfl⟩:=this;rfl
theorem anQ{n:Nat}{f:Nat→Int}:List.take (n+1) (List.take n (ek (n+1) f).tail)++List.drop n (ek (n+1) f)=ek (n+1) fun k=>if k<n then f (k+1) else f k:=by
 apply List.ext_getElem?;intro i;have hl:(List.take n (ek (n+1) f).tail).length=n:=by simp
 rw[List.take_of_length_le (by rw[hl];omega)]
 rcases Nat.lt_or_ge i n with h|h
 ·rw[List.getElem?_append_left (by rw[hl];exact h),List.getElem?_take_of_lt h,List.getElem?_tail,nk (by omega),nk (by omega),if_pos h]
 ·rw[List.getElem?_append_right (by rw[hl];exact h),hl,List.getElem?_drop,show n+(i-n)=i by omega]
  rcases Nat.lt_or_ge i (n+1) with h2|h2
  ·rw[nk h2,nk h2,if_neg (by omega)]
  ·rw[List.getElem?_eq_none (by simpa using h2),List.getElem?_eq_none (by simpa using h2)]
theorem aal{n m:Nat}{f:Nat→Int}(h:m≤n):kr [none] (chunks 1 (ek n f) 0 m)=some ((List.range m).map fun j=>[V.int .i64 (f j)]):=by
 have e:(ek n f).take m=ek m f:=by
  apply List.ext_getElem?;intro i;rcases Nat.lt_or_ge i m with h1|h1
  ·rw[List.getElem?_take_of_lt h1,nk (by omega),nk h1]
  ·rw[List.getElem?_eq_none (by simp;omega),List.getElem?_eq_none (by simpa using h1)]
 rw[Fe _ _ _ rfl (by simpa using h),List.drop_zero,e,ek,List.map_map]
 exact Iw f _
theorem anR(r:Rc)(hr:Rv r)(p:List Int)(hp:im r p)(x:Int)(hx:0≤x∧x≤1073741824)(G:List aP) :
  aX F 220 [rc r,wv p,i64 x] G=some (.tuple (if uu r p x then [wv (kj r p x),i64 (lG r p x),.bool true] else [.agg [.slice (some 0) 1 []],i64 0,.bool false]),G) :=
 bM rfl rfl (by
  obtain⟨w,den⟩:=r;generalize hW:(V.tuple (if uu ⟨w,den⟩ p x then [wv (kj ⟨w,den⟩ p x),i64 (lG ⟨w,den⟩ p x),.bool true] else [.agg [.slice (some 0) 1 []],i64 0,.bool false]))=W
  have hlen:=hr.len;have gM:=hr.pos;have lM:=hp.1;simp only at hlen gM lM;have PT:p.length≤w.length+1:=by omega
  have PU:∀k,k<w.length→0≤x*nth w k∧x*nth w k≤10737418240000:=fun k hk=>by
   have h2:=hr.w k hk;simp only at h2;have h3:0≤x*nth w k:=Int.mul_nonneg hx.1 h2.1;have h4:x*nth w k≤1073741824*10000:=Int.mul_le_mul hx.2 h2.2 h2.1 (by omega)
   omega
  have PV:∀k,0≤nth p k∧nth p k≤2251799813685248:=fun k=>by
   rcases Nat.lt_or_ge k p.length with h|h
   ·exact hp.2.2 k h
   ·rw[uw h];omega
  simp (disch:=omega) [-getElem?_pos,wrap64,X8,Tu,aaj,aak PT];refine go_loop (fun i:Nat=>akL x (w.length+1) (ints w) w.length i (Rc.row ⟨w,den⟩) [.bV] (ek (w.length+1) fun k=>if k<i then rq ⟨w,den⟩ p x k else nth p k) G) (fun i=>i≤w.length∧∀k,k<i→rq ⟨w,den⟩ p x k≤1125899906842624) (fun i=>w.length-i) 0 rfl (by simp) (by simp) ?_
  rintro i ⟨hi,hj⟩;simp (disch:=omega) [-getElem?_pos,wrap64,X7];refine bE (fun h5=>?_) (fun h5=>?_)
  ·have h5:i<w.length:=by omega
   have hq:=yr hr hp hx i;have ha:=PU i h5;have hb:=PV i;have hf:(fun j=>if j=i then nth p i+x*nth w i else if j<i then rq ⟨w,den⟩ p x j else nth p j)=fun j=>if j<i+1 then rq ⟨w,den⟩ p x j else nth p j:=by
    funext j;by_cases h6:j=i
    ·subst h6;simp[rq]
    ·by_cases h7:j<i
     ·rw[if_neg h6,if_pos h7,if_pos (by omega)]
     ·rw[if_neg h6,if_neg h7,if_neg (by omega)]
   simp (disch:=omega) [-getElem?_pos,wrap64,dj (l:=w),nk,hf];refine bE (fun h7=>?_) (fun h7=>?_)
   ·rw[←hW,if_neg (fun g:uu ⟨w,den⟩ p x=>absurd (g i h5) (by omega))]
   ·refine bF (i+1) (by simp) ⟨by omega,fun k hk=>?_⟩ (by omega)
    rcases Nat.lt_or_ge k i with h8|h8
    ·exact hj k h8
    ·rw[show k=i by omega];omega
  ·obtain rfl:i=w.length:=by omega
   rw[if_pos (show uu ⟨w,den⟩ p x from hj)]at hW;have hf:(ek (w.length+1) fun k=>if k<w.length then rq ⟨w,den⟩ p x k else nth p k)=ek (w.length+1) (rq ⟨w,den⟩ p x):=C3 fun k hk=>by
    by_cases h6:k<w.length
    ·rw[if_pos h6]
    ·rw[if_neg h6,show k=w.length by omega];simp[rq,uw (Nat.le_refl w.length)]
   have hd:=hr.den;simp only at hd;have GS:¬ den=0:=by omega
   have q0:=yr hr hp hx 0;have q1:=yr hr hp hx 1;have d1:(rq ⟨w,den⟩ p x 0).tdiv den=rq ⟨w,den⟩ p x 0 / den:=Int.tdiv_eq_ediv_of_nonneg q0.1;have d2:(rq ⟨w,den⟩ p x 0).tmod den=rq ⟨w,den⟩ p x 0 % den:=Int.tmod_eq_emod_of_nonneg q0.1;have d3:0≤rq ⟨w,den⟩ p x 0 / den:=Int.ediv_nonneg q0.1 (by omega)
   have d4:rq ⟨w,den⟩ p x 0 / den≤rq ⟨w,den⟩ p x 0:=Int.ediv_le_self _ q0.1;have d5:0≤rq ⟨w,den⟩ p x 0 % den:=Int.emod_nonneg _ GS;have d6:rq ⟨w,den⟩ p x 0 % den<den:=Int.emod_lt_of_pos _ (by omega)
   have hg:(ek (w.length+1) fun k=>if k<w.length then (if k=0 then rq ⟨w,den⟩ p x 1+rq ⟨w,den⟩ p x 0 % den else rq ⟨w,den⟩ p x (k+1)) else (if k=1 then rq ⟨w,den⟩ p x 1+rq ⟨w,den⟩ p x 0 % den else rq ⟨w,den⟩ p x k)) =
     ek (w.length+1) fun k=>if k<w.length then rN ⟨w,den⟩ p x k else (if k=1 then rq ⟨w,den⟩ p x 1+rq ⟨w,den⟩ p x 0 % den else rq ⟨w,den⟩ p x k):=C3 fun k hk=>by
    by_cases h6:k<w.length
    ·rw[if_pos h6,if_pos h6];rfl
    ·rw[if_neg h6,if_neg h6]
   simp (disch:=omega) [-getElem?_pos,wrap64,hf,nk,GS,d1,d2,anP,anQ,hg];generalize hh:(fun k=>if k<w.length then rN ⟨w,den⟩ p x k else (if k=1 then rq ⟨w,den⟩ p x 1+rq ⟨w,den⟩ p x 0 % den else rq ⟨w,den⟩ p x k))=h
   have PX:∀k,k<w.length→h k=rN ⟨w,den⟩ p x k:=fun k hk=>by rw[←hh];exact if_pos hk
   refine go_loop (fun m:Nat=>akN m (rq ⟨w,den⟩ p x 0 / den) [.bV] (ek (w.length+1) h) G) (fun m=>m≤w.length∧mh (rN ⟨w,den⟩ p x) m=mh (rN ⟨w,den⟩ p x) w.length) (fun m=>m) w.length rfl (by simp) (by simp) ?_
   rintro m ⟨hm,ht⟩;cases m with
   |zero =>
    simp (disch:=omega) [-getElem?_pos,wrap64,Jh,aal];rw[←hW,wv,kj,← ht];rfl
   |succ m =>
    by_cases h8:rN ⟨w,den⟩ p x m=0
    ·simp (disch:=omega) [-getElem?_pos,wrap64,Jh,nk,PX m hm,h8]
     exact bF m (by simp) ⟨by omega,by rw[←ht,mh,if_pos h8]⟩ (by omega)
    ·simp (disch:=omega) [-getElem?_pos,wrap64,Jh,nk,PX m hm,h8,aal]
     rw[←hW,wv,kj,← ht,mh,if_neg h8,ints,List.map_map];have e:(List.range (m+1)).map (fun j=>[V.int .i64 (h j)])=(List.range (m+1)).map ((fun n=>[i64 n])∘rN ⟨w,den⟩ p x) :=
      List.map_congr_left fun j hj=>by rw[PX j (by have:=List.mem_range.1 hj;omega)];rfl
     rw[e];rfl)
theorem anS{n:Nat}{f g:Nat→Int}(h:∀k,k<n→f (k+1)=g k):(List.take (n+1) ((List.range (n+1)).map fun j=>[V.int .i64 (f j)])).tail=(List.range n).map fun k=>[V.int .i64 (g k)]:=by
 rw[List.take_of_length_le (by simp)]
 apply List.ext_getElem?;intro i;rw[List.getElem?_tail];rcases Nat.lt_or_ge i n with h1|h1
 ·simp[h1,h i h1]
 ·rw[List.getElem?_eq_none (by simp;omega),List.getElem?_eq_none (by simpa using h1)]
theorem aam{n i:Nat}(h:i<n):(List.range n)[i]?=some i:=by simp[h]
theorem anT{n:Nat}{g:Nat→Int}:List.take n ((List.range (n+1)).map fun k=>[V.int .i64 (g k)])=(List.range n).map fun k=>[V.int .i64 (g k)]:=by
 rw[←List.map_take,List.take_range,Nat.min_eq_left (by omega)]
theorem anU(r:Rc)(hr:Rv r)(p:List Int)(hp:im r p)(x:Int)(G:List aP) :
  aX F 137 [rc r,wv p,i64 x] G=some (.tuple (if (0≤x∧x≤1073741824)∧uu r p x then [wv (kj r p x),i64 (lG r p x),i64 0] else [.agg [.slice (some 0) 1 []],i64 0,i64 1]),G) :=
 bM rfl rfl (by
  obtain⟨w,den⟩:=r;generalize hW:(V.tuple (if (0≤x∧x≤1073741824)∧uu ⟨w,den⟩ p x then [wv (kj ⟨w,den⟩ p x),i64 (lG ⟨w,den⟩ p x),i64 0] else [.agg [.slice (some 0) 1 []],i64 0,i64 1]))=W
  have hlen:=hr.len;have gM:=hr.pos;have lM:=hp.1;simp only at hlen gM lM;by_cases hx:0≤x∧x≤1073741824
  case neg =>
   have qF:(decide (0≤x)&&decide (x≤1073741824))=false:=by simp;omega
   simp (disch:=omega) [-getElem?_pos,wrap64,N4,cT,qF];rw[←hW,if_neg (fun g=>hx g.1)]
  have qF:(decide (0≤x)&&decide (x≤1073741824))=true:=by simp;exact hx
  have PT:p.length≤w.length+1:=by omega
  have PU:∀k,k<w.length→0≤x*nth w k∧x*nth w k≤10737418240000:=fun k hk=>by
   have h2:=hr.w k hk;simp only at h2;have h3:0≤x*nth w k:=Int.mul_nonneg hx.1 h2.1;have h4:x*nth w k≤1073741824*10000:=Int.mul_le_mul hx.2 h2.2 h2.1 (by omega)
   omega
  have PV:∀k,0≤nth p k∧nth p k≤2251799813685248:=fun k=>by
   rcases Nat.lt_or_ge k p.length with h|h
   ·exact hp.2.2 k h
   ·rw[uw h];omega
  simp (disch:=omega) [-getElem?_pos,wrap64,N4,cT,qF,Tu,aaj,aak PT];refine go_loop (fun i:Nat=>ajr x (w.length+1) (ints w) w.length i (Rc.row ⟨w,den⟩) [.bV] (ek (w.length+1) fun k=>if k<i then rq ⟨w,den⟩ p x k else nth p k) G) (fun i=>i≤w.length∧∀k,k<i→rq ⟨w,den⟩ p x k≤1125899906842624) (fun i=>w.length-i) 0 rfl (by simp) (by simp) ?_
  rintro i ⟨hi,hj⟩;simp (disch:=omega) [-getElem?_pos,wrap64,WL];refine bE (fun h5=>?_) (fun h5=>?_)
  ·have h5:i<w.length:=by omega
   have hq:=yr hr hp hx i;have ha:=PU i h5;have hb:=PV i;have hf:(fun j=>if j=i then nth p i+x*nth w i else if j<i then rq ⟨w,den⟩ p x j else nth p j)=fun j=>if j<i+1 then rq ⟨w,den⟩ p x j else nth p j:=by
    funext j;by_cases h6:j=i
    ·subst h6;simp[rq]
    ·by_cases h7:j<i
     ·rw[if_neg h6,if_pos h7,if_pos (by omega)]
     ·rw[if_neg h6,if_neg h7,if_neg (by omega)]
   simp (disch:=omega) [-getElem?_pos,wrap64,dj (l:=w),nk,hf];refine bE (fun h7=>?_) (fun h7=>?_)
   ·rw[←hW,if_neg (fun g=>absurd (g.2 i h5) (by omega))]
   ·refine bF (i+1) (by simp) ⟨by omega,fun k hk=>?_⟩ (by omega)
    rcases Nat.lt_or_ge k i with h8|h8
    ·exact hj k h8
    ·rw[show k=i by omega];omega
  ·obtain rfl:i=w.length:=by omega
   rw[if_pos ⟨hx,show uu ⟨w,den⟩ p x from hj⟩]at hW;have hf:(ek (w.length+1) fun k=>if k<w.length then rq ⟨w,den⟩ p x k else nth p k)=ek (w.length+1) (rq ⟨w,den⟩ p x):=C3 fun k hk=>by
    by_cases h6:k<w.length
    ·rw[if_pos h6]
    ·rw[if_neg h6,show k=w.length by omega];simp[rq,uw (Nat.le_refl w.length)]
   have hd:=hr.den;simp only at hd;have GS:¬ den=0:=by omega
   have q0:=yr hr hp hx 0;have q1:=yr hr hp hx 1;have d1:(rq ⟨w,den⟩ p x 0).tdiv den=rq ⟨w,den⟩ p x 0 / den:=Int.tdiv_eq_ediv_of_nonneg q0.1;have d2:(rq ⟨w,den⟩ p x 0).tmod den=rq ⟨w,den⟩ p x 0 % den:=Int.tmod_eq_emod_of_nonneg q0.1;have d3:0≤rq ⟨w,den⟩ p x 0 / den:=Int.ediv_nonneg q0.1 (by omega)
   have d4:rq ⟨w,den⟩ p x 0 / den≤rq ⟨w,den⟩ p x 0:=Int.ediv_le_self _ q0.1;have d5:0≤rq ⟨w,den⟩ p x 0 % den:=Int.emod_nonneg _ GS;have d6:rq ⟨w,den⟩ p x 0 % den<den:=Int.emod_lt_of_pos _ (by omega)
   have hg:∀k,k<w.length→(if k+1=1 then rq ⟨w,den⟩ p x 1+rq ⟨w,den⟩ p x 0 % den else rq ⟨w,den⟩ p x (k+1))=rN ⟨w,den⟩ p x k:=fun k hk=>by
    unfold rN;by_cases h7:k=0
    ·rw[if_pos h7,if_pos (by omega)]
    ·rw[if_neg h7,if_neg (by omega)]
   simp (disch:=omega) [-getElem?_pos,wrap64,hf,nk,GS,d1,d2];rw[anS (f:=fun j=>if j=1 then rq ⟨w,den⟩ p x 1+rq ⟨w,den⟩ p x 0 % den else rq ⟨w,den⟩ p x j) hg]
   refine go_loop (fun m:Nat=>⟨[(6,.bf 6 0),(9,.slice none 1 ((List.range m).map fun k=>[V.int .i64 (rN ⟨w,den⟩ p x k)])),(12,i64 (rq ⟨w,den⟩ p x 0 / den))],[(6,[.bV])],[],G⟩) (fun m=>m≤w.length∧mh (rN ⟨w,den⟩ p x) m=mh (rN ⟨w,den⟩ p x) w.length) (fun m=>m) w.length rfl (by simp) (by simp) ?_
   rintro m ⟨hm,ht⟩;cases m with
   |zero =>
    simp (disch:=omega) [-getElem?_pos,wrap64,I6];rw[←hW,wv,kj,← ht];rfl
   |succ m =>
    by_cases h8:rN ⟨w,den⟩ p x m=0
    ·simp (disch:=omega) [-getElem?_pos,wrap64,I6,aam,h8,anT]
     exact bF m (by simp) ⟨by omega,by rw[←ht,mh,if_pos h8]⟩ (by omega)
    ·simp (disch:=omega) [-getElem?_pos,wrap64,I6,aam,h8]
     rw[←hW,wv,kj,← ht,mh,if_neg h8,ints,List.map_map];rfl)
noncomputable def gw(r:Rc)(p:List Int)(x:Int):Int:=if eM r≠0 then eM r else if im r p then (if (0≤x∧x≤1073741824)∧uu r p x then 0 else 1) else 3
abbrev rsX(t:Option Nat)(e:Int):V:=.tuple [.agg [.slice t 1 []],i64 0,i64 e]
noncomputable def DW(t:Option Nat)(r:Rc)(p:List Int)(x:Int):V:=if gw r p x=0 then .tuple [wv (kj r p x),i64 (lG r p x),i64 0] else rsX t (gw r p x)
theorem BV{t:Option Nat}{r:Rc}{p:List Int}{x e:Int}(h:gw r p x=e)(he:e≠0):DW t r p x=rsX t e:=by
 unfold DW;rw[h,if_neg he]
theorem GU{t:Option Nat}{r:Rc}{p:List Int}{x:Int}(h:gw r p x=0):DW t r p x=.tuple [wv (kj r p x),i64 (lG r p x),i64 0]:=by
 unfold DW;rw[if_pos h]
theorem anV(r:Rc)(hr:r.w.length≤17592186044416)(p:List Int)(hl:p.length≤17592186044416)(G:List aP):aX F 136 [rc r,wv p] G=some (i64 (if eM r≠0 then eM r else if im r p then 0 else 3),G) :=
 bM rfl rfl (by
  have hc:=wJ r hr;have hv:=aai r hr p hl;generalize hW:(if eM r≠0 then eM r else if im r p then (0:Int) else 3)=W
  by_cases hz:eM r=0
  ·rw[if_neg (by omega)]at hW
   by_cases hf:im r p
   ·rw[if_pos hf]at hW
    simp[wrap64,I5,hc,hv,hz,hf];exact hW
   ·rw[if_neg hf]at hW
    simp[wrap64,I5,hc,hv,hz,hf];exact hW
  ·rw[if_pos hz]at hW
   simp[wrap64,I5,hc,hv,hz];exact hW)
theorem anW(r:Rc)(hr:r.w.length≤17592186044416)(p:List Int)(hl:p.length≤17592186044416)(x:Int):∃t,∀(G:List aP),aX F 87 [rc r,wv p,i64 x] G=some (DW t r p x,G):=by
 refine⟨if eM r=0∧im r p then none else some 0,fun G=>bM rfl rfl ?_⟩
 have hw:=anV r hr p hl;by_cases hz:eM r=0
 ·rw[if_neg (by omega)]at hw
  by_cases hf:im r p
  ·rw[if_pos hf]at hw
   rw[if_pos ⟨hz,hf⟩];have hs:=anU r (te hz) p hf x;by_cases hp:(0≤x∧x≤1073741824)∧uu r p x
   ·rw[if_pos hp]at hs
    rw[GU (by unfold gw;rw[if_neg (by omega),if_pos hf,if_pos hp])]
    simp[wrap64,FM,hw,hs]
   ·rw[if_neg hp]at hs
    rw[BV (e:=1) (by unfold gw;rw[if_neg (by omega),if_pos hf,if_neg hp]) (by decide)]
    simp[wrap64,FM,hw,hs]
  ·rw[if_neg hf]at hw
   rw[if_neg (fun g=>hf g.2),BV (e:=3) (by unfold gw;rw[if_neg (by omega),if_neg hf]) (by decide)]
   simp[wrap64,FM,hw]
 ·rw[if_pos hz]at hw
  rw[if_neg (fun g=>hz g.1),BV (e:=eM r) (by unfold gw;rw[if_pos hz]) hz]
  simp[wrap64,FM,hw,hz]
theorem anX(r:Rc)(hr:r.w.length≤17592186044416)(p:List Int)(hl:p.length≤17592186044416)(x:Int)(G:List aP) :
  aX F 210 [rc r,wv p,.slice none 1 [[i64 x]]] G=some (.tuple (if gw r p x=0 then [wv (kj r p x),.slice (some 0) 1 [[i64 (lG r p x)]],i64 0] else [.agg [.slice (some 0) 1 []],.slice (some 0) 1 [],i64 (gw r p x)]),G) :=
 bM rfl rfl (by
  have hc:=wI r hr;have vF:=aah r p hl;generalize hW:(V.tuple (if gw r p x=0 then [wv (kj r p x),.slice (some 0) 1 [[i64 (lG r p x)]],i64 0] else [.agg [.slice (some 0) 1 []],.slice (some 0) 1 [],i64 (gw r p x)]))=W
  by_cases hz:eM r=0
  ·by_cases hf:im r p
   ·have hs:=anR r (te hz) p hf x
    have lM:p.length≤24:=by have:=hf.1;have:=(te hz).len;omega
    by_cases hx:0≤x∧x≤1073741824
    ·have qF:(decide (0≤x)&&decide (x≤1073741824))=true:=by simp;exact hx
     replace hs:=fun G=>hs hx G;by_cases hp:uu r p x
     ·rw[if_pos (show gw r p x=0 by unfold gw;rw[if_neg (by omega),if_pos hf,if_pos ⟨hx,hp⟩])]at hW
      rw[if_pos hp]at hs;simp (disch:=omega) [wrap64,Dz,Jf,Je,hc,vF,hz,hf,dC,qF,hs,Bc];exact hW
     ·rw[show gw r p x=1 by unfold gw;rw[if_neg (by omega),if_pos hf,if_neg (fun g=>hp g.2)],if_neg (by decide)]at hW
      rw[if_neg hp]at hs;simp (disch:=omega) [wrap64,Dz,Jf,Je,hc,vF,hz,hf,dC,qF,hs,Bc];exact hW
    ·have qF:(decide (0≤x)&&decide (x≤1073741824))=false:=by simp;omega
     simp (disch:=omega) [wrap64,Dz,Jf,Je,hc,vF,hz,hf,dC,qF,Bc];rw[show gw r p x=1 by unfold gw;rw[if_neg (by omega),if_pos hf,if_neg (fun g=>hx g.1)],if_neg (by decide)]at hW
     exact hW
   ·rw[show gw r p x=3 by unfold gw;rw[if_neg (by omega),if_neg hf],if_neg (by decide)]at hW
    simp (disch:=omega) [wrap64,Dz,hc,vF,hz,hf];exact hW
  ·rw[show gw r p x=eM r by unfold gw;rw[if_pos hz],if_neg hz]at hW
   simp (disch:=omega) [wrap64,Dz,hc,vF,hz];exact hW)
theorem aao(r:Rc)(hr:r.w.length≤17592186044416)(p:List Int)(hl:p.length≤17592186044416)(x:Int)(G:List aP):aX F 189 [rc r,wv p,i64 x] G=some (DW (some 0) r p x,G) :=
 bM rfl rfl (by
  have hs:=anX r hr p hl x;by_cases he:gw r p x=0
  ·rw[if_pos he]at hs
   rw[GU he];simp[wrap64,Od,hs]
  ·rw[if_neg he]at hs
   rw[BV rfl he];simp[wrap64,Od,hs,he])
structure Lk where
 f:Int
 t:Int
 r:Rc
 deriving Inhabited
abbrev Lk.row(l:Lk):List V:=[i64 l.f,i64 l.t,ints l.r.w,i64 l.r.den]
structure Rr where
 n:Int
 l:List Lk
abbrev nC(l:List Lk):V:=.slice none 4 (l.map Lk.row)
abbrev Rr.row(r:Rr):List V:=[i64 r.n,nC r.l]
abbrev rr(r:Rr):V:=.agg r.row
noncomputable def lE(r:Rr)(i:Nat):Int :=
 let l:=nth r.l i
 if (0≤l.f∧l.f≤r.n-1)∧(0≤l.t∧l.t≤r.n-1) then (if l.t≤l.f then 12 else if 0<i∧l.f≤(nth r.l (i-1)).f then 4 else eM l.r) else 11
noncomputable def jd(r:Rr):Int:=if r.n<1∨40<r.n then 3 else dB (lE r) r.l.length 0
def gW(r:Rr):Prop:=r.l.length≤17592186044416∧∀i,i<r.l.length→(nth r.l i).r.w.length≤17592186044416
theorem qd{n:Int}{l:List Lk}(h:1≤n)(h2:n≤40)(x:Int)(G:List aP):aX F 110 [.agg [i64 n,nC l],i64 x] G=some (.bool (decide (0≤x)&&decide (x≤n-1)),G) :=
 bM rfl rfl (by simp (disch:=omega) [wrap64,Wi,dC])
theorem J5(r:Rr)(hr:gW r)(G:List aP):aX F 60 [rr r] G=some (i64 (jd r),G) :=
 bM rfl rfl (by
  obtain⟨n,l⟩:=r;generalize hW:jd ⟨n,l⟩=W;unfold jd at hW;simp only at hW;obtain⟨hl,hw⟩:=hr;simp only at hl hw;by_cases h1:n<1
  ·rw[if_pos (.inl h1)]at hW
   simp (disch:=omega) [-getElem?_pos,wrap64,IW,h1];exact hW
  by_cases h2:40<n
  ·rw[if_pos (.inr h2)]at hW
   simp (disch:=omega) [-getElem?_pos,wrap64,IW,h1,h2];exact hW
  rw[if_neg (by omega)]at hW
  have h1n:1≤n:=by omega
  have h2n:n≤40:=by omega
  simp (disch:=omega) [-getElem?_pos,wrap64,IW,h1,h2];refine go_loop (fun i:Nat=>ahq (nC l) l.length i (Rr.row ⟨n,l⟩) G) (fun i=>i≤l.length∧dB (lE ⟨n,l⟩) (l.length-i) i=W) (fun i=>l.length-i) 0 rfl (by simp) ⟨by omega,hW⟩ ?_
  rintro i ⟨hi,hq⟩;simp (disch:=omega) [-getElem?_pos,wrap64,Vr];refine bE (fun h5=>?_) (fun h5=>?_)
  ·have h5:i<l.length:=by omega
   rw[kB h5]at hq;have hE:lE ⟨n,l⟩ i=if (0≤(nth l i).f∧(nth l i).f≤n-1)∧(0≤(nth l i).t∧(nth l i).t≤n-1) then (if (nth l i).t≤(nth l i).f then 12 else if 0<i∧(nth l i).f≤(nth l (i-1)).f then 4 else eM (nth l i).r) else 11:=rfl
   by_cases a1:0≤(nth l i).f∧(nth l i).f≤n-1
   case neg =>
    have lH:(decide (0≤(nth l i).f)&&decide ((nth l i).f≤n-1))=false:=by simp;omega
    rw[if_neg (fun g=>a1 g.1)]at hE;rw[hE,if_neg (by decide)]at hq
    simp (disch:=omega) [-getElem?_pos,wrap64,aW (l:=l),qd,cT,lH];exact hq
   have lH:(decide (0≤(nth l i).f)&&decide ((nth l i).f≤n-1))=true:=by simp;exact a1
   by_cases a2:0≤(nth l i).t∧(nth l i).t≤n-1
   case neg =>
    have pJ:(decide (0≤(nth l i).t)&&decide ((nth l i).t≤n-1))=false:=by simp;omega
    rw[if_neg (fun g=>a2 g.2)]at hE;rw[hE,if_neg (by decide)]at hq
    simp (disch:=omega) [-getElem?_pos,wrap64,aW (l:=l),qd,cT,lH,pJ];exact hq
   have pJ:(decide (0≤(nth l i).t)&&decide ((nth l i).t≤n-1))=true:=by simp;exact a2
   rw[if_pos ⟨a1,a2⟩]at hE;by_cases a3:(nth l i).t≤(nth l i).f
   ·rw[if_pos a3]at hE
    rw[hE,if_neg (by decide)]at hq
    simp (disch:=omega) [-getElem?_pos,wrap64,aW (l:=l),qd,cT,lH,pJ,a3];exact hq
   rw[if_neg a3]at hE;by_cases a4:0<i∧(nth l i).f≤(nth l (i-1)).f
   ·rw[if_pos a4]at hE
    rw[hE,if_neg (by decide)]at hq
    simp (disch:=omega) [-getElem?_pos,wrap64,aW (l:=l),qd,cT,lH,pJ,a3,a4.1,a4.2];exact hq
   rw[if_neg a4]at hE;have done:eM (nth l i).r=0→dB (lE ⟨n,l⟩) (l.length-(i+1)) (i+1)=W:=fun h=>by rwa [hE,h,if_pos rfl]at hq
   have stop:eM (nth l i).r≠0→eM (nth l i).r=W:=fun h=>by rwa [hE,if_neg h]at hq
   rcases (by omega:¬ 0<i∨(0<i∧¬ (nth l i).f≤(nth l (i-1)).f)) with a5 | ⟨a5,a6⟩
   ·by_cases hz:eM (nth l i).r=0
    ·simp (disch:=omega) [-getElem?_pos,wrap64,aW (l:=l),qd,cT,lH,pJ,a3,a5,wI (nth l i).r (hw i h5),wJ (nth l i).r (hw i h5),hz]
     exact bF (i+1) (by simp) ⟨by omega,done hz⟩ (by omega)
    ·simp (disch:=omega) [-getElem?_pos,wrap64,aW (l:=l),qd,cT,lH,pJ,a3,a5,wI (nth l i).r (hw i h5),wJ (nth l i).r (hw i h5),hz]
     exact stop hz
   ·by_cases hz:eM (nth l i).r=0
    ·simp (disch:=omega) [-getElem?_pos,wrap64,aW (l:=l),qd,cT,lH,pJ,a3,a5,a6,wI (nth l i).r (hw i h5),wJ (nth l i).r (hw i h5),hz]
     exact bF (i+1) (by simp) ⟨by omega,done hz⟩ (by omega)
    ·simp (disch:=omega) [-getElem?_pos,wrap64,aW (l:=l),qd,cT,lH,pJ,a3,a5,a6,wI (nth l i).r (hw i h5),wJ (nth l i).r (hw i h5),hz]
     exact stop hz
  ·obtain rfl:i=l.length:=by omega
   rw[mE]at hq;exact hq)
theorem J6(r:Rr)(hr:gW r)(G:List aP):aX F 62 [rr r] G=some (i64 (jd r),G) :=
 bM rfl rfl (by
  obtain⟨n,l⟩:=r;generalize hW:jd ⟨n,l⟩=W;unfold jd at hW;simp only at hW;obtain⟨hl,hw⟩:=hr;simp only at hl hw;by_cases h1:n<1
  ·rw[if_pos (.inl h1)]at hW
   simp (disch:=omega) [-getElem?_pos,wrap64,IX,h1];exact hW
  by_cases h2:40<n
  ·rw[if_pos (.inr h2)]at hW
   simp (disch:=omega) [-getElem?_pos,wrap64,IX,h1,h2];exact hW
  rw[if_neg (by omega)]at hW
  have h1n:1≤n:=by omega
  have h2n:n≤40:=by omega
  simp (disch:=omega) [-getElem?_pos,wrap64,IX,h1,h2];refine go_loop (fun i:Nat=>ahw (nC l) l.length i (Rr.row ⟨n,l⟩) G) (fun i=>i≤l.length∧dB (lE ⟨n,l⟩) (l.length-i) i=W) (fun i=>l.length-i) 0 rfl (by simp) ⟨by omega,hW⟩ ?_
  rintro i ⟨hi,hq⟩;simp (disch:=omega) [-getElem?_pos,wrap64,Vu];refine bE (fun h5=>?_) (fun h5=>?_)
  ·have h5:i<l.length:=by omega
   rw[kB h5]at hq;have hE:lE ⟨n,l⟩ i=if (0≤(nth l i).f∧(nth l i).f≤n-1)∧(0≤(nth l i).t∧(nth l i).t≤n-1) then (if (nth l i).t≤(nth l i).f then 12 else if 0<i∧(nth l i).f≤(nth l (i-1)).f then 4 else eM (nth l i).r) else 11:=rfl
   by_cases a1:0≤(nth l i).f∧(nth l i).f≤n-1
   case neg =>
    have lH:(decide (0≤(nth l i).f)&&decide ((nth l i).f≤n-1))=false:=by simp;omega
    rw[if_neg (fun g=>a1 g.1)]at hE;rw[hE,if_neg (by decide)]at hq
    simp (disch:=omega) [-getElem?_pos,wrap64,aW (l:=l),qd,cT,lH];exact hq
   have lH:(decide (0≤(nth l i).f)&&decide ((nth l i).f≤n-1))=true:=by simp;exact a1
   by_cases a2:0≤(nth l i).t∧(nth l i).t≤n-1
   case neg =>
    have pJ:(decide (0≤(nth l i).t)&&decide ((nth l i).t≤n-1))=false:=by simp;omega
    rw[if_neg (fun g=>a2 g.2)]at hE;rw[hE,if_neg (by decide)]at hq
    simp (disch:=omega) [-getElem?_pos,wrap64,aW (l:=l),qd,cT,lH,pJ];exact hq
   have pJ:(decide (0≤(nth l i).t)&&decide ((nth l i).t≤n-1))=true:=by simp;exact a2
   rw[if_pos ⟨a1,a2⟩]at hE;by_cases a3:(nth l i).t≤(nth l i).f
   ·rw[if_pos a3]at hE
    rw[hE,if_neg (by decide)]at hq
    simp (disch:=omega) [-getElem?_pos,wrap64,aW (l:=l),qd,cT,lH,pJ,a3];exact hq
   rw[if_neg a3]at hE;by_cases a4:0<i∧(nth l i).f≤(nth l (i-1)).f
   ·rw[if_pos a4]at hE
    rw[hE,if_neg (by decide)]at hq
    simp (disch:=omega) [-getElem?_pos,wrap64,aW (l:=l),qd,cT,lH,pJ,a3,a4.1,a4.2];exact hq
   rw[if_neg a4]at hE;have done:eM (nth l i).r=0→dB (lE ⟨n,l⟩) (l.length-(i+1)) (i+1)=W:=fun h=>by rwa [hE,h,if_pos rfl]at hq
   have stop:eM (nth l i).r≠0→eM (nth l i).r=W:=fun h=>by rwa [hE,if_neg h]at hq
   rcases (by omega:¬ 0<i∨(0<i∧¬ (nth l i).f≤(nth l (i-1)).f)) with a5 | ⟨a5,a6⟩
   ·by_cases hz:eM (nth l i).r=0
    ·simp (disch:=omega) [-getElem?_pos,wrap64,aW (l:=l),qd,cT,lH,pJ,a3,a5,wI (nth l i).r (hw i h5),wJ (nth l i).r (hw i h5),hz]
     exact bF (i+1) (by simp) ⟨by omega,done hz⟩ (by omega)
    ·simp (disch:=omega) [-getElem?_pos,wrap64,aW (l:=l),qd,cT,lH,pJ,a3,a5,wI (nth l i).r (hw i h5),wJ (nth l i).r (hw i h5),hz]
     exact stop hz
   ·by_cases hz:eM (nth l i).r=0
    ·simp (disch:=omega) [-getElem?_pos,wrap64,aW (l:=l),qd,cT,lH,pJ,a3,a5,a6,wI (nth l i).r (hw i h5),wJ (nth l i).r (hw i h5),hz]
     exact bF (i+1) (by simp) ⟨by omega,done hz⟩ (by omega)
    ·simp (disch:=omega) [-getElem?_pos,wrap64,aW (l:=l),qd,cT,lH,pJ,a3,a5,a6,wI (nth l i).r (hw i h5),wJ (nth l i).r (hw i h5),hz]
     exact stop hz
  ·obtain rfl:i=l.length:=by omega
   rw[mE]at hq;exact hq)
instance:Inhabited Dm:=⟨⟨⟨[],0,0,0,0,0⟩,[],[],0⟩⟩
structure Si where
 n:Int
 d:Dm
 deriving Inhabited
abbrev Si.row(x:Si):List V:=i64 x.n::x.d.row
abbrev qe(l:List Si):V:=.slice none 10 (l.map Si.row)
structure Cs where
 r:Rr
 s:List Si
abbrev Cs.row(c:Cs):List V:=[i64 c.r.n,nC c.r.l,qe c.s]
abbrev cs(c:Cs):V:=.agg c.row
def yt(c:Cs)(i:Nat):Int :=
 let x:=nth c.s i
 if 0≤x.n∧x.n<c.r.n then (if 0<i∧x.n≤(nth c.s (i-1)).n then 4 else fq x.d) else 41
noncomputable def ew(c:Cs):Int:=if jd c.r≠0 then jd c.r else if 12<c.r.n then 41 else if 6<c.s.length then 10 else dB (yt c) c.s.length 0
structure Fl where
 t:Int
 d:List Ds
 w:List (List Int)
abbrev m7(l:List Ds):V:=.slice none 4 (l.map Ds.row)
abbrev je(l:List (List Int)):V:=.slice none 1 (l.map fun p=>[ints p])
abbrev Fl.row(f:Fl):List V:=[i64 f.t,m7 f.d,je f.w]
abbrev fl(f:Fl):V:=.agg f.row
def jY(f:Fl):Prop:=∀i,(nth f.w i).length≤17592186044416
def mi(c:Cs)(l:List Ds):Prop:=l.length=c.s.length∧∀i,i<c.s.length→fq (nth c.s i).d=0∧iS (nth c.s i).d (nth l i)
noncomputable instance {c:Cs} {l:List Ds}:Decidable (mi c l):=Classical.propDecidable _
def BW(c:Cs)(l:List (List Int)):Prop:=l.length=c.r.l.length∧∀i,i<c.r.l.length→eM (nth c.r.l i).r=0∧im (nth c.r.l i).r (nth l i)
noncomputable instance {c:Cs} {l:List (List Int)}:Decidable (BW c l):=Classical.propDecidable _
def ft(c:Cs)(f:Fl):Prop:=(0≤f.t∧f.t≤16777216)∧mi c f.d∧BW c f.w
noncomputable instance {c:Cs} {f:Fl}:Decidable (ft c f):=Classical.propDecidable _
theorem GV(c:Cs)(hr:gW c.r)(G:List aP):aX F 19 [cs c] G=some (i64 (ew c),G) :=
 bM rfl rfl (by
  obtain⟨⟨n,l⟩,s⟩:=c;generalize hW:ew ⟨⟨n,l⟩,s⟩=W;unfold ew at hW;simp only at hW hr;have hk:=J5 ⟨n,l⟩ hr;have j9:=J6 ⟨n,l⟩ hr;by_cases h1:jd ⟨n,l⟩=0
  case neg =>
   rw[if_pos h1]at hW;simp (disch:=omega) [-getElem?_pos,wrap64,FB,hk,j9,h1];exact hW
  rw[if_neg (by omega)]at hW
  by_cases h2:12<n
  ·rw[if_pos h2]at hW
   simp (disch:=omega) [-getElem?_pos,wrap64,FB,hk,j9,h1,h2];exact hW
  rw[if_neg h2]at hW;by_cases h3:6<s.length
  ·rw[if_pos h3]at hW
   have gU:(6:Int)<s.length:=by omega
   simp (disch:=omega) [-getElem?_pos,wrap64,FB,hk,j9,h1,h2,gU];exact hW
  rw[if_neg h3]at hW;have gU:¬ (6:Int)<s.length:=by omega
  simp (disch:=omega) [-getElem?_pos,wrap64,FB,hk,j9,h1,h2,gU];refine go_loop (fun i:Nat=>agH (qe s) s.length i (Cs.row ⟨⟨n,l⟩,s⟩) G) (fun i=>i≤s.length∧dB (yt ⟨⟨n,l⟩,s⟩) (s.length-i) i=W) (fun i=>s.length-i) 0 rfl (by simp) ⟨by omega,hW⟩ ?_
  rintro i ⟨hi,hq⟩;simp (disch:=omega) [-getElem?_pos,wrap64,UU];refine bE (fun h5=>?_) (fun h5=>?_)
  ·have h5:i<s.length:=by omega
   rw[kB h5]at hq;have hE:yt ⟨⟨n,l⟩,s⟩ i=if 0≤(nth s i).n∧(nth s i).n<n then (if 0<i∧(nth s i).n≤(nth s (i-1)).n then 4 else fq (nth s i).d) else 41:=rfl
   by_cases a1:(nth s i).n<0
   ·rw[if_neg (by omega)]at hE
    rw[hE,if_neg (by decide)]at hq
    simp (disch:=omega) [-getElem?_pos,wrap64,aW (l:=s),a1];exact hq
   by_cases a2:n≤(nth s i).n
   ·rw[if_neg (by omega)]at hE
    rw[hE,if_neg (by decide)]at hq
    simp (disch:=omega) [-getElem?_pos,wrap64,aW (l:=s),a1,a2];exact hq
   rw[if_pos (by omega)]at hE
   by_cases a4:0<i∧(nth s i).n≤(nth s (i-1)).n
   ·rw[if_pos a4]at hE
    rw[hE,if_neg (by decide)]at hq
    simp (disch:=omega) [-getElem?_pos,wrap64,aW (l:=s),a1,a2,a4.1,a4.2];exact hq
   rw[if_neg a4]at hE;have done:fq (nth s i).d=0→dB (yt ⟨⟨n,l⟩,s⟩) (s.length-(i+1)) (i+1)=W:=fun h=>by rwa [hE,h,if_pos rfl]at hq
   have stop:fq (nth s i).d≠0→fq (nth s i).d=W:=fun h=>by rwa [hE,if_neg h]at hq
   have hd:=BP (nth s i).d;have u4:=BQ (nth s i).d;rcases (by omega:¬ 0<i∨(0<i∧¬ (nth s i).n≤(nth s (i-1)).n)) with a5 | ⟨a5,a6⟩
   ·by_cases hz:fq (nth s i).d=0
    ·simp (disch:=omega) [-getElem?_pos,wrap64,aW (l:=s),a1,a2,a5,hd,u4,hz]
     exact bF (i+1) (by simp) ⟨by omega,done hz⟩ (by omega)
    ·simp (disch:=omega) [-getElem?_pos,wrap64,aW (l:=s),a1,a2,a5,hd,u4,hz]
     exact stop hz
   ·by_cases hz:fq (nth s i).d=0
    ·simp (disch:=omega) [-getElem?_pos,wrap64,aW (l:=s),a1,a2,a5,a6,hd,u4,hz]
     exact bF (i+1) (by simp) ⟨by omega,done hz⟩ (by omega)
    ·simp (disch:=omega) [-getElem?_pos,wrap64,aW (l:=s),a1,a2,a5,a6,hd,u4,hz]
     exact stop hz
  ·obtain rfl:i=s.length:=by omega
   rw[mE]at hq;exact hq)
theorem BX(c:Cs)(hr:gW c.r)(G:List aP):aX F 20 [cs c] G=some (i64 (ew c),G) :=
 bM rfl rfl (by
  obtain⟨⟨n,l⟩,s⟩:=c;generalize hW:ew ⟨⟨n,l⟩,s⟩=W;unfold ew at hW;simp only at hW hr;have hk:=J5 ⟨n,l⟩ hr;have j9:=J6 ⟨n,l⟩ hr;by_cases h1:jd ⟨n,l⟩=0
  case neg =>
   rw[if_pos h1]at hW;simp (disch:=omega) [-getElem?_pos,wrap64,FC,hk,j9,h1];exact hW
  rw[if_neg (by omega)]at hW
  by_cases h2:12<n
  ·rw[if_pos h2]at hW
   simp (disch:=omega) [-getElem?_pos,wrap64,FC,hk,j9,h1,h2];exact hW
  rw[if_neg h2]at hW;by_cases h3:6<s.length
  ·rw[if_pos h3]at hW
   have gU:(6:Int)<s.length:=by omega
   simp (disch:=omega) [-getElem?_pos,wrap64,FC,hk,j9,h1,h2,gU];exact hW
  rw[if_neg h3]at hW;have gU:¬ (6:Int)<s.length:=by omega
  simp (disch:=omega) [-getElem?_pos,wrap64,FC,hk,j9,h1,h2,gU];refine go_loop (fun i:Nat=>agJ (qe s) s.length i (Cs.row ⟨⟨n,l⟩,s⟩) G) (fun i=>i≤s.length∧dB (yt ⟨⟨n,l⟩,s⟩) (s.length-i) i=W) (fun i=>s.length-i) 0 rfl (by simp) ⟨by omega,hW⟩ ?_
  rintro i ⟨hi,hq⟩;simp (disch:=omega) [-getElem?_pos,wrap64,UW];refine bE (fun h5=>?_) (fun h5=>?_)
  ·have h5:i<s.length:=by omega
   rw[kB h5]at hq;have hE:yt ⟨⟨n,l⟩,s⟩ i=if 0≤(nth s i).n∧(nth s i).n<n then (if 0<i∧(nth s i).n≤(nth s (i-1)).n then 4 else fq (nth s i).d) else 41:=rfl
   by_cases a1:(nth s i).n<0
   ·rw[if_neg (by omega)]at hE
    rw[hE,if_neg (by decide)]at hq
    simp (disch:=omega) [-getElem?_pos,wrap64,aW (l:=s),a1];exact hq
   by_cases a2:n≤(nth s i).n
   ·rw[if_neg (by omega)]at hE
    rw[hE,if_neg (by decide)]at hq
    simp (disch:=omega) [-getElem?_pos,wrap64,aW (l:=s),a1,a2];exact hq
   rw[if_pos (by omega)]at hE
   by_cases a4:0<i∧(nth s i).n≤(nth s (i-1)).n
   ·rw[if_pos a4]at hE
    rw[hE,if_neg (by decide)]at hq
    simp (disch:=omega) [-getElem?_pos,wrap64,aW (l:=s),a1,a2,a4.1,a4.2];exact hq
   rw[if_neg a4]at hE;have done:fq (nth s i).d=0→dB (yt ⟨⟨n,l⟩,s⟩) (s.length-(i+1)) (i+1)=W:=fun h=>by rwa [hE,h,if_pos rfl]at hq
   have stop:fq (nth s i).d≠0→fq (nth s i).d=W:=fun h=>by rwa [hE,if_neg h]at hq
   have hd:=BP (nth s i).d;have u4:=BQ (nth s i).d;rcases (by omega:¬ 0<i∨(0<i∧¬ (nth s i).n≤(nth s (i-1)).n)) with a5 | ⟨a5,a6⟩
   ·by_cases hz:fq (nth s i).d=0
    ·simp (disch:=omega) [-getElem?_pos,wrap64,aW (l:=s),a1,a2,a5,hd,u4,hz]
     exact bF (i+1) (by simp) ⟨by omega,done hz⟩ (by omega)
    ·simp (disch:=omega) [-getElem?_pos,wrap64,aW (l:=s),a1,a2,a5,hd,u4,hz]
     exact stop hz
   ·by_cases hz:fq (nth s i).d=0
    ·simp (disch:=omega) [-getElem?_pos,wrap64,aW (l:=s),a1,a2,a5,a6,hd,u4,hz]
     exact bF (i+1) (by simp) ⟨by omega,done hz⟩ (by omega)
    ·simp (disch:=omega) [-getElem?_pos,wrap64,aW (l:=s),a1,a2,a5,a6,hd,u4,hz]
     exact stop hz
  ·obtain rfl:i=s.length:=by omega
   rw[mE]at hq;exact hq)
structure wK(c:Cs):Prop where
 k:jd c.r=0
 n:c.r.n≤12
 s:c.s.length≤6
 site:∀i,i<c.s.length→yt c i=0
theorem jZ{c:Cs}(h:ew c=0):wK c:=by
 unfold ew at h;split at h
 ·rename_i h1;exact absurd h h1
 split at h
 ·cases h
 split at h
 ·cases h
 rename_i h1 h2 h3;exact⟨Decidable.of_not_not h1,by omega,by omega,fun i hi=>rU h i (by omega) (by omega)⟩
theorem aap(c:Cs)(hs:c.s.length≤1000)(l:List Ds)(G:List aP):aX F 68 [cs c,m7 l] G=some (.bool (decide (mi c l)),G) :=
 bM rfl rfl (by
  obtain⟨r,s⟩:=c;simp only at hs;generalize hW:decide (mi ⟨r,s⟩ l)=W;have no:¬ mi ⟨r,s⟩ l→W=false:=fun h=>by rw[←hW];simp[h]
  have yes:mi ⟨r,s⟩ l→W=true:=fun h=>by rw[←hW];simp[h]
  unfold mi at no yes;simp only at no yes;by_cases h1:l.length=s.length
  case neg =>
   have ju:¬ (l.length:Int)=s.length:=by omega
   simp (disch:=omega) [-getElem?_pos,wrap64,NB,ju];exact no (fun g=>h1 g.1)
  have ju:(l.length:Int)=s.length:=by omega
  simp (disch:=omega) [-getElem?_pos,wrap64,NB,ju];refine go_loop (fun i:Nat=>ahK (m7 l) (qe s) s.length i G) (fun i=>i≤s.length∧∀j,j<i→fq (nth s j).d=0∧iS (nth s j).d (nth l j)) (fun i=>s.length-i) 0 rfl (by simp) (by simp) ?_
  rintro i ⟨hi,hj⟩;simp (disch:=omega) [-getElem?_pos,wrap64,VD];refine bE (fun h5=>?_) (fun h5=>?_)
  ·have h5:i<s.length:=by omega
   have h6:i<l.length:=by omega
   by_cases h7:fq (nth s i).d=0∧iS (nth s i).d (nth l i)
   ·simp (disch:=omega) [-getElem?_pos,wrap64,aW (l:=s),aW (l:=l),ZX,h7.1,h7.2]
    refine bF (i+1) (by simp) ⟨by omega,fun j h8=>?_⟩ (by omega)
    rcases Nat.lt_or_ge j i with h9|h9
    ·exact hj j h9
    ·rwa [show j=i by omega]
   ·have h7':decide (fq (nth s i).d=0∧iS (nth s i).d (nth l i))=false:=by simp only[h7,decide_false]
    have hv:=ZX (nth s i).d (nth l i);rw[h7']at hv;simp (disch:=omega) [-getElem?_pos,wrap64,aW (l:=s),aW (l:=l),hv];exact no (fun g=>h7 (g.2 i h5))
  ·obtain rfl:i=s.length:=by omega
   exact yes ⟨h1,hj⟩)
theorem aaq(c:Cs)(hs:c.s.length≤1000)(hr:gW c.r)(f:Fl)(hf:jY f)(G:List aP):aX F 64 [cs c,fl f] G=some (.bool (decide (ft c f)),G) :=
 bM rfl rfl (by
  have gN:=aap c hs f.d;obtain⟨⟨n,l⟩,s⟩:=c;obtain⟨t,d,w⟩:=f;generalize hW:decide (ft ⟨⟨n,l⟩,s⟩ ⟨t,d,w⟩)=W;have no:¬ ft ⟨⟨n,l⟩,s⟩ ⟨t,d,w⟩→W=false:=fun h=>by rw[←hW];simp[h]
  have yes:ft ⟨⟨n,l⟩,s⟩ ⟨t,d,w⟩→W=true:=fun h=>by rw[←hW];simp[h]
  unfold ft BW at no yes;simp only at no yes gN;unfold jY at hf;obtain⟨uf,nL⟩:=hr;simp only at hf uf nL;by_cases a1:t<0
  ·simp (disch:=omega) [-getElem?_pos,wrap64,Dj,a1]
   exact no (by omega)
  by_cases a2:16777216<t
  ·simp (disch:=omega) [-getElem?_pos,wrap64,Dj,a1,a2]
   exact no (by omega)
  by_cases a3:mi ⟨⟨n,l⟩,s⟩ d
  case neg =>
   simp (disch:=omega) [-getElem?_pos,wrap64,Dj,a1,a2,gN,a3];exact no (fun g=>a3 g.2.1)
  by_cases a4:w.length=l.length
  case neg =>
   have BY:¬ (w.length:Int)=l.length:=by omega
   simp (disch:=omega) [-getElem?_pos,wrap64,Dj,a1,a2,gN,a3,BY];exact no (fun g=>a4 g.2.2.1)
  have BY:(w.length:Int)=l.length:=by omega
  simp (disch:=omega) [-getElem?_pos,wrap64,Dj,a1,a2,gN,a3,BY];refine go_loop (fun i:Nat=>ahC (nC l) l.length i (Fl.row ⟨t,d,w⟩) G) (fun i=>i≤l.length∧∀j,j<i→eM (nth l j).r=0∧im (nth l j).r (nth w j)) (fun i=>l.length-i) 0 rfl (by simp) (by simp) ?_
  rintro i ⟨hi,hj⟩;simp (disch:=omega) [-getElem?_pos,wrap64,Vx];refine bE (fun h5=>?_) (fun h5=>?_)
  ·have h5:i<l.length:=by omega
   have h6:i<w.length:=by omega
   have hv:=anM (nth l i).r (nL i h5) (nth w i) (hf i);by_cases h7:eM (nth l i).r=0∧im (nth l i).r (nth w i)
   ·rw[decide_eq_true h7]at hv
    simp (disch:=omega) [-getElem?_pos,wrap64,aW (l:=l),aW (l:=w),hv];refine bF (i+1) (by simp) ⟨by omega,fun j h8=>?_⟩ (by omega)
    rcases Nat.lt_or_ge j i with h9|h9
    ·exact hj j h9
    ·rwa [show j=i by omega]
   ·rw[decide_eq_false h7]at hv
    simp (disch:=omega) [-getElem?_pos,wrap64,aW (l:=l),aW (l:=w),hv];exact no (fun g=>h7 (g.2.2.2 i h5))
  ·obtain rfl:i=l.length:=by omega
   exact yes ⟨by omega,a3,a4,hj⟩)
theorem PY(c:Cs)(hr:gW c.r)(f:Fl)(hf:jY f)(G:List aP):aX F 21 [cs c,fl f] G=some (.bool (decide (ew c=0∧ft c f)),G) :=
 bM rfl rfl (by
  have h1:=GV c hr;by_cases hz:ew c=0
  ·have h2:=aaq c (by have:=(jZ hz).s;omega) hr f hf
   simp[wrap64,Np,h1,h2,hz]
  ·simp[wrap64,Np,h1,hz])
noncomputable def iq(c:Cs)(f:Fl):Int:=if ew c≠0 then ew c else if ft c f then 0 else 50
theorem PZ(c:Cs)(hr:gW c.r)(f:Fl)(hf:jY f)(G:List aP):aX F 57 [cs c,fl f] G=some (i64 (iq c f),G) :=
 bM rfl rfl (by
  have h1:=GV c hr;unfold iq;by_cases hz:ew c=0
  ·have h2:=aaq c (by have:=(jZ hz).s;omega) hr f hf
   by_cases hf:ft c f
   ·simp[wrap64,IV,h1,h2,hz,hf]
   ·simp[wrap64,IV,h1,h2,hz,hf]
  ·simp[wrap64,IV,h1,hz])
theorem DX(x m:Int)(G:List aP):aX F 65 [i64 x,i64 m] G=some (.bool (decide (0≤x)&&decide (x≤m)),G) :=
 bM rfl rfl (by simp +contextual [wrap64,Vy])
theorem DY(c:Cs)(hr:gW c.r)(f:Fl)(hf:jY f)(G:List aP):aX F 22 [cs c,fl f] G=some (.bool (decide (ew c=0∧ft c f)),G) :=
 bM rfl rfl (by
  have hc:=BX c hr;obtain⟨⟨n,l⟩,s⟩:=c;obtain⟨t,d,w⟩:=f;generalize hW:decide (ew ⟨⟨n,l⟩,s⟩=0∧ft ⟨⟨n,l⟩,s⟩ ⟨t,d,w⟩)=W;have no:¬ (ew ⟨⟨n,l⟩,s⟩=0∧ft ⟨⟨n,l⟩,s⟩ ⟨t,d,w⟩)→W=false:=fun h=>by rw[←hW];simp[h]
  have yes:(ew ⟨⟨n,l⟩,s⟩=0∧ft ⟨⟨n,l⟩,s⟩ ⟨t,d,w⟩)→W=true:=fun h=>by rw[←hW];simp[h]
  unfold ft BW mi at no yes;simp only at no yes;unfold jY at hf;obtain⟨uf,nL⟩:=hr;simp only at hf uf nL;by_cases a0:ew ⟨⟨n,l⟩,s⟩=0
  case neg =>
   simp (disch:=omega) [-getElem?_pos,wrap64,Di,hc,a0];exact no (fun g=>a0 g.1)
  have GW:=(jZ a0).s;simp only at GW;by_cases a1:0≤t∧t≤16777216
  case neg =>
   have lH:(decide (0≤t)&&decide (t≤16777216))=false:=by simp;omega
   simp (disch:=omega) [-getElem?_pos,wrap64,Di,hc,a0,DX,lH];exact no (fun g=>a1 g.2.1)
  have lH:(decide (0≤t)&&decide (t≤16777216))=true:=by simp;exact a1
  by_cases a3:d.length=s.length
  case neg =>
   have J7:¬ (d.length:Int)=s.length:=by omega
   simp (disch:=omega) [-getElem?_pos,wrap64,Di,hc,a0,DX,lH,J7];exact no (fun g=>a3 g.2.2.1.1)
  have J7:(d.length:Int)=s.length:=by omega
  by_cases a4:w.length=l.length
  case neg =>
   have BY:¬ (w.length:Int)=l.length:=by omega
   simp (disch:=omega) [-getElem?_pos,wrap64,Di,hc,a0,DX,lH,J7,BY];exact no (fun g=>a4 g.2.2.2.1)
  have BY:(w.length:Int)=l.length:=by omega
  simp (disch:=omega) [-getElem?_pos,wrap64,Di,hc,a0,DX,lH,J7,BY];refine go_loop (fun i:Nat=>agL (qe s) s.length i (Cs.row ⟨⟨n,l⟩,s⟩) (Fl.row ⟨t,d,w⟩) G) (fun i=>i≤s.length∧∀j,j<i→fq (nth s j).d=0∧iS (nth s j).d (nth d j)) (fun i=>s.length-i) 0 rfl (by simp) (by simp) ?_
  rintro i ⟨hi,hj⟩;simp (disch:=omega) [-getElem?_pos,wrap64,UX];refine bE (fun h5=>?_) (fun h5=>?_)
  ·have h5:i<s.length:=by omega
   have h6:i<d.length:=by omega
   have hv:=anD (nth s i).d (nth d i);by_cases h7:fq (nth s i).d=0∧iS (nth s i).d (nth d i)
   ·rw[decide_eq_true h7]at hv
    simp (disch:=omega) [-getElem?_pos,wrap64,aW (l:=s),aW (l:=d),hv];refine bF (i+1) (by simp) ⟨by omega,fun j h8=>?_⟩ (by omega)
    rcases Nat.lt_or_ge j i with h9|h9
    ·exact hj j h9
    ·rwa [show j=i by omega]
   ·rw[decide_eq_false h7]at hv
    simp (disch:=omega) [-getElem?_pos,wrap64,aW (l:=s),aW (l:=d),hv];exact no (fun g=>h7 (g.2.2.1.2 i h5))
  ·obtain rfl:i=s.length:=by omega
   have oE:=hj;refine go_loop (fun i:Nat=>agN (nC l) l.length i (Fl.row ⟨t,d,w⟩) G) (fun i=>i≤l.length∧∀j,j<i→eM (nth l j).r=0∧im (nth l j).r (nth w j)) (fun i=>l.length-i) 0 rfl (by simp) (by simp) ?_
   rintro i ⟨hi,hj⟩;simp (disch:=omega) [-getElem?_pos,wrap64,UY];refine bE (fun h5=>?_) (fun h5=>?_)
   ·have h5:i<l.length:=by omega
    have h6:i<w.length:=by omega
    have hv:=aai (nth l i).r (nL i h5) (nth w i) (hf i);by_cases h7:eM (nth l i).r=0∧im (nth l i).r (nth w i)
    ·rw[decide_eq_true h7]at hv
     simp (disch:=omega) [-getElem?_pos,wrap64,aW (l:=l),aW (l:=w),hv];refine bF (i+1) (by simp) ⟨by omega,fun j h8=>?_⟩ (by omega)
     rcases Nat.lt_or_ge j i with h9|h9
     ·exact hj j h9
     ·rwa [show j=i by omega]
    ·rw[decide_eq_false h7]at hv
     simp (disch:=omega) [-getElem?_pos,wrap64,aW (l:=l),aW (l:=w),hv];exact no (fun g=>h7 (g.2.2.2.2 i h5))
   ·obtain rfl:i=l.length:=by omega
    exact yes ⟨a0,a1,⟨a3,oE⟩,a4,hj⟩)
end Go.Proofs.YtocclbnghhaejaaGreat
namespace Go.Proofs.YtocclbnghhaejaaGreat
set_option linter.all false
open Go.Vm
theorem DZ{α:Type}{row:α→List V}{k:Nat}(hk:∀a,(row a).length=k):∀l:List α,(l.map row).flatten.length=l.length*k
 |[]=>by simp
 |a::l=>by
  rw[List.map_cons,List.flatten_cons,List.length_append,hk,DZ hk l,List.length_cons,Nat.add_mul,Nat.one_mul,Nat.add_comm]
theorem J8{α:Type}[Inhabited α]{row:α→List V}{k:Nat}(hk:∀a,(row a).length=k):∀{l:List α} {i:Nat},i<l.length→((l.map row).flatten.drop (i*k)).take k=row (nth l i)
 |[],i,h=>by simp at h
 |a::l,0,_=>by
  rw[Nat.zero_mul,List.drop_zero,List.map_cons,List.flatten_cons,List.take_append_of_le_length (by rw[hk];exact Nat.le_refl _),List.take_of_length_le (by rw[hk];exact Nat.le_refl _)]
  rfl
 |a::l,i+1,h=>by
  have ih:=J8 hk (l:=l) (i:=i) (by simpa using h)
  rw[List.map_cons,List.flatten_cons,show(i+1)*k=k+i*k by rw[Nat.add_mul,Nat.one_mul,Nat.add_comm],← List.drop_drop,List.drop_left' (hk a),ih]
  rfl
theorem P2{x:V}:∀{vs cs:List V} {off:Nat},jg (x::cs) (off+1) vs=x::jg cs off vs
 |[],_,_=>rfl
 |v::vs,cs,off=>by
  simp only[jg,List.set_cons_succ];exact P2
theorem aar:∀{p:List V} {cs vs:List V} {off:Nat},jg (p++cs) (p.length+off) vs=p++jg cs off vs
 |[],cs,vs,off=>by simp
 |a::p,cs,vs,off=>by
  rw[List.cons_append,List.length_cons,show p.length+1+off=(p.length+off)+1 by omega,P2,aar,List.cons_append]
theorem aas:∀{vs p cs:List V},p.length=vs.length→jg (p++cs) 0 vs=vs++cs
 |[],p,cs,h=>by
  have:p=[]:=List.length_eq_zero_iff.1 (by simpa using h)
  subst this;rfl
 |v::vs,[],cs,h=>by simp at h
 |v::vs,a::p,cs,h=>by
  simp only[jg,List.cons_append,List.set_cons_zero];rw[P2,aas (by simpa using h)]
theorem GX{α:Type}{row:α→List V}{k:Nat}(hk:∀a,(row a).length=k){x:α}:∀{l:List α} {i:Nat},i<l.length→jg (l.map row).flatten (i*k) (row x)=((l.set i x).map row).flatten
 |[],i,h=>by simp at h
 |a::l,0,_=>by
  rw[Nat.zero_mul,List.map_cons,List.flatten_cons,aas (by rw[hk,hk])]
  rfl
 |a::l,i+1,h=>by
  have ih:=GX hk (x:=x) (l:=l) (i:=i) (by simpa using h)
  rw[List.map_cons,List.flatten_cons,show(i+1)*k=(row a).length+i*k by rw[hk,Nat.add_mul,Nat.one_mul,Nat.add_comm],aar,ih]
  rfl
theorem tg{α:Type}[Inhabited α]{l:List α}{i j:Nat}{x:α}(h:i<l.length):nth (l.set i x) j=if j=i then x else nth l j:=by
 unfold nth;rw[List.getD_eq_getElem?_getD,List.getD_eq_getElem?_getD,List.getElem?_set];by_cases hj:j=i
 ·subst hj;simp[h]
 ·rw[if_neg hj,if_neg (fun e=>hj e.symm)]
end Go.Proofs.YtocclbnghhaejaaGreat
namespace Go.Proofs.YtocclbnghhaejaaGreat
set_option linter.all false
open Go.Vm
attribute [local simp] lQ lR kP lP
theorem GY{α:Type}{row:α→List V}{k:Nat}(hk:∀a,(row a).length=k):∀{l:List α} {cs:List V} {off:Nat},cs.drop off=(l.map row).flatten→chunks k cs off l.length=l.map row
 |[],cs,off,h=>by simp[chunks]
 |a::l,cs,off,h=>by
  rw[List.map_cons,List.flatten_cons]at h;have h2:cs.drop (off+k)=(l.map row).flatten:=by
   rw[←List.drop_drop,h,List.drop_left' (hk a)]
  rw[List.length_cons,chunks,GY hk h2,h,List.take_left' (hk a),List.map_cons]
theorem GZ{α:Type}{row:α→List V}{sh:Sh}(h:∀a,mn sh (row a)=some (row a)):∀l:List α,kr sh (l.map row)=some (l.map row)
 |[]=>rfl
 |a::l=>by simp[kr,h,GZ h l]
def gX(l:List Ds):List V:=(l.map Ds.row).flatten
theorem P3(l:List Ds):(l.map Ds.row).flatten=gX l:=rfl
@[simp] theorem avX{l:List Ds}:(gX l).length=l.length*4:=DZ (row:=Ds.row) (fun _=>rfl) l
theorem sr{l:List Ds}{n:Nat}(h:n=l.length):kr [none,none,some 3,some 2] (chunks 4 (gX l) 0 n)=some (l.map Ds.row):=by
 subst h;rw[GY (row:=Ds.row) (fun _=>rfl) rfl];exact GZ (fun a=>by simp) l
theorem P4{l:List Ds}{a:Ds}:gX l++a.row=gX (l++[a]):=by simp[gX]
def km(l:List (List Int)):List V:=(l.map fun p=>[ints p]).flatten
theorem aat(l:List (List Int)):(l.map fun p=>[ints p]).flatten=km l:=rfl
@[simp] theorem avY{l:List (List Int)}:(km l).length=l.length:=by
 have:=DZ (row:=fun p=>[ints p]) (k:=1) (fun _=>rfl) l
 rwa [Nat.mul_one]at this
theorem Ag{l:List (List Int)}{n:Nat}(h:n=l.length):kr [some 1] (chunks 1 (km l) 0 n)=some (l.map fun p=>[ints p]):=by
 subst h;rw[GY (row:=fun p=>[ints p]) (fun _=>rfl) rfl];exact GZ (fun a=>by simp) l
theorem aau{l:List (List Int)}{a:List Int}:km l++[ints a]=km (l++[a]):=by simp[km]
theorem G4{α:Type}{row:α→List V}{p:V→Bool}(h:∀a,(row a).all p=true):∀l:List α,(l.map row).flatten.all p=true
 |[]=>rfl
 |a::l=>by rw[List.map_cons,List.flatten_cons,List.all_append,h,G4 h l];rfl
theorem BZ{α:Type}{row:α→List V}{f:V→V}(h:∀a,(row a).map f=row a):∀l:List α,(l.map row).flatten.map f=(l.map row).flatten
 |[]=>rfl
 |a::l=>by rw[List.map_cons,List.flatten_cons,List.map_append,h,BZ h l]
@[simp] theorem avZ{l:List Ds}{d:Nat}:((gX l).all fun v => !V.cD d v)=true:=G4 (row:=Ds.row) (fun a=>by simp) l
@[simp] theorem av0{l:List (List Int)}{d:Nat}:((km l).all fun v => !V.cD d v)=true:=G4 (row:=fun p=>[ints p]) (fun a=>by simp) l
@[simp] theorem av1{l:List Ds}{a b:Nat}:(gX l).map (V.iT a b)=gX l:=BZ (row:=Ds.row) (fun a=>by simp) l
@[simp] theorem av2{l:List (List Int)}{a b:Nat}:(km l).map (V.iT a b)=km l:=BZ (row:=fun p=>[ints p]) (fun a=>by simp) l
@[simp] theorem av3{l:List Ds}:(gX l).map V.ko=gX l:=BZ (row:=Ds.row) (fun a=>by simp) l
@[simp] theorem av4{l:List (List Int)}:(km l).map V.ko=km l:=BZ (row:=fun p=>[ints p]) (fun a=>by simp) l
def G5(l:List Ds):Prop:=l.length≤1000∧∀i,i<l.length→(nth l i).u.length≤1000∧(nth l i).g.length≤1000
def P5(l:List (List Int)):Prop:=l.length≤1000∧∀i,i<l.length→(nth l i).length≤17592186044416
theorem P6(l:List Ds)(h:G5 l)(G:List aP):aX F 70 [m7 l] G=some (.dh G.length 4 l.length,G++[.cells (gX l)]) :=
 bM rfl rfl (by
  obtain⟨hl,hs⟩:=h;simp (disch:=omega) [-getElem?_pos,wrap64,VF];refine go_loop (fun i:Nat=>ahM i (m7 l) l.length i (gX (l.take i)) G) (fun i=>i≤l.length) (fun i=>l.length-i) 0 rfl (by simp[gX]) (by simp) ?_
  rintro i hi;simp (disch:=omega) [-getElem?_pos,wrap64,VE];refine bE (fun h5=>?_) (fun h5=>?_)
  ·have h5:i<l.length:=by omega
   have hu:=anI (nth l i).u (hs i h5).1;have hg:=anJ (nth l i).g (hs i h5).2;have hm:Nat.min i l.length=i:=Nat.min_eq_left hi;simp (disch:=omega) [-getElem?_pos,wrap64,aW (l:=l),hu,hg];exact bF (i+1) (by simp[jI h5,← P4]) (by omega) (by omega)
  ·obtain rfl:i=l.length:=by omega
   simp (disch:=omega) [-getElem?_pos,wrap64,sr,P3,List.take_length])
theorem aav(l:List Int)(hl:l.length≤17592186044416)(G:List aP):aX F 105 [ints l] G=some (.slice (some 0) 1 (l.map fun n=>[i64 n]),G):=by
 cases l with
 |nil =>
  refine Mr (p:=0) (m:=1) rfl rfl rfl rfl ?_ ?_
  ·simp (disch:=omega) [wrap64,IZ]
  ·simp (disch:=omega) [wrap64,IZ]
 |cons a l =>
  have hl:l.length+1≤17592186044416:=by simpa using hl
  show aX F 105 [.slice none 1 ([i64 a]::l.map fun n=>[i64 n])] G=some (.slice (some 0) 1 ([i64 a]::l.map fun n=>[i64 n]),G);refine Ms (p:=0) rfl rfl rfl (fun m=>by simp) ?_
  simp (disch:=omega) [wrap64,IZ]
theorem aaw(l:List (List Int))(h:P5 l)(G:List aP):aX F 154 [je l] G=some (.dh G.length 1 l.length,G++[.cells (km l)]) :=
 bM rfl rfl (by
  obtain⟨hl,hs⟩:=h;simp (disch:=omega) [-getElem?_pos,wrap64,WX];refine go_loop (fun i:Nat=>ajv i (je l) l.length i (km (l.take i)) G) (fun i=>i≤l.length) (fun i=>l.length-i) 0 rfl (by simp[km]) (by simp) ?_
  rintro i hi;simp (disch:=omega) [-getElem?_pos,wrap64,WW];refine bE (fun h5=>?_) (fun h5=>?_)
  ·have h5:i<l.length:=by omega
   have hu:=aav (nth l i) (hs i h5);have hm:Nat.min i l.length=i:=Nat.min_eq_left hi;simp (disch:=omega) [-getElem?_pos,wrap64,aW (l:=l),hu];exact bF (i+1) (by simp[jI h5,← aau]) (by omega) (by omega)
  ·obtain rfl:i=l.length:=by omega
   simp (disch:=omega) [-getElem?_pos,wrap64,Ag,aat,List.take_length])
theorem aax(l:List Ds)(h:G5 l)(G:List aP):aX F 56 [m7 l] G=some (.dh G.length 4 l.length,G++[.cells (gX l)]) :=
 bM rfl rfl (by
  obtain⟨hl,hs⟩:=h;simp (disch:=omega) [-getElem?_pos,wrap64,Ny];refine go_loop (fun i:Nat=>Vk i (m7 l) l.length i (gX (l.take i)) G) (fun i=>i≤l.length) (fun i=>l.length-i) 0 rfl (by simp[gX]) (by simp) ?_
  rintro i hi;simp (disch:=omega) [-getElem?_pos,wrap64,Nx];refine bE (fun h5=>?_) (fun h5=>?_)
  ·have h5:i<l.length:=by omega
   have hu:=(hs i h5).1;have hg:=(hs i h5).2;have hm:Nat.min i l.length=i:=Nat.min_eq_left hi;simp (disch:=omega) [-getElem?_pos,wrap64,aW (l:=l)];exact bF (i+1) (by simp[jI h5,← P4]) (by omega) (by omega)
  ·obtain rfl:i=l.length:=by omega
   simp (disch:=omega) [-getElem?_pos,wrap64,sr,P3,List.take_length])
theorem P7(f:Fl)(h:G5 f.d)(hw:P5 f.w)(G:List aP):aX F 15 [fl f] G=some (.agg [i64 f.t,.dh G.length 4 f.d.length,.dh (G.length+1) 1 f.w.length],G++[.cells (gX f.d),.cells (km f.w)]) :=
 bM rfl rfl (by
  obtain⟨t,d,l⟩:=f;simp only at h hw;have hd:=aax d h;obtain⟨hl,hs⟩:=hw;simp (disch:=omega) [-getElem?_pos,wrap64,UP,hd];refine go_loop (fun i:Nat=>agw i (je l) l.length i [i64 t,.dh G.length 4 d.length,je l] [i64 0,.bV,.bV] (km (l.take i)) (G++[.cells (gX d)])) (fun i=>i≤l.length) (fun i=>l.length-i) 0 rfl (by simp[km]) (by simp) ?_
  rintro i hi;simp (disch:=omega) [-getElem?_pos,wrap64,UO];refine bE (fun h5=>?_) (fun h5=>?_)
  ·have h5:i<l.length:=by omega
   have hu:=hs i h5;have hm:Nat.min i l.length=i:=Nat.min_eq_left hi;simp (disch:=omega) [-getElem?_pos,wrap64,aW (l:=l)];exact bF (i+1) (by simp[jI h5,← aau]) (by omega) (by omega)
  ·obtain rfl:i=l.length:=by omega
   simp (disch:=omega) [-getElem?_pos,wrap64,Ag,aat,List.take_length])
end Go.Proofs.YtocclbnghhaejaaGreat
