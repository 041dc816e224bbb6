/- Parts of the proof, joined: Ref6, Dam8, Dst1, Dsm1, Drn1, Drn2, Rch1, Rch2, Rch3, Rch4, Rch5, Riv1, Cas1, Cas2, Fla1, Cas3. -/
import Derived.Test.YtcelmhaoipbdiaaGreatDoorDd
import Derived.Test.YtcelmhaoipbdiaaGreatDoorDa
namespace Go.Proofs.YtcelmhaoipbdiaaGreatDoor
set_option linter.all false
open Go.Vm
attribute [local simp] mK mL lN mJ
theorem aoa(d:Dm)(s:Ds)(inf los rel:Int):∃G',bd F 60 [dm d,dst s,i64 inf,i64 los,i64 rel] []=some (sO d s inf los rel,G'):=by
 suffices h:∀Q:V→List aT→Prop,(∀G',Q (sO d s inf los rel) G')→gU (bd F) 60 [dm d,dst s,i64 inf,i64 los,i64 rel] [] Q by
  obtain⟨_,G',h,rfl⟩:=h (fun v G'=>v=sO d s inf los rel) fun _=>rfl;exact⟨G',h⟩
 intro Q hQ;refine ic rfl rfl ?_;by_cases hd:dE d s=0
 ·obtain⟨qx,hf⟩:=HN hd
  have wK:lvl d s=jF d.r s.v:=by simp[lvl,hd]
  by_cases ho:[inf,los,rel].any xe=false
  ·have he:nO d s inf los rel=0:=by unfold nO;rw[aA (fun g=>g hd),ho];rfl
   unfold sO at hQ;rw[aP he]at hQ;have hx:=ho;simp only[xe,EL,EN,EF,L6,Su,jA]at hx;obtain⟨x1,x2,x3⟩:=hx;have i1:(decide (0≤inf)&&decide (inf≤1073741824))=true:=by simp;omega
   have i2:(decide (0≤los)&&decide (los≤1073741824))=true:=by simp;omega
   have i3:(decide (0≤rel)&&decide (rel≤1073741824))=true:=by simp;omega
   have p:=Ri qx hf x1 x2 x3;have hv:=hf.1;have hC:=Ld qx.r;have hD:=Lc qx.r;have hV1:=KL d.r d.r.d [];rw[anz qx.r,aP rfl,show ig d.r.c d.r.d=Eh d from rfl]at hV1;have hV2:=KL d.r d.r.t [];rw[Q2 qx.r,aP rfl,show ig d.r.c d.r.t=kD d from rfl]at hV2;have hL:s.v+inf-min los (s.v+inf)=ew s inf los:=rfl;have sd:max 0 (ew s inf los-Eh d)=jS d (ew s inf los):=by unfold jS;omega
   have hLr:0≤ew s inf los∧ew s inf los≤4611686018427387904:=by unfold ew;omega
   have Rw:0≤jS d (ew s inf los)∧jS d (ew s inf los)≤4611686018427387904:=by unfold jS;omega
   have hU:=an8 qx hf (q:=min rel (jS d (ew s inf los))) (by omega) []
   rw[show min (min rel (jS d (ew s inf los))) (200*d.gr)=kS d rel (ew s inf los) from rfl]at hU;rw[show dW (gM d s (kS d rel (ew s inf los))) d.u.length=fP d s inf los rel from rfl]at hU;have hT:=p.T0;have hTr:=p.Tr;have hW:min rel (jS d (ew s inf los))-fP d s inf los rel=nj d rel (ew s inf los) (fP d s inf los rel):=rfl;have hS:=anr d.g s.g (jF d.r s.v) (nj d rel (ew s inf los) (fP d s inf los rel)) [];have hF:=Ll d.g s.g (jF d.r s.v) (nj d rel (ew s inf los) (fP d s inf los rel))
   have hP:min (nN d.g s.g (jF d.r s.v) (nj d rel (ew s inf los) (fP d s inf los rel))) (jS d (ew s inf los)-fP d s inf los rel)=lD d s inf los rel:=rfl;have hP0:=p.P0;have hP1:=p.P1;have hO:max 0 (ew s inf los-(fP d s inf los rel+lD d s inf los rel)-kD d)=sN d s inf los rel:=by unfold sN;omega
   have hO0:0≤sN d s inf los rel∧sN d s inf los rel≤4611686018427387904:=by unfold sN;omega
   have hmn:min 1073741824 (fP d s inf los rel+lD d s inf los rel)=min (fP d s inf los rel+lD d s inf los rel) 1073741824:=Ma _ _;unfold lQ lF at hQ;generalize sN d s inf los rel=O at *;generalize lD d s inf los rel=P at *;generalize nj d rel (ew s inf los) (fP d s inf los rel)=W at *;generalize fP d s inf los rel=T at *;generalize hLL:ew s inf los=L at *;simp (config:={ maxSteps:=2000000 }) +contextual (disch:=omega) [-getElem?_pos,-List.length_eq_zero_iff,-Int.natCast_eq_zero,wrap64,DS,HU,hd,wK,cV,i1,i2,i3,hV1,hV2]
   simp (config:={ maxSteps:=2000000 }) +contextual (disch:=omega) [-getElem?_pos,-List.length_eq_zero_iff,-Int.natCast_eq_zero,wrap64,hL,sd,hU];simp (config:={ maxSteps:=2000000 }) +contextual (disch:=omega) [-getElem?_pos,-List.length_eq_zero_iff,-Int.natCast_eq_zero,wrap64,hW,hS,hP,hO,hmn];exact hQ _
  ·have ho:[inf,los,rel].any xe=true:=(L5 _).resolve_right ho
   have he:nO d s inf los rel=1:=by unfold nO;rw[aA (fun g=>g hd),ho];rfl
   unfold sO at hQ;rw[he,aA (by omega)]at hQ
   simp only[xe,EL,EN,EF]at ho;by_cases i1:0≤inf∧inf≤1073741824
   ·by_cases i2:0≤los∧los≤1073741824
    ·by_cases i3:0≤rel∧rel≤1073741824
     ·simp[i1,i2,i3]at ho
     ·have j1:(decide (0≤inf)&&decide (inf≤1073741824))=true:=by simp;omega
      have j2:(decide (0≤los)&&decide (los≤1073741824))=true:=by simp;omega
      have j3:(decide (0≤rel)&&decide (rel≤1073741824))=false:=by simp;omega
      simp (config:={ maxSteps:=2000000 }) +contextual (disch:=omega) [-getElem?_pos,-List.length_eq_zero_iff,-Int.natCast_eq_zero,wrap64,DS,HU,hd,wK,cV,j1,j2,j3];exact hQ _
    ·have j1:(decide (0≤inf)&&decide (inf≤1073741824))=true:=by simp;omega
     have j2:(decide (0≤los)&&decide (los≤1073741824))=false:=by simp;omega
     simp (config:={ maxSteps:=2000000 }) +contextual (disch:=omega) [-getElem?_pos,-List.length_eq_zero_iff,-Int.natCast_eq_zero,wrap64,DS,HU,hd,wK,cV,j1,j2];exact hQ _
   ·have j1:(decide (0≤inf)&&decide (inf≤1073741824))=false:=by simp;omega
    simp (config:={ maxSteps:=2000000 }) +contextual (disch:=omega) [-getElem?_pos,-List.length_eq_zero_iff,-Int.natCast_eq_zero,wrap64,DS,HU,hd,wK,cV,j1];exact hQ _
 ·have he:nO d s inf los rel=dE d s:=by unfold nO;rw[aP hd]
  unfold sO at hQ;rw[he,aA hd]at hQ;simp[wrap64,DS,HU,hd];exact hQ _
theorem aog(s:List Us)(hs:s.length≤1000)(G:List aT):bd F 172 [jO s] G=some (Hr s,G):=by
 cases s with
 |nil =>
  refine Oc (p:=0) (m:=3) rfl rfl rfl rfl ?_ ?_
  ·simp (disch:=omega) [wrap64,Ku]
  ·simp (disch:=omega) [wrap64,Ku]
 |cons a s =>
  have hs:s.length+1≤1000:=by simpa using hs
  show bd F 172 [.slice none 3 (a.row::s.map Us.row)] G=some (.slice (some 0) 3 (a.row::s.map Us.row),G);refine Od (p:=0) rfl rfl rfl (fun m=>by simp) ?_
  simp (disch:=omega) [wrap64,Ku]
theorem aoh(s:List Gs)(hs:s.length≤1000)(G:List aT):bd F 173 [jH s] G=some (Lm s,G):=by
 cases s with
 |nil =>
  refine Oc (p:=0) (m:=2) rfl rfl rfl rfl ?_ ?_
  ·simp (disch:=omega) [wrap64,Kw]
  ·simp (disch:=omega) [wrap64,Kw]
 |cons a s =>
  have hs:s.length+1≤1000:=by simpa using hs
  show bd F 173 [.slice none 2 (a.row::s.map Gs.row)] G=some (.slice (some 0) 2 (a.row::s.map Gs.row),G);refine Od (p:=0) rfl rfl rfl (fun m=>by simp) ?_
  simp (disch:=omega) [wrap64,Kw]
noncomputable def Cg(d:Dm)(s:Ds)(A B C:List Int):Nat→Ds
 |0=>s
 |i+1=>lQ d (Cg d s A B C i) (nth A i) (nth B i) (nth C i)
noncomputable def rnR(d:Dm)(s:Ds)(A B C:List Int)(i:Nat):Dr:=lF d (Cg d s A B C i) (nth A i) (nth B i) (nth C i)
noncomputable def Lo(d:Dm)(s:Ds)(A B C:List Int)(n:Nat):List Dr:=(List.range n).map (rnR d s A B C)
end Go.Proofs.YtcelmhaoipbdiaaGreatDoor
namespace Go.Proofs.YtcelmhaoipbdiaaGreatDoor
set_option linter.all false
open Go.Vm
end Go.Proofs.YtcelmhaoipbdiaaGreatDoor
namespace Go.Proofs.YtcelmhaoipbdiaaGreatDoor
set_option linter.all false
open Go.Vm
attribute [local simp] mK mL lN mJ
theorem Ej{α:Type}[Inhabited α]{l:List α}{i k:Nat}:nth (l.drop k) i=nth l (k+i):=by simp[nth,nT]
theorem abr{d:Dm}{s:Ds}{A B C:List Int}{m:Nat}:∀i,Cg d (Cg d s A B C m) (A.drop m) (B.drop m) (C.drop m) i=Cg d s A B C (m+i)
 |0=>rfl
 |i+1=>by
  rw[←AZ];simp only[Cg];rw[abr i,Ej,Ej,Ej]
theorem awA{d:Dm}{s:Ds}{A B C:List Int}{m n:Nat}:Lo d s A B C m++Lo d (Cg d s A B C m) (A.drop m) (B.drop m) (C.drop m) n=Lo d s A B C (m+n):=by
 unfold Lo;rw[List.range_add,EU,AV];congr 1;refine EV fun i _=>?_;unfold rnR;rw[abr,Ej,Ej,Ej];rfl
theorem aoi(g:List Dr)(hg:g.length≤5000)(G:List aT):bd F 109 [.slice none 7 (g.map Dr.row),.slice none 7 (g.map Dr.row)] G=some (.bool true,G) :=
 bX rfl rfl (by
  simp (disch:=omega) [wrap64,XE];refine go_loop (fun i:Nat=>ajh (.slice none 7 (g.map Dr.row)) (.slice none 7 (g.map Dr.row)) g.length i G) (fun i=>i≤g.length) (fun i=>g.length-i) 0 rfl (by simp) (by omega) ?_
  intro i hi;simp (disch:=omega) [wrap64,XD];refine bS (fun h5=>?_) (fun h5=>?_)
  ·have h5:i<g.length:=by omega
   simp (disch:=omega) [wrap64,bg (l:=g),V.iu,eA,jU];refine bV (i+1) (by simp) (by omega) (by omega)
  ·trivial)
end Go.Proofs.YtcelmhaoipbdiaaGreatDoor
namespace Go.Proofs.YtcelmhaoipbdiaaGreatDoor
set_option linter.all false
open Go.Vm
def okF(A B C:List Int)(i:Nat):Prop:=(0≤nth A i∧nth A i≤1073741824)∧(0≤nth B i∧nth B i≤1073741824)∧(0≤nth C i∧nth C i≤1073741824)
instance {A B C:List Int} {i:Nat}:Decidable (okF A B C i):=inferInstanceAs (Decidable (_∧_∧_))
def okA(A B C:List Int):Prop:=∀i,i<A.length→okF A B C i
noncomputable instance {A B C:List Int}:Decidable (okA A B C):=Classical.propDecidable _
end Go.Proofs.YtcelmhaoipbdiaaGreatDoor
namespace Go.Proofs.YtcelmhaoipbdiaaGreatDoor
set_option linter.all false
open Go.Vm
attribute [local simp] mK mL lN mJ
theorem aok(r:Dr)(ht:0≤r.tur∧r.tur≤1099511627776)(hs:0≤r.spi∧r.spi≤1099511627776)(ho:0≤r.ovr∧r.ovr≤1099511627776)(G:List aT):bd F 61 [dr r] G=some (i64 (r.tur+r.spi+r.ovr),G) :=
 bX rfl rfl (by
  simp (disch:=omega) [wrap64,Pf])
def eY(l:List Int)(b:Int):Prop:=∀i,i<l.length→0≤nth l i∧nth l i≤b
noncomputable instance {l:List Int} {b:Int}:Decidable (eY l b):=Classical.propDecidable _
def sm(l:List Int):Nat→Int
 |0=>0
 |i+1=>sm l i+nth l i
theorem Ci{l:List Int}{b:Int}:∀{i:Nat},(∀j,j<i→0≤nth l j∧nth l j≤b)→0≤sm l i∧sm l i≤b*i
 |0,_=>by simp[sm]
 |i+1,h=>by
  have:=Ci fun j hj=>h j (SS hj);have:=h i (by omega)
  have:b*((i+1:Nat):Int)=b*i+b:=by simp[Io]
  simp only[sm];omega
structure Rc where
 w:List Int
 den:Int
 deriving Inhabited
abbrev Rc.row(r:Rc):List V:=[ints r.w,i64 r.den]
abbrev rc(r:Rc):V:=.agg r.row
abbrev wv(p:List Int):V:=.agg [ints p]
noncomputable def eT(r:Rc):Int :=
 if r.w.length=0∨nth r.w (r.w.length-1)=0 then 3 else if 24<r.w.length then 10 else if eY r.w 10000 then (if sm r.w r.w.length=r.den then 0 else 2) else 1
theorem xf(r:Rc)(hl:r.w.length≤17592186044416)(G:List aT):bd F 151 [rc r] G=some (i64 (eT r),G) :=
 bX rfl rfl (by
  obtain⟨w,den⟩:=r;simp only at hl;generalize hW:eT ⟨w,den⟩=W;unfold eT at hW;simp only at hW;by_cases h1:w.length=0
  ·rw[aP (.inl h1)]at hW
   have gN:(w.length:Int)=0:=by omega
   simp (disch:=omega) [-getElem?_pos,-Int.natCast_eq_zero,wrap64,Hc,gN];exact hW
  have gN:¬ (w.length:Int)=0:=by omega
  by_cases h2:nth w (w.length-1)=0
  ·rw[aP (.inr h2)]at hW
   simp (disch:=omega) [-getElem?_pos,-Int.natCast_eq_zero,wrap64,Hc,gN,dV (l:=w),h2];exact hW
  rw[aA (by omega)]at hW
  by_cases h3:24<w.length
  ·rw[aP h3]at hW
   have iK:(24:Int)<w.length:=by omega
   simp (disch:=omega) [-getElem?_pos,-Int.natCast_eq_zero,wrap64,Hc,gN,dV (l:=w),h2,iK];exact hW
  rw[aA h3]at hW;have iK:¬ (24:Int)<w.length:=by omega
  simp (disch:=omega) [-getElem?_pos,-Int.natCast_eq_zero,wrap64,Hc,gN,dV (l:=w),h2,iK];refine go_loop (fun i:Nat=>ake (sm w i) (ints w) w.length i (Rc.row ⟨w,den⟩) G) (fun i=>i≤w.length∧∀j,j<i→0≤nth w j∧nth w j≤10000) (fun i=>w.length-i) 0 rfl (by simp[sm]) (by simp) ?_
  rintro i ⟨hi,hj⟩;have hs:=Ci hj;simp (disch:=omega) [-getElem?_pos,-Int.natCast_eq_zero,wrap64,Yo];refine bS (fun h5=>?_) (fun h5=>?_)
  ·have h5:i<w.length:=by omega
   by_cases h6:0≤nth w i∧nth w i≤10000
   ·have il:(decide (0≤nth w i)&&decide (nth w i≤10000))=true:=by simp;exact h6
    simp (disch:=omega) [-getElem?_pos,-Int.natCast_eq_zero,wrap64,dV (l:=w),dD,cV,il];refine bV (i+1) (by simp[sm]) ⟨by omega,fun j h7=>?_⟩ (by omega)
    rcases cF j i with h8|h8
    ·exact hj j h8
    ·rwa [show j=i by omega]
   ·have il:(decide (0≤nth w i)&&decide (nth w i≤10000))=false:=by simp;omega
    rw[aA (fun g:eY w 10000=>h6 (g i h5))]at hW;simp (disch:=omega) [-getElem?_pos,-Int.natCast_eq_zero,wrap64,dV (l:=w),dD,cV,il];exact hW
  ·obtain rfl:i=w.length:=by omega
   rw[aP (show eY w 10000 from hj)]at hW;by_cases h7:sm w w.length=den
   ·rw[aP h7]at hW
    simp (disch:=omega) [-getElem?_pos,-Int.natCast_eq_zero,wrap64,h7];exact hW
   ·rw[aA h7]at hW
    simp (disch:=omega) [-getElem?_pos,-Int.natCast_eq_zero,wrap64,h7];exact hW)
theorem xg(r:Rc)(hl:r.w.length≤17592186044416)(G:List aT):bd F 141 [rc r] G=some (i64 (eT r),G) :=
 bX rfl rfl (by
  obtain⟨w,den⟩:=r;simp only at hl;generalize hW:eT ⟨w,den⟩=W;unfold eT at hW;simp only at hW;by_cases h1:w.length=0
  ·rw[aP (.inl h1)]at hW
   have gN:(w.length:Int)=0:=by omega
   simp (disch:=omega) [-getElem?_pos,-Int.natCast_eq_zero,wrap64,G9,gN];exact hW
  have gN:¬ (w.length:Int)=0:=by omega
  by_cases h2:nth w (w.length-1)=0
  ·rw[aP (.inr h2)]at hW
   simp (disch:=omega) [-getElem?_pos,-Int.natCast_eq_zero,wrap64,G9,gN,dV (l:=w),h2];exact hW
  rw[aA (by omega)]at hW
  by_cases h3:24<w.length
  ·rw[aP h3]at hW
   have iK:(24:Int)<w.length:=by omega
   simp (disch:=omega) [-getElem?_pos,-Int.natCast_eq_zero,wrap64,G9,gN,dV (l:=w),h2,iK];exact hW
  rw[aA h3]at hW;have iK:¬ (24:Int)<w.length:=by omega
  simp (disch:=omega) [-getElem?_pos,-Int.natCast_eq_zero,wrap64,G9,gN,dV (l:=w),h2,iK];refine go_loop (fun i:Nat=>ajU (sm w i) (ints w) w.length i (Rc.row ⟨w,den⟩) G) (fun i=>i≤w.length∧∀j,j<i→0≤nth w j∧nth w j≤10000) (fun i=>w.length-i) 0 rfl (by simp[sm]) (by simp) ?_
  rintro i ⟨hi,hj⟩;have hs:=Ci hj;simp (disch:=omega) [-getElem?_pos,-Int.natCast_eq_zero,wrap64,X9];refine bS (fun h5=>?_) (fun h5=>?_)
  ·have h5:i<w.length:=by omega
   by_cases h6:0≤nth w i∧nth w i≤10000
   ·have il:(decide (0≤nth w i)&&decide (nth w i≤10000))=true:=by simp;exact h6
    simp (disch:=omega) [-getElem?_pos,-Int.natCast_eq_zero,wrap64,dV (l:=w),dD,cV,il];refine bV (i+1) (by simp[sm]) ⟨by omega,fun j h7=>?_⟩ (by omega)
    rcases cF j i with h8|h8
    ·exact hj j h8
    ·rwa [show j=i by omega]
   ·have il:(decide (0≤nth w i)&&decide (nth w i≤10000))=false:=by simp;omega
    rw[aA (fun g:eY w 10000=>h6 (g i h5))]at hW;simp (disch:=omega) [-getElem?_pos,-Int.natCast_eq_zero,wrap64,dV (l:=w),dD,cV,il];exact hW
  ·obtain rfl:i=w.length:=by omega
   rw[aP (show eY w 10000 from hj)]at hW;by_cases h7:sm w w.length=den
   ·rw[aP h7]at hW
    simp (disch:=omega) [-getElem?_pos,-Int.natCast_eq_zero,wrap64,h7];exact hW
   ·rw[aA h7]at hW
    simp (disch:=omega) [-getElem?_pos,-Int.natCast_eq_zero,wrap64,h7];exact hW)
def im(r:Rc)(p:List Int):Prop:=p.length≤r.w.length∧(0<p.length→nth p (p.length-1)≠0)∧eY p 2251799813685248
noncomputable instance {r:Rc} {p:List Int}:Decidable (im r p):=Classical.propDecidable _
theorem abt(r:Rc)(p:List Int)(hl:p.length≤17592186044416)(G:List aT):bd F 198 [rc r,wv p] G=some (.bool (decide (im r p)),G) :=
 bX rfl rfl (by
  obtain⟨w,den⟩:=r;generalize hW:decide (im ⟨w,den⟩ p)=W;have no:¬ im ⟨w,den⟩ p→W=false:=fun h=>by rw[←hW];simp[h]
  unfold im at no;simp only at no;by_cases h1:(w.length:Int)<p.length
  ·simp +contextual (disch:=omega) [-getElem?_pos,wrap64,Hg,h1]
   exact no (by omega)
  by_cases h2:0<p.length∧nth p (p.length-1)=0
  ·have mi:(0:Int)<p.length:=by omega
   simp +contextual (disch:=omega) [-getElem?_pos,wrap64,Hg,h1,mi,dV (l:=p),h2.2];exact no (fun h=>h.2.1 h2.1 h2.2)
  rcases (by omega:(0:Int)<p.length∧nth p (p.length-1)≠0∨¬ (0:Int)<p.length) with⟨h3,h4⟩ | h3
  ·simp +contextual (disch:=omega) [-getElem?_pos,wrap64,Hg,h1,h3,dV (l:=p),h4]
   refine go_loop (fun i:Nat=>akO (ints p) p.length i G) (fun i=>i≤p.length∧∀j,j<i→0≤nth p j∧nth p j≤2251799813685248) (fun i=>p.length-i) 0 rfl (by simp) (by simp) ?_
   rintro i ⟨hi,hj⟩;simp +contextual (disch:=omega) [-getElem?_pos,wrap64,PX];refine bS (fun h5=>?_) (fun h5=>?_)
   ·have h5:i<p.length:=by omega
    by_cases h6:0≤nth p i∧nth p i≤2251799813685248
    ·have il:(decide (0≤nth p i)&&decide (nth p i≤2251799813685248))=true:=by simp;exact h6
     simp +contextual (disch:=omega) [-getElem?_pos,wrap64,dV (l:=p),dD,cV,il];refine bV (i+1) (by simp) ⟨by omega,fun j h7=>?_⟩ (by omega)
     rcases cF j i with h8|h8
     ·exact hj j h8
     ·rwa [show j=i by omega]
    ·have il:(decide (0≤nth p i)&&decide (nth p i≤2251799813685248))=false:=by simp;omega
     simp +contextual (disch:=omega) [-getElem?_pos,wrap64,dV (l:=p),dD,cV,il];exact no (fun h=>h6 (h.2.2 i h5))
   ·obtain rfl:i=p.length:=by omega
    rw[←hW,fL (show im ⟨w,den⟩ p from⟨by simp only;omega,fun h6 h7=>h2 ⟨h6,h7⟩,hj⟩)]
  ·obtain rfl:p=[]:=bW.1 (by omega)
   have gN:¬ (w.length:Int)<0:=by omega
   simp +contextual (disch:=omega) [-getElem?_pos,wrap64,Hg,gN];unfold YW;rw[yu];simp +contextual (disch:=omega) [-getElem?_pos,wrap64,PX];rw[←hW,fL (show im ⟨w,den⟩ [] from⟨by simp,by simp,fun i hi=>by simp at hi⟩)])
theorem abu(r:Rc)(hr:r.w.length≤17592186044416)(p:List Int)(hl:p.length≤17592186044416)(G:List aT):bd F 100 [rc r,wv p] G=some (.bool (decide (eT r=0∧im r p)),G) :=
 bX rfl rfl (by
  have hc:=xg r hr;by_cases hz:eT r=0
  ·rw[hz]at hc
   obtain⟨w,den⟩:=r;rw[show decide (eT ⟨w,den⟩=0∧im ⟨w,den⟩ p)=decide (im ⟨w,den⟩ p) by simp[hz]]
   generalize hW:decide (im ⟨w,den⟩ p)=W;have no:¬ im ⟨w,den⟩ p→W=false:=fun h=>by rw[←hW];simp[h]
   unfold im at no;simp only at no;by_cases h1:(w.length:Int)<p.length
   ·simp +contextual (disch:=omega) [-getElem?_pos,wrap64,DU,hc,h1]
    exact no (by omega)
   by_cases h2:0<p.length∧nth p (p.length-1)=0
   ·have mi:(0:Int)<p.length:=by omega
    simp +contextual (disch:=omega) [-getElem?_pos,wrap64,DU,hc,h1,mi,dV (l:=p),h2.2];exact no (fun h=>h.2.1 h2.1 h2.2)
   rcases (by omega:(0:Int)<p.length∧nth p (p.length-1)≠0∨¬ (0:Int)<p.length) with⟨h3,h4⟩ | h3
   ·simp +contextual (disch:=omega) [-getElem?_pos,wrap64,DU,hc,h1,h3,dV (l:=p),h4]
    refine go_loop (fun i:Nat=>aiS (ints p) p.length i G) (fun i=>i≤p.length∧∀j,j<i→0≤nth p j∧nth p j≤2251799813685248) (fun i=>p.length-i) 0 rfl (by simp) (by simp) ?_
    rintro i ⟨hi,hj⟩;simp +contextual (disch:=omega) [-getElem?_pos,wrap64,Po];refine bS (fun h5=>?_) (fun h5=>?_)
    ·have h5:i<p.length:=by omega
     by_cases h6:0≤nth p i∧nth p i≤2251799813685248
     ·have il:(decide (0≤nth p i)&&decide (nth p i≤2251799813685248))=true:=by simp;exact h6
      simp +contextual (disch:=omega) [-getElem?_pos,wrap64,dV (l:=p),dD,cV,il];refine bV (i+1) (by simp) ⟨by omega,fun j h7=>?_⟩ (by omega)
      rcases cF j i with h8|h8
      ·exact hj j h8
      ·rwa [show j=i by omega]
     ·have il:(decide (0≤nth p i)&&decide (nth p i≤2251799813685248))=false:=by simp;omega
      simp +contextual (disch:=omega) [-getElem?_pos,wrap64,dV (l:=p),dD,cV,il];exact no (fun h=>h6 (h.2.2 i h5))
    ·obtain rfl:i=p.length:=by omega
     rw[←hW,fL (show im ⟨w,den⟩ p from⟨by simp only;omega,fun h6 h7=>h2 ⟨h6,h7⟩,hj⟩)]
   ·obtain rfl:p=[]:=bW.1 (by omega)
    have gN:¬ (w.length:Int)<0:=by omega
    simp +contextual (disch:=omega) [-getElem?_pos,wrap64,DU,hc,gN];unfold Xs;rw[yu];simp +contextual (disch:=omega) [-getElem?_pos,wrap64,Po];rw[←hW,fL (show im ⟨w,den⟩ [] from⟨by simp,by simp,fun i hi=>by simp at hi⟩)]
  ·generalize hW:decide (eT r=0∧im r p)=W
   simp +contextual (disch:=omega) [-getElem?_pos,wrap64,DU,hc,hz];rw[←hW];simp[hz])
theorem aol(r:Rc)(hr:r.w.length≤17592186044416)(p:List Int)(hl:p.length≤17592186044416)(G:List aT):bd F 168 [rc r,wv p] G=some (.bool (decide (eT r=0∧im r p)),G) :=
 bX rfl rfl (by
  have hc:=xf r hr;have hf:=abt r p hl;by_cases hz:eT r=0
  ·simp[wrap64,PR,hc,hf,hz]
  ·simp[wrap64,PR,hc,hf,hz])
structure Rv(r:Rc):Prop where
 pos:1≤r.w.length
 len:r.w.length≤24
 last:nth r.w (r.w.length-1)≠0
 w:∀i,i<r.w.length→0≤nth r.w i∧nth r.w i≤10000
 sum:sm r.w r.w.length=r.den
 den:1≤r.den∧r.den≤240000
theorem tF{r:Rc}(h:eT r=0):Rv r:=by
 unfold eT at h;split at h
 ·cases h
 split at h
 ·cases h
 split at h
 ·rename_i h1 h2 h3
  split at h
  ·rename_i h4
   have h0:1≤r.w.length:=by omega
   have s1:=Ci (l:=r.w) (b:=10000) (i:=r.w.length) h3;have s2:=Ci (l:=r.w) (b:=10000) (i:=r.w.length-1) fun j hj=>h3 j (by omega)
   have s3:sm r.w r.w.length=sm r.w (r.w.length-1)+nth r.w (r.w.length-1):=by
    conv=>lhs;rw[show r.w.length=r.w.length-1+1 by omega]
    rfl
   have h5:=h3 (r.w.length-1) (by omega)
   exact⟨h0,by omega,by omega,h3,h4,by omega⟩
  ·cases h
 ·cases h
def rq(r:Rc)(p:List Int)(x:Int)(k:Nat):Int:=nth p k+x*nth r.w k
def uS(r:Rc)(p:List Int)(x:Int):Prop:=∀k,k<r.w.length→rq r p x k≤1125899906842624
noncomputable instance {r:Rc} {p:List Int} {x:Int}:Decidable (uS r p x):=Classical.propDecidable _
def lG(r:Rc)(p:List Int)(x:Int):Int:=rq r p x 0 / r.den
def rN(r:Rc)(p:List Int)(x:Int)(k:Nat):Int:=if k=0 then rq r p x 1+rq r p x 0 % r.den else rq r p x (k+1)
def mn(f:Nat→Int):Nat→Nat
 |0=>0
 |n+1=>if f n=0 then mn f n else n+1
def kh(r:Rc)(p:List Int)(x:Int):List Int:=(List.range (mn (rN r p x) r.w.length)).map (rN r p x)
theorem uT{l:List Int}{i:Nat}(h:l.length≤i):nth l i=0:=by
 simp[nth,List.getD,kF h]
theorem yO{r:Rc}(hr:Rv r){p:List Int}(hp:im r p){x:Int}(hx:0≤x∧x≤1073741824)(k:Nat):0≤rq r p x k∧rq r p x k≤2262537232089088:=by
 have h1:0≤nth p k∧nth p k≤2251799813685248:=by
  rcases cF k p.length with h|h
  ·exact hp.2.2 k h
  ·rw[uT h];omega
 have h2:0≤nth r.w k∧nth r.w k≤10000:=by
  rcases cF k r.w.length with h|h
  ·exact hr.w k h
  ·rw[uT h];omega
 have h3:0≤x*nth r.w k:=CF hx.1 h2.1;have h4:x*nth r.w k≤1073741824*10000:=EJ hx.2 h2.2 h2.1 (by omega)
 unfold rq;omega
theorem abv{p:List Int}:(dN p).all V.sc=true:=by simp[dN,V.sc]
theorem abw{p:List Int}{n:Nat}(h:p.length≤n):(dN p).take n++(eP n fun _=>0).drop p.length=eP n (nth p):=by
 rw[kG (by simpa using h)]
 apply xq;intro i;rcases cF i p.length with h1|h1
 ·rw[sW (by simpa using h1),lx h1,oX (by omega)]
 ·rw[u5 (by simpa using h1),ags,nT,show p.length+(i-p.length)=i by omega]
  rcases cF i n with h2|h2
  ·rw[oX h2,oX h2,uT h1]
  ·rw[kF (by simpa using h2),kF (by simpa using h2)]
theorem aom{n:Nat}{f:Nat→Int}:(List.take n (eP (n+1) f).tail).all V.sc=true:=by
 rw[g9];intro v hv;have:=List.mem_of_mem_tail (IC hv);simp only[eP,lV]at this;obtain⟨j,_,rfl⟩:=this;rfl
theorem aon{n:Nat}{f:Nat→Int}:List.take (n+1) (List.take n (eP (n+1) f).tail)++List.drop n (eP (n+1) f)=eP (n+1) fun k=>if k<n then f (k+1) else f k:=by
 apply xq;intro i;have hl:(List.take n (eP (n+1) f).tail).length=n:=by simp
 rw[kG (by rw[hl];omega)]
 rcases cF i n with h|h
 ·rw[sW (by rw[hl];exact h),SJ h,SI,oX (by omega),oX (by omega),aP h]
 ·rw[u5 (by rw[hl];exact h),hl,nT,show n+(i-n)=i by omega]
  rcases cF i (n+1) with h2|h2
  ·rw[oX h2,oX h2,aA (by omega)]
  ·rw[kF (by simpa using h2),kF (by simpa using h2)]
theorem abx{n m:Nat}{f:Nat→Int}(h:m≤n):kH [none] (chunks 1 (eP n f) 0 m)=some ((List.range m).map fun j=>[V.int .i64 (f j)]):=by
 have e:(eP n f).take m=eP m f:=by
  apply xq;intro i;rcases cF i m with h1|h1
  ·rw[SJ h1,oX (by omega),oX h1]
  ·rw[kF (by simp;omega),kF (by simpa using h1)]
 rw[Gr _ _ _ rfl (by simpa using h),tM,e,eP,AV]
 exact JV f _
theorem aoo(r:Rc)(hr:Rv r)(p:List Int)(hp:im r p)(x:Int)(hx:0≤x∧x≤1073741824)(G:List aT) :
  bd F 227 [rc r,wv p,i64 x] G=some (.tuple (if uS r p x then [wv (kh r p x),i64 (lG r p x),.bool true] else [.agg [.slice (some 0) 1 []],i64 0,.bool false]),G) :=
 bX rfl rfl (by
  obtain⟨w,den⟩:=r;generalize hW:(V.tuple (if uS ⟨w,den⟩ p x then [wv (kh ⟨w,den⟩ p x),i64 (lG ⟨w,den⟩ p x),.bool true] else [.agg [.slice (some 0) 1 []],i64 0,.bool false]))=W
  have hlen:=hr.len;have gR:=hr.pos;have lL:=hp.1;simp only at hlen gR lL;have Ry:p.length≤w.length+1:=by omega
  have Rz:∀k,k<w.length→0≤x*nth w k∧x*nth w k≤10737418240000:=fun k hk=>by
   have h2:=hr.w k hk;simp only at h2;have h3:0≤x*nth w k:=CF hx.1 h2.1;have h4:x*nth w k≤1073741824*10000:=EJ hx.2 h2.2 h2.1 (by omega)
   omega
  have RA:∀k,0≤nth p k∧nth p k≤2251799813685248:=fun k=>by
   rcases cF k p.length with h|h
   ·exact hp.2.2 k h
   ·rw[uT h];omega
  simp (disch:=omega) [-getElem?_pos,wrap64,Zk,Vs,abv,abw Ry];refine go_loop (fun i:Nat=>ak6 x (w.length+1) (ints w) w.length i (Rc.row ⟨w,den⟩) [.b9] (eP (w.length+1) fun k=>if k<i then rq ⟨w,den⟩ p x k else nth p k) G) (fun i=>i≤w.length∧∀k,k<i→rq ⟨w,den⟩ p x k≤1125899906842624) (fun i=>w.length-i) 0 rfl (by simp) (by simp) ?_
  rintro i ⟨hi,hj⟩;simp (disch:=omega) [-getElem?_pos,wrap64,Zj];refine bS (fun h5=>?_) (fun h5=>?_)
  ·have h5:i<w.length:=by omega
   have hq:=yO hr hp hx i;have ha:=Rz i h5;have hb:=RA i;have hf:(fun j=>if j=i then nth p i+x*nth w i else if j<i then rq ⟨w,den⟩ p x j else nth p j)=fun j=>if j<i+1 then rq ⟨w,den⟩ p x j else nth p j:=by
    funext j;by_cases h6:j=i
    ·subst h6;simp[rq]
    ·by_cases h7:j<i
     ·rw[aA h6,aP h7,aP (by omega)]
     ·rw[aA h6,aA h7,aA (by omega)]
   simp (disch:=omega) [-getElem?_pos,wrap64,dV (l:=w),oX,hf];refine bS (fun h7=>?_) (fun h7=>?_)
   ·rw[←hW,aA (fun g:uS ⟨w,den⟩ p x=>absurd (g i h5) (by omega))]
   ·refine bV (i+1) (by simp) ⟨by omega,fun k hk=>?_⟩ (by omega)
    rcases cF k i with h8|h8
    ·exact hj k h8
    ·rw[show k=i by omega];omega
  ·obtain rfl:i=w.length:=by omega
   rw[aP (show uS ⟨w,den⟩ p x from hj)]at hW;have hf:(eP (w.length+1) fun k=>if k<w.length then rq ⟨w,den⟩ p x k else nth p k)=eP (w.length+1) (rq ⟨w,den⟩ p x):=Oe fun k hk=>by
    by_cases h6:k<w.length
    ·rw[aP h6]
    ·rw[aA h6,show k=w.length by omega];simp[rq,uT (bR w.length)]
   have hd:=hr.den;simp only at hd;have HW:¬ den=0:=by omega
   have q0:=yO hr hp hx 0;have q1:=yO hr hp hx 1;have d1:(rq ⟨w,den⟩ p x 0).tdiv den=rq ⟨w,den⟩ p x 0 / den:=zA q0.1;have d2:(rq ⟨w,den⟩ p x 0).tmod den=rq ⟨w,den⟩ p x 0 % den:=Sx q0.1;have d3:0≤rq ⟨w,den⟩ p x 0 / den:=EG q0.1 (by omega)
   have d4:rq ⟨w,den⟩ p x 0 / den≤rq ⟨w,den⟩ p x 0:=Im _ q0.1;have d5:0≤rq ⟨w,den⟩ p x 0 % den:=L8 _ HW;have d6:rq ⟨w,den⟩ p x 0 % den<den:=L7 _ (by omega)
   have hg:(eP (w.length+1) fun k=>if k<w.length then (if k=0 then rq ⟨w,den⟩ p x 1+rq ⟨w,den⟩ p x 0 % den else rq ⟨w,den⟩ p x (k+1)) else (if k=1 then rq ⟨w,den⟩ p x 1+rq ⟨w,den⟩ p x 0 % den else rq ⟨w,den⟩ p x k)) =
     eP (w.length+1) fun k=>if k<w.length then rN ⟨w,den⟩ p x k else (if k=1 then rq ⟨w,den⟩ p x 1+rq ⟨w,den⟩ p x 0 % den else rq ⟨w,den⟩ p x k):=Oe fun k hk=>by
    by_cases h6:k<w.length
    ·rw[aP h6,aP h6];rfl
    ·rw[aA h6,aA h6]
   simp (disch:=omega) [-getElem?_pos,wrap64,hf,oX,HW,d1,d2,aom,aon,hg];generalize hh:(fun k=>if k<w.length then rN ⟨w,den⟩ p x k else (if k=1 then rq ⟨w,den⟩ p x 1+rq ⟨w,den⟩ p x 0 % den else rq ⟨w,den⟩ p x k))=h
   have RB:∀k,k<w.length→h k=rN ⟨w,den⟩ p x k:=fun k hk=>by rw[←hh];exact aP hk
   refine go_loop (fun m:Nat=>ak8 m (rq ⟨w,den⟩ p x 0 / den) [.b9] (eP (w.length+1) h) G) (fun m=>m≤w.length∧mn (rN ⟨w,den⟩ p x) m=mn (rN ⟨w,den⟩ p x) w.length) (fun m=>m) w.length rfl (by simp) (by simp) ?_
   rintro m ⟨hm,ht⟩;cases m with
   |zero =>
    simp (disch:=omega) [-getElem?_pos,wrap64,KC,abx];rw[←hW,wv,kh,← ht];rfl
   |succ m =>
    by_cases h8:rN ⟨w,den⟩ p x m=0
    ·simp (disch:=omega) [-getElem?_pos,wrap64,KC,oX,RB m hm,h8]
     exact bV m (by simp) ⟨by omega,by rw[←ht,mn,aP h8]⟩ (by omega)
    ·simp (disch:=omega) [-getElem?_pos,wrap64,KC,oX,RB m hm,h8,abx]
     rw[←hW,wv,kh,← ht,mn,aA h8,ints,AV];have e:(List.range (m+1)).map (fun j=>[V.int .i64 (h j)])=(List.range (m+1)).map ((fun n=>[i64 n])∘rN ⟨w,den⟩ p x) :=
      EV fun j hj=>by rw[RB j (by have:=AX.1 hj;omega)];rfl
     rw[e];rfl)
theorem aop{n:Nat}{f g:Nat→Int}(h:∀k,k<n→f (k+1)=g k):(List.take (n+1) ((List.range (n+1)).map fun j=>[V.int .i64 (f j)])).tail=(List.range n).map fun k=>[V.int .i64 (g k)]:=by
 rw[kG (by simp)]
 apply xq;intro i;rw[SI];rcases cF i n with h1|h1
 ·simp[h1,h i h1]
 ·rw[kF (by simp;omega),kF (by simpa using h1)]
theorem aby{n i:Nat}(h:i<n):(List.range n)[i]?=some i:=by simp[h]
theorem aoq{n:Nat}{g:Nat→Int}:List.take n ((List.range (n+1)).map fun k=>[V.int .i64 (g k)])=(List.range n).map fun k=>[V.int .i64 (g k)]:=by
 rw[←IA,List.take_range,E2 (by omega)]
theorem aor(r:Rc)(hr:Rv r)(p:List Int)(hp:im r p)(x:Int)(G:List aT) :
  bd F 106 [rc r,wv p,i64 x] G=some (.tuple (if (0≤x∧x≤1073741824)∧uS r p x then [wv (kh r p x),i64 (lG r p x),i64 0] else [.agg [.slice (some 0) 1 []],i64 0,i64 1]),G) :=
 bX rfl rfl (by
  obtain⟨w,den⟩:=r;generalize hW:(V.tuple (if (0≤x∧x≤1073741824)∧uS ⟨w,den⟩ p x then [wv (kh ⟨w,den⟩ p x),i64 (lG ⟨w,den⟩ p x),i64 0] else [.agg [.slice (some 0) 1 []],i64 0,i64 1]))=W
  have hlen:=hr.len;have gR:=hr.pos;have lL:=hp.1;simp only at hlen gR lL;by_cases hx:0≤x∧x≤1073741824
  case neg =>
   have qS:(decide (0≤x)&&decide (x≤1073741824))=false:=by simp;omega
   simp (disch:=omega) [-getElem?_pos,wrap64,Pw,cV,qS];rw[←hW,aA (fun g=>hx g.1)]
  have qS:(decide (0≤x)&&decide (x≤1073741824))=true:=by simp;exact hx
  have Ry:p.length≤w.length+1:=by omega
  have Rz:∀k,k<w.length→0≤x*nth w k∧x*nth w k≤10737418240000:=fun k hk=>by
   have h2:=hr.w k hk;simp only at h2;have h3:0≤x*nth w k:=CF hx.1 h2.1;have h4:x*nth w k≤1073741824*10000:=EJ hx.2 h2.2 h2.1 (by omega)
   omega
  have RA:∀k,0≤nth p k∧nth p k≤2251799813685248:=fun k=>by
   rcases cF k p.length with h|h
   ·exact hp.2.2 k h
   ·rw[uT h];omega
  simp (disch:=omega) [-getElem?_pos,wrap64,Pw,cV,qS,Vs,abv,abw Ry];refine go_loop (fun i:Nat=>ai9 x (w.length+1) (ints w) w.length i (Rc.row ⟨w,den⟩) [.b9] (eP (w.length+1) fun k=>if k<i then rq ⟨w,den⟩ p x k else nth p k) G) (fun i=>i≤w.length∧∀k,k<i→rq ⟨w,den⟩ p x k≤1125899906842624) (fun i=>w.length-i) 0 rfl (by simp) (by simp) ?_
  rintro i ⟨hi,hj⟩;simp (disch:=omega) [-getElem?_pos,wrap64,XA];refine bS (fun h5=>?_) (fun h5=>?_)
  ·have h5:i<w.length:=by omega
   have hq:=yO hr hp hx i;have ha:=Rz i h5;have hb:=RA i;have hf:(fun j=>if j=i then nth p i+x*nth w i else if j<i then rq ⟨w,den⟩ p x j else nth p j)=fun j=>if j<i+1 then rq ⟨w,den⟩ p x j else nth p j:=by
    funext j;by_cases h6:j=i
    ·subst h6;simp[rq]
    ·by_cases h7:j<i
     ·rw[aA h6,aP h7,aP (by omega)]
     ·rw[aA h6,aA h7,aA (by omega)]
   simp (disch:=omega) [-getElem?_pos,wrap64,dV (l:=w),oX,hf];refine bS (fun h7=>?_) (fun h7=>?_)
   ·rw[←hW,aA (fun g=>absurd (g.2 i h5) (by omega))]
   ·refine bV (i+1) (by simp) ⟨by omega,fun k hk=>?_⟩ (by omega)
    rcases cF k i with h8|h8
    ·exact hj k h8
    ·rw[show k=i by omega];omega
  ·obtain rfl:i=w.length:=by omega
   rw[aP ⟨hx,show uS ⟨w,den⟩ p x from hj⟩]at hW;have hf:(eP (w.length+1) fun k=>if k<w.length then rq ⟨w,den⟩ p x k else nth p k)=eP (w.length+1) (rq ⟨w,den⟩ p x):=Oe fun k hk=>by
    by_cases h6:k<w.length
    ·rw[aP h6]
    ·rw[aA h6,show k=w.length by omega];simp[rq,uT (bR w.length)]
   have hd:=hr.den;simp only at hd;have HW:¬ den=0:=by omega
   have q0:=yO hr hp hx 0;have q1:=yO hr hp hx 1;have d1:(rq ⟨w,den⟩ p x 0).tdiv den=rq ⟨w,den⟩ p x 0 / den:=zA q0.1;have d2:(rq ⟨w,den⟩ p x 0).tmod den=rq ⟨w,den⟩ p x 0 % den:=Sx q0.1;have d3:0≤rq ⟨w,den⟩ p x 0 / den:=EG q0.1 (by omega)
   have d4:rq ⟨w,den⟩ p x 0 / den≤rq ⟨w,den⟩ p x 0:=Im _ q0.1;have d5:0≤rq ⟨w,den⟩ p x 0 % den:=L8 _ HW;have d6:rq ⟨w,den⟩ p x 0 % den<den:=L7 _ (by omega)
   have hg:∀k,k<w.length→(if k+1=1 then rq ⟨w,den⟩ p x 1+rq ⟨w,den⟩ p x 0 % den else rq ⟨w,den⟩ p x (k+1))=rN ⟨w,den⟩ p x k:=fun k hk=>by
    unfold rN;by_cases h7:k=0
    ·rw[aP h7,aP (by omega)]
    ·rw[aA h7,aA (by omega)]
   simp (disch:=omega) [-getElem?_pos,wrap64,hf,oX,HW,d1,d2];rw[aop (f:=fun j=>if j=1 then rq ⟨w,den⟩ p x 1+rq ⟨w,den⟩ p x 0 % den else rq ⟨w,den⟩ p x j) hg]
   refine go_loop (fun m:Nat=>⟨[(6,.bG 6 0),(9,.slice none 1 ((List.range m).map fun k=>[V.int .i64 (rN ⟨w,den⟩ p x k)])),(12,i64 (rq ⟨w,den⟩ p x 0 / den))],[(6,[.b9])],[],G⟩) (fun m=>m≤w.length∧mn (rN ⟨w,den⟩ p x) m=mn (rN ⟨w,den⟩ p x) w.length) (fun m=>m) w.length rfl (by simp) (by simp) ?_
   rintro m ⟨hm,ht⟩;cases m with
   |zero =>
    simp (disch:=omega) [-getElem?_pos,wrap64,Kp];rw[←hW,wv,kh,← ht];rfl
   |succ m =>
    by_cases h8:rN ⟨w,den⟩ p x m=0
    ·simp (disch:=omega) [-getElem?_pos,wrap64,Kp,aby,h8,aoq]
     exact bV m (by simp) ⟨by omega,by rw[←ht,mn,aP h8]⟩ (by omega)
    ·simp (disch:=omega) [-getElem?_pos,wrap64,Kp,aby,h8]
     rw[←hW,wv,kh,← ht,mn,aA h8,ints,AV];rfl)
noncomputable def gq(r:Rc)(p:List Int)(x:Int):Int:=if eT r≠0 then eT r else if im r p then (if (0≤x∧x≤1073741824)∧uS r p x then 0 else 1) else 3
abbrev rsX(t:Option Nat)(e:Int):V:=.tuple [.agg [.slice t 1 []],i64 0,i64 e]
noncomputable def Ek(t:Option Nat)(r:Rc)(p:List Int)(x:Int):V:=if gq r p x=0 then .tuple [wv (kh r p x),i64 (lG r p x),i64 0] else rsX t (gq r p x)
theorem Cj{t:Option Nat}{r:Rc}{p:List Int}{x e:Int}(h:gq r p x=e)(he:e≠0):Ek t r p x=rsX t e:=by
 unfold Ek;rw[h,aA he]
theorem HX{t:Option Nat}{r:Rc}{p:List Int}{x:Int}(h:gq r p x=0):Ek t r p x=.tuple [wv (kh r p x),i64 (lG r p x),i64 0]:=by
 unfold Ek;rw[aP h]
theorem aos(r:Rc)(hr:r.w.length≤17592186044416)(p:List Int)(hl:p.length≤17592186044416)(G:List aT):bd F 105 [rc r,wv p] G=some (i64 (if eT r≠0 then eT r else if im r p then 0 else 3),G) :=
 bX rfl rfl (by
  have hc:=xg r hr;have hv:=abu r hr p hl;generalize hW:(if eT r≠0 then eT r else if im r p then (0:Int) else 3)=W
  by_cases hz:eT r=0
  ·rw[aA (by omega)]at hW
   by_cases hf:im r p
   ·rw[aP hf]at hW
    simp[wrap64,Ko,hc,hv,hz,hf];exact hW
   ·rw[aA hf]at hW
    simp[wrap64,Ko,hc,hv,hz,hf];exact hW
  ·rw[aP hz]at hW
   simp[wrap64,Ko,hc,hv,hz];exact hW)
theorem aot(r:Rc)(hr:r.w.length≤17592186044416)(p:List Int)(hl:p.length≤17592186044416)(x:Int):∃t,∀(G:List aT),bd F 62 [rc r,wv p,i64 x] G=some (Ek t r p x,G):=by
 refine⟨if eT r=0∧im r p then none else some 0,fun G=>bX rfl rfl ?_⟩
 have hw:=aos r hr p hl;by_cases hz:eT r=0
 ·rw[aA (by omega)]at hw
  by_cases hf:im r p
  ·rw[aP hf]at hw
   rw[aP ⟨hz,hf⟩];have hs:=aor r (tF hz) p hf x;by_cases hp:(0≤x∧x≤1073741824)∧uS r p x
   ·rw[aP hp]at hs
    rw[HX (by unfold gq;rw[aA (by omega),aP hf,aP hp])]
    simp[wrap64,GS,hw,hs]
   ·rw[aA hp]at hs
    rw[Cj (e:=1) (by unfold gq;rw[aA (by omega),aP hf,aA hp]) (by decide)]
    simp[wrap64,GS,hw,hs]
  ·rw[aA hf]at hw
   rw[aA (fun g=>hf g.2),Cj (e:=3) (by unfold gq;rw[aA (by omega),aA hf]) (by decide)]
   simp[wrap64,GS,hw]
 ·rw[aP hz]at hw
  rw[aA (fun g=>hz g.1),Cj (e:=eT r) (by unfold gq;rw[aP hz]) hz]
  simp[wrap64,GS,hw,hz]
theorem aou(r:Rc)(hr:r.w.length≤17592186044416)(p:List Int)(hl:p.length≤17592186044416)(x:Int)(G:List aT) :
  bd F 219 [rc r,wv p,.slice none 1 [[i64 x]]] G=some (.tuple (if gq r p x=0 then [wv (kh r p x),.slice (some 0) 1 [[i64 (lG r p x)]],i64 0] else [.agg [.slice (some 0) 1 []],.slice (some 0) 1 [],i64 (gq r p x)]),G) :=
 bX rfl rfl (by
  have hc:=xf r hr;have wm:=abt r p hl;generalize hW:(V.tuple (if gq r p x=0 then [wv (kh r p x),.slice (some 0) 1 [[i64 (lG r p x)]],i64 0] else [.agg [.slice (some 0) 1 []],.slice (some 0) 1 [],i64 (gq r p x)]))=W
  by_cases hz:eT r=0
  ·by_cases hf:im r p
   ·have hs:=aoo r (tF hz) p hf x
    have lL:p.length≤24:=by have:=hf.1;have:=(tF hz).len;omega
    by_cases hx:0≤x∧x≤1073741824
    ·have qS:(decide (0≤x)&&decide (x≤1073741824))=true:=by simp;exact hx
     replace hs:=fun G=>hs hx G;by_cases hp:uS r p x
     ·rw[aP (show gq r p x=0 by unfold gq;rw[aA (by omega),aP hf,aP ⟨hx,hp⟩])]at hW
      rw[aP hp]at hs;simp (disch:=omega) [wrap64,DY,KB,KA,hc,wm,hz,hf,dD,qS,hs,yu];exact hW
     ·rw[show gq r p x=1 by unfold gq;rw[aA (by omega),aP hf,aA (fun g=>hp g.2)],aA (by decide)]at hW
      rw[aA hp]at hs;simp (disch:=omega) [wrap64,DY,KB,KA,hc,wm,hz,hf,dD,qS,hs,yu];exact hW
    ·have qS:(decide (0≤x)&&decide (x≤1073741824))=false:=by simp;omega
     simp (disch:=omega) [wrap64,DY,KB,KA,hc,wm,hz,hf,dD,qS,yu];rw[show gq r p x=1 by unfold gq;rw[aA (by omega),aP hf,aA (fun g=>hx g.1)],aA (by decide)]at hW
     exact hW
   ·rw[show gq r p x=3 by unfold gq;rw[aA (by omega),aA hf],aA (by decide)]at hW
    simp (disch:=omega) [wrap64,DY,hc,wm,hz,hf];exact hW
  ·rw[show gq r p x=eT r by unfold gq;rw[aP hz],aA hz]at hW
   simp (disch:=omega) [wrap64,DY,hc,wm,hz];exact hW)
theorem abA(r:Rc)(hr:r.w.length≤17592186044416)(p:List Int)(hl:p.length≤17592186044416)(x:Int)(G:List aT):bd F 206 [rc r,wv p,i64 x] G=some (Ek (some 0) r p x,G) :=
 bX rfl rfl (by
  have hs:=aou r hr p hl x;by_cases he:gq r p x=0
  ·rw[aP he]at hs
   rw[HX he];simp[wrap64,PY,hs]
  ·rw[aA he]at hs
   rw[Cj rfl he];simp[wrap64,PY,hs,he])
structure Lk where
 f:Int
 t:Int
 r:Rc
 deriving Inhabited
abbrev Lk.row(l:Lk):List V:=[i64 l.f,i64 l.t,ints l.r.w,i64 l.r.den]
structure Rr where
 n:Int
 l:List Lk
abbrev nk(l:List Lk):V:=.slice none 4 (l.map Lk.row)
abbrev Rr.row(r:Rr):List V:=[i64 r.n,nk r.l]
abbrev rr(r:Rr):V:=.agg r.row
noncomputable def lE(r:Rr)(i:Nat):Int :=
 let l:=nth r.l i
 if (0≤l.f∧l.f≤r.n-1)∧(0≤l.t∧l.t≤r.n-1) then (if l.t≤l.f then 12 else if 0<i∧l.f≤(nth r.l (i-1)).f then 4 else eT l.r) else 11
noncomputable def jx(r:Rr):Int:=if r.n<1∨40<r.n then 3 else dI (lE r) r.l.length 0
def nm(r:Rr):Prop:=r.l.length≤17592186044416∧∀i,i<r.l.length→(nth r.l i).r.w.length≤17592186044416
theorem qy{n:Int}{l:List Lk}(h:1≤n)(h2:n≤40)(x:Int)(G:List aT):bd F 150 [.agg [i64 n,nk l],i64 x] G=some (.bool (decide (0≤x)&&decide (x≤n-1)),G) :=
 bX rfl rfl (by simp (disch:=omega) [wrap64,Yn,dD])
theorem RD(r:Rr)(hr:nm r)(G:List aT):bd F 111 [rr r] G=some (i64 (jx r),G) :=
 bX rfl rfl (by
  obtain⟨n,l⟩:=r;generalize hW:jx ⟨n,l⟩=W;unfold jx at hW;simp only at hW;obtain⟨hl,hw⟩:=hr;simp only at hl hw;by_cases h1:n<1
  ·rw[aP (.inl h1)]at hW
   simp (disch:=omega) [-getElem?_pos,wrap64,Kq,h1];exact hW
  by_cases h2:40<n
  ·rw[aP (.inr h2)]at hW
   simp (disch:=omega) [-getElem?_pos,wrap64,Kq,h1,h2];exact hW
  rw[aA (by omega)]at hW
  have h1n:1≤n:=by omega
  have h2n:n≤40:=by omega
  simp (disch:=omega) [-getElem?_pos,wrap64,Kq,h1,h2];refine go_loop (fun i:Nat=>ajl (nk l) l.length i (Rr.row ⟨n,l⟩) G) (fun i=>i≤l.length∧dI (lE ⟨n,l⟩) (l.length-i) i=W) (fun i=>l.length-i) 0 rfl (by simp) ⟨by omega,hW⟩ ?_
  rintro i ⟨hi,hq⟩;simp (disch:=omega) [-getElem?_pos,wrap64,XG];refine bS (fun h5=>?_) (fun h5=>?_)
  ·have h5:i<l.length:=by omega
   rw[ly h5]at hq;have hE:lE ⟨n,l⟩ i=if (0≤(nth l i).f∧(nth l i).f≤n-1)∧(0≤(nth l i).t∧(nth l i).t≤n-1) then (if (nth l i).t≤(nth l i).f then 12 else if 0<i∧(nth l i).f≤(nth l (i-1)).f then 4 else eT (nth l i).r) else 11:=rfl
   by_cases a1:0≤(nth l i).f∧(nth l i).f≤n-1
   case neg =>
    have lH:(decide (0≤(nth l i).f)&&decide ((nth l i).f≤n-1))=false:=by simp;omega
    rw[aA (fun g=>a1 g.1)]at hE;rw[hE,aA (by decide)]at hq
    simp (disch:=omega) [-getElem?_pos,wrap64,bg (l:=l),qy,cV,lH];exact hq
   have lH:(decide (0≤(nth l i).f)&&decide ((nth l i).f≤n-1))=true:=by simp;exact a1
   by_cases a2:0≤(nth l i).t∧(nth l i).t≤n-1
   case neg =>
    have pX:(decide (0≤(nth l i).t)&&decide ((nth l i).t≤n-1))=false:=by simp;omega
    rw[aA (fun g=>a2 g.2)]at hE;rw[hE,aA (by decide)]at hq
    simp (disch:=omega) [-getElem?_pos,wrap64,bg (l:=l),qy,cV,lH,pX];exact hq
   have pX:(decide (0≤(nth l i).t)&&decide ((nth l i).t≤n-1))=true:=by simp;exact a2
   rw[aP ⟨a1,a2⟩]at hE;by_cases a3:(nth l i).t≤(nth l i).f
   ·rw[aP a3]at hE
    rw[hE,aA (by decide)]at hq
    simp (disch:=omega) [-getElem?_pos,wrap64,bg (l:=l),qy,cV,lH,pX,a3];exact hq
   rw[aA a3]at hE;by_cases a4:0<i∧(nth l i).f≤(nth l (i-1)).f
   ·rw[aP a4]at hE
    rw[hE,aA (by decide)]at hq
    simp (disch:=omega) [-getElem?_pos,wrap64,bg (l:=l),qy,cV,lH,pX,a3,a4.1,a4.2];exact hq
   rw[aA a4]at hE;have done:eT (nth l i).r=0→dI (lE ⟨n,l⟩) (l.length-(i+1)) (i+1)=W:=fun h=>by rwa [hE,h,aP rfl]at hq
   have stop:eT (nth l i).r≠0→eT (nth l i).r=W:=fun h=>by rwa [hE,aA h]at hq
   rcases (by omega:¬ 0<i∨(0<i∧¬ (nth l i).f≤(nth l (i-1)).f)) with a5 | ⟨a5,a6⟩
   ·by_cases hz:eT (nth l i).r=0
    ·simp (disch:=omega) [-getElem?_pos,wrap64,bg (l:=l),qy,cV,lH,pX,a3,a5,xf (nth l i).r (hw i h5),xg (nth l i).r (hw i h5),hz]
     exact bV (i+1) (by simp) ⟨by omega,done hz⟩ (by omega)
    ·simp (disch:=omega) [-getElem?_pos,wrap64,bg (l:=l),qy,cV,lH,pX,a3,a5,xf (nth l i).r (hw i h5),xg (nth l i).r (hw i h5),hz]
     exact stop hz
   ·by_cases hz:eT (nth l i).r=0
    ·simp (disch:=omega) [-getElem?_pos,wrap64,bg (l:=l),qy,cV,lH,pX,a3,a5,a6,xf (nth l i).r (hw i h5),xg (nth l i).r (hw i h5),hz]
     exact bV (i+1) (by simp) ⟨by omega,done hz⟩ (by omega)
    ·simp (disch:=omega) [-getElem?_pos,wrap64,bg (l:=l),qy,cV,lH,pX,a3,a5,a6,xf (nth l i).r (hw i h5),xg (nth l i).r (hw i h5),hz]
     exact stop hz
  ·obtain rfl:i=l.length:=by omega
   rw[nc]at hq;exact hq)
theorem RE(r:Rr)(hr:nm r)(G:List aT):bd F 98 [rr r] G=some (i64 (jx r),G) :=
 bX rfl rfl (by
  obtain⟨n,l⟩:=r;generalize hW:jx ⟨n,l⟩=W;unfold jx at hW;simp only at hW;obtain⟨hl,hw⟩:=hr;simp only at hl hw;by_cases h1:n<1
  ·rw[aP (.inl h1)]at hW
   simp (disch:=omega) [-getElem?_pos,wrap64,Kj,h1];exact hW
  by_cases h2:40<n
  ·rw[aP (.inr h2)]at hW
   simp (disch:=omega) [-getElem?_pos,wrap64,Kj,h1,h2];exact hW
  rw[aA (by omega)]at hW
  have h1n:1≤n:=by omega
  have h2n:n≤40:=by omega
  simp (disch:=omega) [-getElem?_pos,wrap64,Kj,h1,h2];refine go_loop (fun i:Nat=>aiR (nk l) l.length i (Rr.row ⟨n,l⟩) G) (fun i=>i≤l.length∧dI (lE ⟨n,l⟩) (l.length-i) i=W) (fun i=>l.length-i) 0 rfl (by simp) ⟨by omega,hW⟩ ?_
  rintro i ⟨hi,hq⟩;simp (disch:=omega) [-getElem?_pos,wrap64,Xq];refine bS (fun h5=>?_) (fun h5=>?_)
  ·have h5:i<l.length:=by omega
   rw[ly h5]at hq;have hE:lE ⟨n,l⟩ i=if (0≤(nth l i).f∧(nth l i).f≤n-1)∧(0≤(nth l i).t∧(nth l i).t≤n-1) then (if (nth l i).t≤(nth l i).f then 12 else if 0<i∧(nth l i).f≤(nth l (i-1)).f then 4 else eT (nth l i).r) else 11:=rfl
   by_cases a1:0≤(nth l i).f∧(nth l i).f≤n-1
   case neg =>
    have lH:(decide (0≤(nth l i).f)&&decide ((nth l i).f≤n-1))=false:=by simp;omega
    rw[aA (fun g=>a1 g.1)]at hE;rw[hE,aA (by decide)]at hq
    simp (disch:=omega) [-getElem?_pos,wrap64,bg (l:=l),qy,cV,lH];exact hq
   have lH:(decide (0≤(nth l i).f)&&decide ((nth l i).f≤n-1))=true:=by simp;exact a1
   by_cases a2:0≤(nth l i).t∧(nth l i).t≤n-1
   case neg =>
    have pX:(decide (0≤(nth l i).t)&&decide ((nth l i).t≤n-1))=false:=by simp;omega
    rw[aA (fun g=>a2 g.2)]at hE;rw[hE,aA (by decide)]at hq
    simp (disch:=omega) [-getElem?_pos,wrap64,bg (l:=l),qy,cV,lH,pX];exact hq
   have pX:(decide (0≤(nth l i).t)&&decide ((nth l i).t≤n-1))=true:=by simp;exact a2
   rw[aP ⟨a1,a2⟩]at hE;by_cases a3:(nth l i).t≤(nth l i).f
   ·rw[aP a3]at hE
    rw[hE,aA (by decide)]at hq
    simp (disch:=omega) [-getElem?_pos,wrap64,bg (l:=l),qy,cV,lH,pX,a3];exact hq
   rw[aA a3]at hE;by_cases a4:0<i∧(nth l i).f≤(nth l (i-1)).f
   ·rw[aP a4]at hE
    rw[hE,aA (by decide)]at hq
    simp (disch:=omega) [-getElem?_pos,wrap64,bg (l:=l),qy,cV,lH,pX,a3,a4.1,a4.2];exact hq
   rw[aA a4]at hE;have done:eT (nth l i).r=0→dI (lE ⟨n,l⟩) (l.length-(i+1)) (i+1)=W:=fun h=>by rwa [hE,h,aP rfl]at hq
   have stop:eT (nth l i).r≠0→eT (nth l i).r=W:=fun h=>by rwa [hE,aA h]at hq
   rcases (by omega:¬ 0<i∨(0<i∧¬ (nth l i).f≤(nth l (i-1)).f)) with a5 | ⟨a5,a6⟩
   ·by_cases hz:eT (nth l i).r=0
    ·simp (disch:=omega) [-getElem?_pos,wrap64,bg (l:=l),qy,cV,lH,pX,a3,a5,xf (nth l i).r (hw i h5),xg (nth l i).r (hw i h5),hz]
     exact bV (i+1) (by simp) ⟨by omega,done hz⟩ (by omega)
    ·simp (disch:=omega) [-getElem?_pos,wrap64,bg (l:=l),qy,cV,lH,pX,a3,a5,xf (nth l i).r (hw i h5),xg (nth l i).r (hw i h5),hz]
     exact stop hz
   ·by_cases hz:eT (nth l i).r=0
    ·simp (disch:=omega) [-getElem?_pos,wrap64,bg (l:=l),qy,cV,lH,pX,a3,a5,a6,xf (nth l i).r (hw i h5),xg (nth l i).r (hw i h5),hz]
     exact bV (i+1) (by simp) ⟨by omega,done hz⟩ (by omega)
    ·simp (disch:=omega) [-getElem?_pos,wrap64,bg (l:=l),qy,cV,lH,pX,a3,a5,a6,xf (nth l i).r (hw i h5),xg (nth l i).r (hw i h5),hz]
     exact stop hz
  ·obtain rfl:i=l.length:=by omega
   rw[nc]at hq;exact hq)
instance:Inhabited Dm:=⟨⟨⟨[],0,0,0,0,0⟩,[],[],0⟩⟩
structure Si where
 n:Int
 d:Dm
 deriving Inhabited
abbrev Si.row(x:Si):List V:=i64 x.n::x.d.row
abbrev sQ(l:List Si):V:=.slice none 10 (l.map Si.row)
structure Cs where
 r:Rr
 s:List Si
abbrev Cs.row(c:Cs):List V:=[i64 c.r.n,nk c.r.l,sQ c.s]
abbrev cs(c:Cs):V:=.agg c.row
def yP(c:Cs)(i:Nat):Int :=
 let x:=nth c.s i
 if 0≤x.n∧x.n<c.r.n then (if 0<i∧x.n≤(nth c.s (i-1)).n then 4 else fw x.d) else 41
noncomputable def eU(c:Cs):Int:=if jx c.r≠0 then jx c.r else if 12<c.r.n then 41 else if 6<c.s.length then 10 else dI (yP c) c.s.length 0
structure Fl where
 t:Int
 d:List Ds
 w:List (List Int)
abbrev wo(l:List Ds):V:=.slice none 4 (l.map Ds.row)
abbrev pf(l:List (List Int)):V:=.slice none 1 (l.map fun p=>[ints p])
abbrev Fl.row(f:Fl):List V:=[i64 f.t,wo f.d,pf f.w]
abbrev fl(f:Fl):V:=.agg f.row
def rA(f:Fl):Prop:=∀i,(nth f.w i).length≤17592186044416
def nP(c:Cs)(l:List Ds):Prop:=l.length=c.s.length∧∀i,i<c.s.length→fw (nth c.s i).d=0∧g8 (nth c.s i).d (nth l i)
noncomputable instance {c:Cs} {l:List Ds}:Decidable (nP c l):=Classical.propDecidable _
def Ck(c:Cs)(l:List (List Int)):Prop:=l.length=c.r.l.length∧∀i,i<c.r.l.length→eT (nth c.r.l i).r=0∧im (nth c.r.l i).r (nth l i)
noncomputable instance {c:Cs} {l:List (List Int)}:Decidable (Ck c l):=Classical.propDecidable _
def fC(c:Cs)(f:Fl):Prop:=(0≤f.t∧f.t≤16777216)∧nP c f.d∧Ck c f.w
noncomputable instance {c:Cs} {f:Fl}:Decidable (fC c f):=Classical.propDecidable _
theorem RF(c:Cs)(hr:nm c.r)(G:List aT):bd F 67 [cs c] G=some (i64 (eU c),G) :=
 bX rfl rfl (by
  obtain⟨⟨n,l⟩,s⟩:=c;generalize hW:eU ⟨⟨n,l⟩,s⟩=W;unfold eU at hW;simp only at hW hr;have hk:=RD ⟨n,l⟩ hr;have jh:=RE ⟨n,l⟩ hr;by_cases h1:jx ⟨n,l⟩=0
  case neg =>
   rw[aP h1]at hW;simp (disch:=omega) [-getElem?_pos,wrap64,GU,hk,jh,h1];exact hW
  rw[aA (by omega)]at hW
  by_cases h2:12<n
  ·rw[aP h2]at hW
   simp (disch:=omega) [-getElem?_pos,wrap64,GU,hk,jh,h1,h2];exact hW
  rw[aA h2]at hW;by_cases h3:6<s.length
  ·rw[aP h3]at hW
   have iK:(6:Int)<s.length:=by omega
   simp (disch:=omega) [-getElem?_pos,wrap64,GU,hk,jh,h1,h2,iK];exact hW
  rw[aA h3]at hW;have iK:¬ (6:Int)<s.length:=by omega
  simp (disch:=omega) [-getElem?_pos,wrap64,GU,hk,jh,h1,h2,iK];refine go_loop (fun i:Nat=>aij (sQ s) s.length i (Cs.row ⟨⟨n,l⟩,s⟩) G) (fun i=>i≤s.length∧dI (yP ⟨⟨n,l⟩,s⟩) (s.length-i) i=W) (fun i=>s.length-i) 0 rfl (by simp) ⟨by omega,hW⟩ ?_
  rintro i ⟨hi,hq⟩;simp (disch:=omega) [-getElem?_pos,wrap64,W8];refine bS (fun h5=>?_) (fun h5=>?_)
  ·have h5:i<s.length:=by omega
   rw[ly h5]at hq;have hE:yP ⟨⟨n,l⟩,s⟩ i=if 0≤(nth s i).n∧(nth s i).n<n then (if 0<i∧(nth s i).n≤(nth s (i-1)).n then 4 else fw (nth s i).d) else 41:=rfl
   by_cases a1:(nth s i).n<0
   ·rw[aA (by omega)]at hE
    rw[hE,aA (by decide)]at hq
    simp (disch:=omega) [-getElem?_pos,wrap64,bg (l:=s),a1];exact hq
   by_cases a2:n≤(nth s i).n
   ·rw[aA (by omega)]at hE
    rw[hE,aA (by decide)]at hq
    simp (disch:=omega) [-getElem?_pos,wrap64,bg (l:=s),a1,a2];exact hq
   rw[aP (by omega)]at hE
   by_cases a4:0<i∧(nth s i).n≤(nth s (i-1)).n
   ·rw[aP a4]at hE
    rw[hE,aA (by decide)]at hq
    simp (disch:=omega) [-getElem?_pos,wrap64,bg (l:=s),a1,a2,a4.1,a4.2];exact hq
   rw[aA a4]at hE;have done:fw (nth s i).d=0→dI (yP ⟨⟨n,l⟩,s⟩) (s.length-(i+1)) (i+1)=W:=fun h=>by rwa [hE,h,aP rfl]at hq
   have stop:fw (nth s i).d≠0→fw (nth s i).d=W:=fun h=>by rwa [hE,aA h]at hq
   have hd:=Cd (nth s i).d;have vF:=Ce (nth s i).d;rcases (by omega:¬ 0<i∨(0<i∧¬ (nth s i).n≤(nth s (i-1)).n)) with a5 | ⟨a5,a6⟩
   ·by_cases hz:fw (nth s i).d=0
    ·simp (disch:=omega) [-getElem?_pos,wrap64,bg (l:=s),a1,a2,a5,hd,vF,hz]
     exact bV (i+1) (by simp) ⟨by omega,done hz⟩ (by omega)
    ·simp (disch:=omega) [-getElem?_pos,wrap64,bg (l:=s),a1,a2,a5,hd,vF,hz]
     exact stop hz
   ·by_cases hz:fw (nth s i).d=0
    ·simp (disch:=omega) [-getElem?_pos,wrap64,bg (l:=s),a1,a2,a5,a6,hd,vF,hz]
     exact bV (i+1) (by simp) ⟨by omega,done hz⟩ (by omega)
    ·simp (disch:=omega) [-getElem?_pos,wrap64,bg (l:=s),a1,a2,a5,a6,hd,vF,hz]
     exact stop hz
  ·obtain rfl:i=s.length:=by omega
   rw[nc]at hq;exact hq)
theorem RG(c:Cs)(hr:nm c.r)(G:List aT):bd F 56 [cs c] G=some (i64 (eU c),G) :=
 bX rfl rfl (by
  obtain⟨⟨n,l⟩,s⟩:=c;generalize hW:eU ⟨⟨n,l⟩,s⟩=W;unfold eU at hW;simp only at hW hr;have hk:=RD ⟨n,l⟩ hr;have jh:=RE ⟨n,l⟩ hr;by_cases h1:jx ⟨n,l⟩=0
  case neg =>
   rw[aP h1]at hW;simp (disch:=omega) [-getElem?_pos,wrap64,GQ,hk,jh,h1];exact hW
  rw[aA (by omega)]at hW
  by_cases h2:12<n
  ·rw[aP h2]at hW
   simp (disch:=omega) [-getElem?_pos,wrap64,GQ,hk,jh,h1,h2];exact hW
  rw[aA h2]at hW;by_cases h3:6<s.length
  ·rw[aP h3]at hW
   have iK:(6:Int)<s.length:=by omega
   simp (disch:=omega) [-getElem?_pos,wrap64,GQ,hk,jh,h1,h2,iK];exact hW
  rw[aA h3]at hW;have iK:¬ (6:Int)<s.length:=by omega
  simp (disch:=omega) [-getElem?_pos,wrap64,GQ,hk,jh,h1,h2,iK];refine go_loop (fun i:Nat=>ah6 (sQ s) s.length i (Cs.row ⟨⟨n,l⟩,s⟩) G) (fun i=>i≤s.length∧dI (yP ⟨⟨n,l⟩,s⟩) (s.length-i) i=W) (fun i=>s.length-i) 0 rfl (by simp) ⟨by omega,hW⟩ ?_
  rintro i ⟨hi,hq⟩;simp (disch:=omega) [-getElem?_pos,wrap64,WX];refine bS (fun h5=>?_) (fun h5=>?_)
  ·have h5:i<s.length:=by omega
   rw[ly h5]at hq;have hE:yP ⟨⟨n,l⟩,s⟩ i=if 0≤(nth s i).n∧(nth s i).n<n then (if 0<i∧(nth s i).n≤(nth s (i-1)).n then 4 else fw (nth s i).d) else 41:=rfl
   by_cases a1:(nth s i).n<0
   ·rw[aA (by omega)]at hE
    rw[hE,aA (by decide)]at hq
    simp (disch:=omega) [-getElem?_pos,wrap64,bg (l:=s),a1];exact hq
   by_cases a2:n≤(nth s i).n
   ·rw[aA (by omega)]at hE
    rw[hE,aA (by decide)]at hq
    simp (disch:=omega) [-getElem?_pos,wrap64,bg (l:=s),a1,a2];exact hq
   rw[aP (by omega)]at hE
   by_cases a4:0<i∧(nth s i).n≤(nth s (i-1)).n
   ·rw[aP a4]at hE
    rw[hE,aA (by decide)]at hq
    simp (disch:=omega) [-getElem?_pos,wrap64,bg (l:=s),a1,a2,a4.1,a4.2];exact hq
   rw[aA a4]at hE;have done:fw (nth s i).d=0→dI (yP ⟨⟨n,l⟩,s⟩) (s.length-(i+1)) (i+1)=W:=fun h=>by rwa [hE,h,aP rfl]at hq
   have stop:fw (nth s i).d≠0→fw (nth s i).d=W:=fun h=>by rwa [hE,aA h]at hq
   have hd:=Cd (nth s i).d;have vF:=Ce (nth s i).d;rcases (by omega:¬ 0<i∨(0<i∧¬ (nth s i).n≤(nth s (i-1)).n)) with a5 | ⟨a5,a6⟩
   ·by_cases hz:fw (nth s i).d=0
    ·simp (disch:=omega) [-getElem?_pos,wrap64,bg (l:=s),a1,a2,a5,hd,vF,hz]
     exact bV (i+1) (by simp) ⟨by omega,done hz⟩ (by omega)
    ·simp (disch:=omega) [-getElem?_pos,wrap64,bg (l:=s),a1,a2,a5,hd,vF,hz]
     exact stop hz
   ·by_cases hz:fw (nth s i).d=0
    ·simp (disch:=omega) [-getElem?_pos,wrap64,bg (l:=s),a1,a2,a5,a6,hd,vF,hz]
     exact bV (i+1) (by simp) ⟨by omega,done hz⟩ (by omega)
    ·simp (disch:=omega) [-getElem?_pos,wrap64,bg (l:=s),a1,a2,a5,a6,hd,vF,hz]
     exact stop hz
  ·obtain rfl:i=s.length:=by omega
   rw[nc]at hq;exact hq)
structure xh(c:Cs):Prop where
 k:jx c.r=0
 n:c.r.n≤12
 s:c.s.length≤6
 site:∀i,i<c.s.length→yP c i=0
theorem nQ{c:Cs}(h:eU c=0):xh c:=by
 unfold eU at h;split at h
 ·rename_i h1;exact absurd h h1
 split at h
 ·cases h
 split at h
 ·cases h
 rename_i h1 h2 h3;exact⟨gW h1,by omega,by omega,fun i hi=>sy h i (by omega) (by omega)⟩
theorem aox(c:Cs)(hs:c.s.length≤1000)(l:List Ds)(G:List aT):bd F 167 [cs c,wo l] G=some (.bool (decide (nP c l)),G) :=
 bX rfl rfl (by
  obtain⟨r,s⟩:=c;simp only at hs;generalize hW:decide (nP ⟨r,s⟩ l)=W;have no:¬ nP ⟨r,s⟩ l→W=false:=fun h=>by rw[←hW];simp[h]
  have yes:nP ⟨r,s⟩ l→W=true:=fun h=>by rw[←hW];simp[h]
  unfold nP at no yes;simp only at no yes;by_cases h1:l.length=s.length
  case neg =>
   have gN:¬ (l.length:Int)=s.length:=by omega
   simp (disch:=omega) [-getElem?_pos,wrap64,PQ,gN];exact no (fun g=>h1 g.1)
  have gN:(l.length:Int)=s.length:=by omega
  simp (disch:=omega) [-getElem?_pos,wrap64,PQ,gN];refine go_loop (fun i:Nat=>akw (wo l) (sQ s) s.length i G) (fun i=>i≤s.length∧∀j,j<i→fw (nth s j).d=0∧g8 (nth s j).d (nth l j)) (fun i=>s.length-i) 0 rfl (by simp) (by simp) ?_
  rintro i ⟨hi,hj⟩;simp (disch:=omega) [-getElem?_pos,wrap64,YC];refine bS (fun h5=>?_) (fun h5=>?_)
  ·have h5:i<s.length:=by omega
   have h6:i<l.length:=by omega
   by_cases h7:fw (nth s i).d=0∧g8 (nth s i).d (nth l i)
   ·simp (disch:=omega) [-getElem?_pos,wrap64,bg (l:=s),bg (l:=l),aa6,h7.1,h7.2]
    refine bV (i+1) (by simp) ⟨by omega,fun j h8=>?_⟩ (by omega)
    rcases cF j i with h9|h9
    ·exact hj j h9
    ·rwa [show j=i by omega]
   ·have h7':decide (fw (nth s i).d=0∧g8 (nth s i).d (nth l i))=false:=by simp only[h7,decide_false]
    have hv:=aa6 (nth s i).d (nth l i);rw[h7']at hv;simp (disch:=omega) [-getElem?_pos,wrap64,bg (l:=s),bg (l:=l),hv];exact no (fun g=>h7 (g.2 i h5))
  ·obtain rfl:i=s.length:=by omega
   exact yes ⟨h1,hj⟩)
theorem abB(c:Cs)(hs:c.s.length≤1000)(hr:nm c.r)(f:Fl)(hf:rA f)(G:List aT):bd F 127 [cs c,fl f] G=some (.bool (decide (fC c f)),G) :=
 bX rfl rfl (by
  have hZ:=aox c hs f.d;obtain⟨⟨n,l⟩,s⟩:=c;obtain⟨t,d,w⟩:=f;generalize hW:decide (fC ⟨⟨n,l⟩,s⟩ ⟨t,d,w⟩)=W;have no:¬ fC ⟨⟨n,l⟩,s⟩ ⟨t,d,w⟩→W=false:=fun h=>by rw[←hW];simp[h]
  have yes:fC ⟨⟨n,l⟩,s⟩ ⟨t,d,w⟩→W=true:=fun h=>by rw[←hW];simp[h]
  unfold fC Ck at no yes;simp only at no yes hZ;unfold rA at hf;obtain⟨qc,od⟩:=hr;simp only at hf qc od;by_cases a1:t<0
  ·simp (disch:=omega) [-getElem?_pos,wrap64,DV,a1]
   exact no (by omega)
  by_cases a2:16777216<t
  ·simp (disch:=omega) [-getElem?_pos,wrap64,DV,a1,a2]
   exact no (by omega)
  by_cases a3:nP ⟨⟨n,l⟩,s⟩ d
  case neg =>
   simp (disch:=omega) [-getElem?_pos,wrap64,DV,a1,a2,hZ,a3];exact no (fun g=>a3 g.2.1)
  by_cases a4:w.length=l.length
  case neg =>
   have Cl:¬ (w.length:Int)=l.length:=by omega
   simp (disch:=omega) [-getElem?_pos,wrap64,DV,a1,a2,hZ,a3,Cl];exact no (fun g=>a4 g.2.2.1)
  have Cl:(w.length:Int)=l.length:=by omega
  simp (disch:=omega) [-getElem?_pos,wrap64,DV,a1,a2,hZ,a3,Cl];refine go_loop (fun i:Nat=>ajC (nk l) l.length i (Fl.row ⟨t,d,w⟩) G) (fun i=>i≤l.length∧∀j,j<i→eT (nth l j).r=0∧im (nth l j).r (nth w j)) (fun i=>l.length-i) 0 rfl (by simp) (by simp) ?_
  rintro i ⟨hi,hj⟩;simp (disch:=omega) [-getElem?_pos,wrap64,XT];refine bS (fun h5=>?_) (fun h5=>?_)
  ·have h5:i<l.length:=by omega
   have h6:i<w.length:=by omega
   have hv:=aol (nth l i).r (od i h5) (nth w i) (hf i);by_cases h7:eT (nth l i).r=0∧im (nth l i).r (nth w i)
   ·rw[fL h7]at hv
    simp (disch:=omega) [-getElem?_pos,wrap64,bg (l:=l),bg (l:=w),hv];refine bV (i+1) (by simp) ⟨by omega,fun j h8=>?_⟩ (by omega)
    rcases cF j i with h9|h9
    ·exact hj j h9
    ·rwa [show j=i by omega]
   ·rw[decide_eq_false h7]at hv
    simp (disch:=omega) [-getElem?_pos,wrap64,bg (l:=l),bg (l:=w),hv];exact no (fun g=>h7 (g.2.2.2 i h5))
  ·obtain rfl:i=l.length:=by omega
   exact yes ⟨by omega,a3,a4,hj⟩)
theorem aoz(c:Cs)(hr:nm c.r)(f:Fl)(hf:rA f)(G:List aT):bd F 84 [cs c,fl f] G=some (.bool (decide (eU c=0∧fC c f)),G) :=
 bX rfl rfl (by
  have h1:=RF c hr;by_cases hz:eU c=0
  ·have h2:=abB c (by have:=(nQ hz).s;omega) hr f hf
   simp[wrap64,Pj,h1,h2,hz]
  ·simp[wrap64,Pj,h1,hz])
noncomputable def ki(c:Cs)(f:Fl):Int:=if eU c≠0 then eU c else if fC c f then 0 else 50
theorem abC(c:Cs)(hr:nm c.r)(f:Fl)(hf:rA f)(G:List aT):bd F 129 [cs c,fl f] G=some (i64 (ki c f),G) :=
 bX rfl rfl (by
  have h1:=RF c hr;unfold ki;by_cases hz:eU c=0
  ·have h2:=abB c (by have:=(nQ hz).s;omega) hr f hf
   by_cases hf:fC c f
   ·simp[wrap64,Kr,h1,h2,hz,hf]
   ·simp[wrap64,Kr,h1,h2,hz,hf]
  ·simp[wrap64,Kr,h1,hz])
theorem El(x m:Int)(G:List aT):bd F 99 [i64 x,i64 m] G=some (.bool (decide (0≤x)&&decide (x≤m)),G) :=
 bX rfl rfl (by simp +contextual [wrap64,Xr])
theorem abD(c:Cs)(hr:nm c.r)(f:Fl)(hf:rA f)(G:List aT):bd F 57 [cs c,fl f] G=some (.bool (decide (eU c=0∧fC c f)),G) :=
 bX rfl rfl (by
  have hc:=RG c hr;obtain⟨⟨n,l⟩,s⟩:=c;obtain⟨t,d,w⟩:=f;generalize hW:decide (eU ⟨⟨n,l⟩,s⟩=0∧fC ⟨⟨n,l⟩,s⟩ ⟨t,d,w⟩)=W;have no:¬ (eU ⟨⟨n,l⟩,s⟩=0∧fC ⟨⟨n,l⟩,s⟩ ⟨t,d,w⟩)→W=false:=fun h=>by rw[←hW];simp[h]
  have yes:(eU ⟨⟨n,l⟩,s⟩=0∧fC ⟨⟨n,l⟩,s⟩ ⟨t,d,w⟩)→W=true:=fun h=>by rw[←hW];simp[h]
  unfold fC Ck nP at no yes;simp only at no yes;unfold rA at hf;obtain⟨qc,od⟩:=hr;simp only at hf qc od;by_cases a0:eU ⟨⟨n,l⟩,s⟩=0
  case neg =>
   simp (disch:=omega) [-getElem?_pos,wrap64,DR,hc,a0];exact no (fun g=>a0 g.1)
  have hs6:=(nQ a0).s;simp only at hs6;by_cases a1:0≤t∧t≤16777216
  case neg =>
   have lH:(decide (0≤t)&&decide (t≤16777216))=false:=by simp;omega
   simp (disch:=omega) [-getElem?_pos,wrap64,DR,hc,a0,El,lH];exact no (fun g=>a1 g.2.1)
  have lH:(decide (0≤t)&&decide (t≤16777216))=true:=by simp;exact a1
  by_cases a3:d.length=s.length
  case neg =>
   have Lq:¬ (d.length:Int)=s.length:=by omega
   simp (disch:=omega) [-getElem?_pos,wrap64,DR,hc,a0,El,lH,Lq];exact no (fun g=>a3 g.2.2.1.1)
  have Lq:(d.length:Int)=s.length:=by omega
  by_cases a4:w.length=l.length
  case neg =>
   have Cl:¬ (w.length:Int)=l.length:=by omega
   simp (disch:=omega) [-getElem?_pos,wrap64,DR,hc,a0,El,lH,Lq,Cl];exact no (fun g=>a4 g.2.2.2.1)
  have Cl:(w.length:Int)=l.length:=by omega
  simp (disch:=omega) [-getElem?_pos,wrap64,DR,hc,a0,El,lH,Lq,Cl];refine go_loop (fun i:Nat=>ah8 (sQ s) s.length i (Cs.row ⟨⟨n,l⟩,s⟩) (Fl.row ⟨t,d,w⟩) G) (fun i=>i≤s.length∧∀j,j<i→fw (nth s j).d=0∧g8 (nth s j).d (nth d j)) (fun i=>s.length-i) 0 rfl (by simp) (by simp) ?_
  rintro i ⟨hi,hj⟩;simp (disch:=omega) [-getElem?_pos,wrap64,WY];refine bS (fun h5=>?_) (fun h5=>?_)
  ·have h5:i<s.length:=by omega
   have h6:i<d.length:=by omega
   have hv:=Q5 (nth s i).d (nth d i);by_cases h7:fw (nth s i).d=0∧g8 (nth s i).d (nth d i)
   ·rw[fL h7]at hv
    simp (disch:=omega) [-getElem?_pos,wrap64,bg (l:=s),bg (l:=d),hv];refine bV (i+1) (by simp) ⟨by omega,fun j h8=>?_⟩ (by omega)
    rcases cF j i with h9|h9
    ·exact hj j h9
    ·rwa [show j=i by omega]
   ·rw[decide_eq_false h7]at hv
    simp (disch:=omega) [-getElem?_pos,wrap64,bg (l:=s),bg (l:=d),hv];exact no (fun g=>h7 (g.2.2.1.2 i h5))
  ·obtain rfl:i=s.length:=by omega
   have oU:=hj;refine go_loop (fun i:Nat=>aia (nk l) l.length i (Fl.row ⟨t,d,w⟩) G) (fun i=>i≤l.length∧∀j,j<i→eT (nth l j).r=0∧im (nth l j).r (nth w j)) (fun i=>l.length-i) 0 rfl (by simp) (by simp) ?_
   rintro i ⟨hi,hj⟩;simp (disch:=omega) [-getElem?_pos,wrap64,WZ];refine bS (fun h5=>?_) (fun h5=>?_)
   ·have h5:i<l.length:=by omega
    have h6:i<w.length:=by omega
    have hv:=abu (nth l i).r (od i h5) (nth w i) (hf i);by_cases h7:eT (nth l i).r=0∧im (nth l i).r (nth w i)
    ·rw[fL h7]at hv
     simp (disch:=omega) [-getElem?_pos,wrap64,bg (l:=l),bg (l:=w),hv];refine bV (i+1) (by simp) ⟨by omega,fun j h8=>?_⟩ (by omega)
     rcases cF j i with h9|h9
     ·exact hj j h9
     ·rwa [show j=i by omega]
    ·rw[decide_eq_false h7]at hv
     simp (disch:=omega) [-getElem?_pos,wrap64,bg (l:=l),bg (l:=w),hv];exact no (fun g=>h7 (g.2.2.2.2 i h5))
   ·obtain rfl:i=l.length:=by omega
    exact yes ⟨a0,a1,⟨a3,oU⟩,a4,hj⟩)
end Go.Proofs.YtcelmhaoipbdiaaGreatDoor
namespace Go.Proofs.YtcelmhaoipbdiaaGreatDoor
set_option linter.all false
open Go.Vm
theorem Lr{α:Type}{row:α→List V}{k:Nat}(hk:∀a,(row a).length=k):∀l:List α,(l.map row).flatten.length=l.length*k
 |[]=>by simp
 |a::l=>by
  rw[nq,sV,po,hk,Lr hk l,wB,px,IK,Mt]
theorem RH{α:Type}[Inhabited α]{row:α→List V}{k:Nat}(hk:∀a,(row a).length=k):∀{l:List α} {i:Nat},i<l.length→((l.map row).flatten.drop (i*k)).take k=row (nth l i)
 |[],i,h=>by simp at h
 |a::l,0,_=>by
  rw[E3,tM,nq,sV,List.take_append_of_le_length (by rw[hk];exact bR _),kG (by rw[hk];exact bR _)]
  rfl
 |a::l,i+1,h=>by
  have ih:=RH hk (l:=l) (i:=i) (by simpa using h)
  rw[nq,sV,show(i+1)*k=k+i*k by rw[px,IK,Mt],← xp,List.drop_left' (hk a),ih]
  rfl
theorem RI{x:V}:∀{vs cs:List V} {off:Nat},iF (x::cs) (off+1) vs=x::iF cs off vs
 |[],_,_=>rfl
 |v::vs,cs,off=>by
  simp only[iF,List.set_cons_succ];exact RI
theorem abF:∀{p:List V} {cs vs:List V} {off:Nat},iF (p++cs) (p.length+off) vs=p++iF cs off vs
 |[],cs,vs,off=>by simp
 |a::p,cs,vs,off=>by
  rw[tL,wB,show p.length+1+off=(p.length+off)+1 by omega,RI,abF,tL]
theorem abG:∀{vs p cs:List V},p.length=vs.length→iF (p++cs) 0 vs=vs++cs
 |[],p,cs,h=>by
  have:p=[]:=bW.1 (by simpa using h)
  subst this;rfl
 |v::vs,[],cs,h=>by simp at h
 |v::vs,a::p,cs,h=>by
  simp only[iF,tL,ID];rw[RI,abG (by simpa using h)]
theorem Ls{α:Type}{row:α→List V}{k:Nat}(hk:∀a,(row a).length=k){x:α}:∀{l:List α} {i:Nat},i<l.length→iF (l.map row).flatten (i*k) (row x)=((l.set i x).map row).flatten
 |[],i,h=>by simp at h
 |a::l,0,_=>by
  rw[E3,nq,sV,abG (by rw[hk,hk])]
  rfl
 |a::l,i+1,h=>by
  have ih:=Ls hk (x:=x) (l:=l) (i:=i) (by simpa using h)
  rw[nq,sV,show(i+1)*k=(row a).length+i*k by rw[hk,px,IK,Mt],abF,ih]
  rfl
theorem tH{α:Type}[Inhabited α]{l:List α}{i j:Nat}{x:α}(h:i<l.length):nth (l.set i x) j=if j=i then x else nth l j:=by
 unfold nth;rw[SF,SF,km];by_cases hj:j=i
 ·subst hj;simp[h]
 ·rw[aA hj,aA (fun e=>hj e.symm)]
end Go.Proofs.YtcelmhaoipbdiaaGreatDoor
namespace Go.Proofs.YtcelmhaoipbdiaaGreatDoor
set_option linter.all false
open Go.Vm
attribute [local simp] mK mL lN mJ
theorem Lt{α:Type}{row:α→List V}{k:Nat}(hk:∀a,(row a).length=k):∀{l:List α} {cs:List V} {off:Nat},cs.drop off=(l.map row).flatten→chunks k cs off l.length=l.map row
 |[],cs,off,h=>by simp[chunks]
 |a::l,cs,off,h=>by
  rw[nq,sV]at h;have h2:cs.drop (off+k)=(l.map row).flatten:=by
   rw[←xp,h,List.drop_left' (hk a)]
  rw[wB,chunks,Lt hk h2,h,List.take_left' (hk a),nq]
theorem Lu{α:Type}{row:α→List V}{sh:Sh}(h:∀a,my sh (row a)=some (row a)):∀l:List α,kH sh (l.map row)=some (l.map row)
 |[]=>rfl
 |a::l=>by simp[kH,h,Lu h l]
def jy(l:List Ds):List V:=(l.map Ds.row).flatten
theorem abH(l:List Ds):(l.map Ds.row).flatten=jy l:=rfl
@[simp] theorem awB{l:List Ds}:(jy l).length=l.length*4:=Lr (row:=Ds.row) (fun _=>rfl) l
theorem AJ{l:List Ds}{n:Nat}(h:n=l.length):kH [none,none,some 3,some 2] (chunks 4 (jy l) 0 n)=some (l.map Ds.row):=by
 subst h;rw[Lt (row:=Ds.row) (fun _=>rfl) rfl];exact Lu (fun a=>by simp) l
theorem abI{l:List Ds}{a:Ds}:jy l++a.row=jy (l++[a]):=by simp[jy]
def kU(l:List (List Int)):List V:=(l.map fun p=>[ints p]).flatten
theorem abJ(l:List (List Int)):(l.map fun p=>[ints p]).flatten=kU l:=rfl
@[simp] theorem awC{l:List (List Int)}:(kU l).length=l.length:=by
 have:=Lr (row:=fun p=>[ints p]) (k:=1) (fun _=>rfl) l
 rwa [IJ]at this
theorem Em{l:List (List Int)}{n:Nat}(h:n=l.length):kH [some 1] (chunks 1 (kU l) 0 n)=some (l.map fun p=>[ints p]):=by
 subst h;rw[Lt (row:=fun p=>[ints p]) (fun _=>rfl) rfl];exact Lu (fun a=>by simp) l
theorem abK{l:List (List Int)}{a:List Int}:kU l++[ints a]=kU (l++[a]):=by simp[kU]
theorem Lw{α:Type}{row:α→List V}{p:V→Bool}(h:∀a,(row a).all p=true):∀l:List α,(l.map row).flatten.all p=true
 |[]=>rfl
 |a::l=>by rw[nq,sV,List.all_append,h,Lw h l];rfl
theorem HY{α:Type}{row:α→List V}{f:V→V}(h:∀a,(row a).map f=row a):∀l:List α,(l.map row).flatten.map f=(l.map row).flatten
 |[]=>rfl
 |a::l=>by rw[nq,sV,EU,h,HY h l]
@[simp] theorem awD{l:List Ds}{d:Nat}:((jy l).all fun v => !V.cA d v)=true:=Lw (row:=Ds.row) (fun a=>by simp) l
@[simp] theorem awE{l:List (List Int)}{d:Nat}:((kU l).all fun v => !V.cA d v)=true:=Lw (row:=fun p=>[ints p]) (fun a=>by simp) l
@[simp] theorem awF{l:List Ds}{a b:Nat}:(jy l).map (V.jd a b)=jy l:=HY (row:=Ds.row) (fun a=>by simp) l
@[simp] theorem awG{l:List (List Int)}{a b:Nat}:(kU l).map (V.jd a b)=kU l:=HY (row:=fun p=>[ints p]) (fun a=>by simp) l
@[simp] theorem awH{l:List Ds}:(jy l).map V.iV=jy l:=HY (row:=Ds.row) (fun a=>by simp) l
@[simp] theorem awI{l:List (List Int)}:(kU l).map V.iV=kU l:=HY (row:=fun p=>[ints p]) (fun a=>by simp) l
def HZ(l:List Ds):Prop:=l.length≤1000∧∀i,i<l.length→(nth l i).u.length≤1000∧(nth l i).g.length≤1000
def RJ(l:List (List Int)):Prop:=l.length≤1000∧∀i,i<l.length→(nth l i).length≤17592186044416
theorem abL(l:List Ds)(h:HZ l)(G:List aT):bd F 130 [wo l] G=some (.da G.length 4 l.length,G++[.cells (jy l)]) :=
 bX rfl rfl (by
  obtain⟨hl,hs⟩:=h;simp (disch:=omega) [-getElem?_pos,wrap64,XV];refine go_loop (fun i:Nat=>ajE i (wo l) l.length i (jy (l.take i)) G) (fun i=>i≤l.length) (fun i=>l.length-i) 0 rfl (by simp[jy]) (by simp) ?_
  rintro i hi;simp (disch:=omega) [-getElem?_pos,wrap64,XU];refine bS (fun h5=>?_) (fun h5=>?_)
  ·have h5:i<l.length:=by omega
   have hu:=aog (nth l i).u (hs i h5).1;have hg:=aoh (nth l i).g (hs i h5).2;have hm:Nat.min i l.length=i:=E2 hi;simp (disch:=omega) [-getElem?_pos,wrap64,bg (l:=l),hu,hg];exact bV (i+1) (by simp[jQ h5,← abI]) (by omega) (by omega)
  ·obtain rfl:i=l.length:=by omega
   simp (disch:=omega) [-getElem?_pos,wrap64,AJ,abH,pq])
theorem RK(l:List Int)(hl:l.length≤17592186044416)(G:List aT):bd F 72 [ints l] G=some (.slice (some 0) 1 (l.map fun n=>[i64 n]),G):=by
 cases l with
 |nil =>
  refine Oc (p:=0) (m:=1) rfl rfl rfl rfl ?_ ?_
  ·simp (disch:=omega) [wrap64,Kf]
  ·simp (disch:=omega) [wrap64,Kf]
 |cons a l =>
  have hl:l.length+1≤17592186044416:=by simpa using hl
  show bd F 72 [.slice none 1 ([i64 a]::l.map fun n=>[i64 n])] G=some (.slice (some 0) 1 ([i64 a]::l.map fun n=>[i64 n]),G);refine Od (p:=0) rfl rfl rfl (fun m=>by simp) ?_
  simp (disch:=omega) [wrap64,Kf]
theorem abM(l:List (List Int))(h:RJ l)(G:List aT):bd F 131 [pf l] G=some (.da G.length 1 l.length,G++[.cells (kU l)]) :=
 bX rfl rfl (by
  obtain⟨hl,hs⟩:=h;simp (disch:=omega) [-getElem?_pos,wrap64,XX];refine go_loop (fun i:Nat=>ajG i (pf l) l.length i (kU (l.take i)) G) (fun i=>i≤l.length) (fun i=>l.length-i) 0 rfl (by simp[kU]) (by simp) ?_
  rintro i hi;simp (disch:=omega) [-getElem?_pos,wrap64,XW];refine bS (fun h5=>?_) (fun h5=>?_)
  ·have h5:i<l.length:=by omega
   have hu:=RK (nth l i) (hs i h5);have hm:Nat.min i l.length=i:=E2 hi;simp (disch:=omega) [-getElem?_pos,wrap64,bg (l:=l),hu];exact bV (i+1) (by simp[jQ h5,← abK]) (by omega) (by omega)
  ·obtain rfl:i=l.length:=by omega
   simp (disch:=omega) [-getElem?_pos,wrap64,Em,abJ,pq])
theorem abN(l:List Ds)(h:HZ l)(G:List aT):bd F 101 [wo l] G=some (.da G.length 4 l.length,G++[.cells (jy l)]) :=
 bX rfl rfl (by
  obtain⟨hl,hs⟩:=h;simp (disch:=omega) [-getElem?_pos,wrap64,Xu];refine go_loop (fun i:Nat=>aiU i (wo l) l.length i (jy (l.take i)) G) (fun i=>i≤l.length) (fun i=>l.length-i) 0 rfl (by simp[jy]) (by simp) ?_
  rintro i hi;simp (disch:=omega) [-getElem?_pos,wrap64,Xt];refine bS (fun h5=>?_) (fun h5=>?_)
  ·have h5:i<l.length:=by omega
   have hu:=(hs i h5).1;have hg:=(hs i h5).2;have hm:Nat.min i l.length=i:=E2 hi;simp (disch:=omega) [-getElem?_pos,wrap64,bg (l:=l)];exact bV (i+1) (by simp[jQ h5,← abI]) (by omega) (by omega)
  ·obtain rfl:i=l.length:=by omega
   simp (disch:=omega) [-getElem?_pos,wrap64,AJ,abH,pq])
theorem aoA(f:Fl)(h:HZ f.d)(hw:RJ f.w)(G:List aT):bd F 59 [fl f] G=some (.agg [i64 f.t,.da G.length 4 f.d.length,.da (G.length+1) 1 f.w.length],G++[.cells (jy f.d),.cells (kU f.w)]) :=
 bX rfl rfl (by
  obtain⟨t,d,l⟩:=f;simp only at h hw;have hd:=abN d h;obtain⟨hl,hs⟩:=hw;simp (disch:=omega) [-getElem?_pos,wrap64,W3,hd];refine go_loop (fun i:Nat=>aie i (pf l) l.length i [i64 t,.da G.length 4 d.length,pf l] [i64 0,.b9,.b9] (kU (l.take i)) (G++[.cells (jy d)])) (fun i=>i≤l.length) (fun i=>l.length-i) 0 rfl (by simp[kU]) (by simp) ?_
  rintro i hi;simp (disch:=omega) [-getElem?_pos,wrap64,W2];refine bS (fun h5=>?_) (fun h5=>?_)
  ·have h5:i<l.length:=by omega
   have hu:=hs i h5;have hm:Nat.min i l.length=i:=E2 hi;simp (disch:=omega) [-getElem?_pos,wrap64,bg (l:=l)];exact bV (i+1) (by simp[jQ h5,← abK]) (by omega) (by omega)
  ·obtain rfl:i=l.length:=by omega
   simp (disch:=omega) [-getElem?_pos,wrap64,Em,abJ,pq])
end Go.Proofs.YtcelmhaoipbdiaaGreatDoor
