/- Parts of the proof, joined: Ref6, Dam8, Dst1, Dsm1, Drn1, Drn2, Rch1, Rch2, Rch3, Rch4, Rch5, Riv1, Cas1, Cas2, Fla1, Cas3. -/
import Derived.Test.YtcelmhaoipbdiaaGreatDd
import Derived.Test.YtcelmhaoipbdiaaGreatDa
namespace Go.Proofs.YtcelmhaoipbdiaaGreat
set_option linter.all false
open Go.Vm
attribute [local simp] ly lz kF lx
theorem auN(d:Dm)(s:Ds)(inf los rel:Int):∃G',aX F 47 [dm d,dst s,i64 inf,i64 los,i64 rel] []=some (uh d s inf los rel,G'):=by
 suffices h:∀Q:V→List aP→Prop,(∀G',Q (uh d s inf los rel) G')→gw (aX F) 47 [dm d,dst s,i64 inf,i64 los,i64 rel] [] Q by
  obtain⟨_,G',h,rfl⟩:=h (fun v G'=>v=uh d s inf los rel) fun _=>rfl;exact⟨G',h⟩
 intro Q hQ;refine gF rfl rfl ?_;by_cases hd:dE d s=0
 ·obtain⟨ov,hf⟩:=J1 hd
  have yn:lvl d s=kI d.r s.v:=by simp[lvl,hd]
  by_cases ho:[inf,los,rel].any yU=false
  ·have he:pf d s inf los rel=0:=by unfold pf;rw[av (fun g=>g hd),ho];rfl
   unfold uh at hQ;rw[aK he]at hQ;have hx:=ho;simp only[yU,CM,zH,EH,OZ,Wy,kA]at hx;obtain⟨x1,x2,x3⟩:=hx;have i1:(decide (0≤inf)&&decide (inf≤1073741824))=true:=by simp;omega
   have i2:(decide (0≤los)&&decide (los≤1073741824))=true:=by simp;omega
   have i3:(decide (0≤rel)&&decide (rel≤1073741824))=true:=by simp;omega
   have p:=U9 ov hf x1 x2 x3;have hv:=hf.1;have hC:=NL ov.r;have hD:=NK ov.r;have hV1:=Jz d.r d.r.d [];rw[aub ov.r,aK rfl,show iR d.r.c d.r.d=Gz d from rfl]at hV1;have hV2:=Jz d.r d.r.t [];rw[UT ov.r,aK rfl,show iR d.r.c d.r.t=lV d from rfl]at hV2;have hL:s.v+inf-min los (s.v+inf)=eG s inf los:=rfl;have tN:max 0 (eG s inf los-Gz d)=kY d (eG s inf los):=by unfold kY;omega
   have yW:0≤eG s inf los∧eG s inf los≤4611686018427387904:=by unfold eG;omega
   have Vk:0≤kY d (eG s inf los)∧kY d (eG s inf los)≤4611686018427387904:=by unfold kY;omega
   have hU:=auL ov hf (q:=min rel (kY d (eG s inf los))) (by omega) []
   rw[show min (min rel (kY d (eG s inf los))) (200*d.gr)=lK d rel (eG s inf los) from rfl]at hU;rw[show dv (iA d s (lK d rel (eG s inf los))) d.u.length=gJ d s inf los rel from rfl]at hU;have hT:=p.T0;have hTr:=p.Tr;have hW:min rel (kY d (eG s inf los))-gJ d s inf los rel=ou d rel (eG s inf los) (gJ d s inf los rel):=rfl;have hS:=at5 d.g s.g (kI d.r s.v) (ou d rel (eG s inf los) (gJ d s inf los rel)) [];have hF:=NP d.g s.g (kI d.r s.v) (ou d rel (eG s inf los) (gJ d s inf los rel))
   have hP:min (pe d.g s.g (kI d.r s.v) (ou d rel (eG s inf los) (gJ d s inf los rel))) (kY d (eG s inf los)-gJ d s inf los rel)=mO d s inf los rel:=rfl;have hP0:=p.P0;have hP1:=p.P1;have hO:max 0 (eG s inf los-(gJ d s inf los rel+mO d s inf los rel)-lV d)=ug d s inf los rel:=by unfold ug;omega
   have hO0:0≤ug d s inf los rel∧ug d s inf los rel≤4611686018427387904:=by unfold ug;omega
   have hmn:min 1073741824 (gJ d s inf los rel+mO d s inf los rel)=min (gJ d s inf los rel+mO d s inf los rel) 1073741824:=O3 _ _;unfold m9 mj at hQ;generalize ug d s inf los rel=O at *;generalize mO d s inf los rel=P at *;generalize ou d rel (eG s inf los) (gJ d s inf los rel)=W at *;generalize gJ d s inf los rel=T at *;generalize hLL:eG s inf los=L at *;simp (config:={ maxSteps:=2000000 }) +contextual (disch:=omega) [-getElem?_pos,-List.length_eq_zero_iff,-Int.natCast_eq_zero,wrap64,FV,J7,hd,yn,dh,i1,i2,i3,hV1,hV2]
   simp (config:={ maxSteps:=2000000 }) +contextual (disch:=omega) [-getElem?_pos,-List.length_eq_zero_iff,-Int.natCast_eq_zero,wrap64,hL,tN,hU];simp (config:={ maxSteps:=2000000 }) +contextual (disch:=omega) [-getElem?_pos,-List.length_eq_zero_iff,-Int.natCast_eq_zero,wrap64,hW,hS,hP,hO,hmn];exact hQ _
  ·have ho:[inf,los,rel].any yU=true:=(OY _).resolve_right ho
   have he:pf d s inf los rel=1:=by unfold pf;rw[av (fun g=>g hd),ho];rfl
   unfold uh at hQ;rw[he,av (by omega)]at hQ
   simp only[yU,CM,zH,EH]at ho;by_cases i1:0≤inf∧inf≤1073741824
   ·by_cases i2:0≤los∧los≤1073741824
    ·by_cases i3:0≤rel∧rel≤1073741824
     ·simp[i1,i2,i3]at ho
     ·have j1:(decide (0≤inf)&&decide (inf≤1073741824))=true:=by simp;omega
      have j2:(decide (0≤los)&&decide (los≤1073741824))=true:=by simp;omega
      have j3:(decide (0≤rel)&&decide (rel≤1073741824))=false:=by simp;omega
      simp (config:={ maxSteps:=2000000 }) +contextual (disch:=omega) [-getElem?_pos,-List.length_eq_zero_iff,-Int.natCast_eq_zero,wrap64,FV,J7,hd,yn,dh,j1,j2,j3];exact hQ _
    ·have j1:(decide (0≤inf)&&decide (inf≤1073741824))=true:=by simp;omega
     have j2:(decide (0≤los)&&decide (los≤1073741824))=false:=by simp;omega
     simp (config:={ maxSteps:=2000000 }) +contextual (disch:=omega) [-getElem?_pos,-List.length_eq_zero_iff,-Int.natCast_eq_zero,wrap64,FV,J7,hd,yn,dh,j1,j2];exact hQ _
   ·have j1:(decide (0≤inf)&&decide (inf≤1073741824))=false:=by simp;omega
    simp (config:={ maxSteps:=2000000 }) +contextual (disch:=omega) [-getElem?_pos,-List.length_eq_zero_iff,-Int.natCast_eq_zero,wrap64,FV,J7,hd,yn,dh,j1];exact hQ _
 ·have he:pf d s inf los rel=dE d s:=by unfold pf;rw[aK hd]
  unfold uh at hQ;rw[he,av hd]at hQ;simp[wrap64,FV,J7,hd];exact hQ _
theorem auT(s:List Us)(hs:s.length≤1000)(G:List aP):aX F 104 [jJ s] G=some (JD s,G):=by
 cases s with
 |nil =>
  refine Rf (p:=0) (m:=3) rfl rfl rfl rfl ?_ ?_
  ·simp (disch:=omega) [wrap64,MY]
  ·simp (disch:=omega) [wrap64,MY]
 |cons a s =>
  have hs:s.length+1≤1000:=by simpa using hs
  show aX F 104 [.slice none 3 (a.row::s.map Us.row)] G=some (.slice (some 0) 3 (a.row::s.map Us.row),G);refine Rg (p:=0) rfl rfl rfl (fun m=>by simp) ?_
  simp (disch:=omega) [wrap64,MY]
theorem auU(s:List Gs)(hs:s.length≤1000)(G:List aP):aX F 105 [jw s] G=some (NQ s,G):=by
 cases s with
 |nil =>
  refine Rf (p:=0) (m:=2) rfl rfl rfl rfl ?_ ?_
  ·simp (disch:=omega) [wrap64,MZ]
  ·simp (disch:=omega) [wrap64,MZ]
 |cons a s =>
  have hs:s.length+1≤1000:=by simpa using hs
  show aX F 105 [.slice none 2 (a.row::s.map Gs.row)] G=some (.slice (some 0) 2 (a.row::s.map Gs.row),G);refine Rg (p:=0) rfl rfl rfl (fun m=>by simp) ?_
  simp (disch:=omega) [wrap64,MZ]
noncomputable def Ej(d:Dm)(s:Ds)(A B C:List Int):Nat→Ds
 |0=>s
 |i+1=>m9 d (Ej d s A B C i) (nth A i) (nth B i) (nth C i)
noncomputable def rnR(d:Dm)(s:Ds)(A B C:List Int)(i:Nat):Dr:=mj d (Ej d s A B C i) (nth A i) (nth B i) (nth C i)
noncomputable def NS(d:Dm)(s:Ds)(A B C:List Int)(n:Nat):List Dr:=(List.range n).map (rnR d s A B C)
end Go.Proofs.YtcelmhaoipbdiaaGreat
namespace Go.Proofs.YtcelmhaoipbdiaaGreat
set_option linter.all false
open Go.Vm
end Go.Proofs.YtcelmhaoipbdiaaGreat
namespace Go.Proofs.YtcelmhaoipbdiaaGreat
set_option linter.all false
open Go.Vm
attribute [local simp] ly lz kF lx
theorem GC{α:Type}[Inhabited α]{l:List α}{i k:Nat}:nth (l.drop k) i=nth l (k+i):=by simp[nth,oF]
theorem af1{d:Dm}{s:Ds}{A B C:List Int}{m:Nat}:∀i,Ej d (Ej d s A B C m) (A.drop m) (B.drop m) (C.drop m) i=Ej d s A B C (m+i)
 |0=>rfl
 |i+1=>by
  rw[←CT];simp only[Ej];rw[af1 i,GC,GC,GC]
theorem aDz{d:Dm}{s:Ds}{A B C:List Int}{m n:Nat}:NS d s A B C m++NS d (Ej d s A B C m) (A.drop m) (B.drop m) (C.drop m) n=NS d s A B C (m+n):=by
 unfold NS;rw[List.range_add,Hn,CQ];congr 1;refine Pl fun i _=>?_;unfold rnR;rw[af1,GC,GC,GC];rfl
theorem auV(g:List Dr)(hg:g.length≤5000)(G:List aP):aX F 52 [.slice none 7 (g.map Dr.row),.slice none 7 (g.map Dr.row)] G=some (.bool true,G) :=
 bL rfl rfl (by
  simp (disch:=omega) [wrap64,MN];refine go_loop (fun i:Nat=>aa7 (.slice none 7 (g.map Dr.row)) (.slice none 7 (g.map Dr.row)) g.length i G) (fun i=>i≤g.length) (fun i=>g.length-i) 0 rfl (by simp) (by omega) ?_
  intro i hi;simp (disch:=omega) [wrap64,SI];refine bB (fun h5=>?_) (fun h5=>?_)
  ·have h5:i<g.length:=by omega
   simp (disch:=omega) [wrap64,aY (l:=g),V.gA,eJ,kO];refine bu (i+1) (by simp) (by omega) (by omega)
  ·trivial)
end Go.Proofs.YtcelmhaoipbdiaaGreat
namespace Go.Proofs.YtcelmhaoipbdiaaGreat
set_option linter.all false
open Go.Vm
def okF(A B C:List Int)(i:Nat):Prop:=(0≤nth A i∧nth A i≤1073741824)∧(0≤nth B i∧nth B i≤1073741824)∧(0≤nth C i∧nth C i≤1073741824)
instance {A B C:List Int} {i:Nat}:Decidable (okF A B C i):=inferInstanceAs (Decidable (_∧_∧_))
def okA(A B C:List Int):Prop:=∀i,i<A.length→okF A B C i
noncomputable instance {A B C:List Int}:Decidable (okA A B C):=Classical.propDecidable _
end Go.Proofs.YtcelmhaoipbdiaaGreat
namespace Go.Proofs.YtcelmhaoipbdiaaGreat
set_option linter.all false
open Go.Vm
attribute [local simp] ly lz kF lx
theorem auX(r:Dr)(ht:0≤r.tur∧r.tur≤1099511627776)(hs:0≤r.spi∧r.spi≤1099511627776)(ho:0≤r.ovr∧r.ovr≤1099511627776)(G:List aP):aX F 48 [dr r] G=some (i64 (r.tur+r.spi+r.ovr),G) :=
 bL rfl rfl (by
  simp (disch:=omega) [wrap64,SH])
def dF(l:List Int)(b:Int):Prop:=∀i,i<l.length→0≤nth l i∧nth l i≤b
noncomputable instance {l:List Int} {b:Int}:Decidable (dF l b):=Classical.propDecidable _
def sm(l:List Int):Nat→Int
 |0=>0
 |i+1=>sm l i+nth l i
theorem AT{l:List Int}{b:Int}:∀{i:Nat},(∀j,j<i→0≤nth l j∧nth l j≤b)→0≤sm l i∧sm l i≤b*i
 |0,_=>by simp[sm]
 |i+1,h=>by
  have:=AT fun j hj=>h j (WT hj);have:=h i (by omega)
  have:b*((i+1:Nat):Int)=b*i+b:=by simp[Hf]
  simp only[sm];omega
structure Rc where
 w:List Int
 den:Int
 deriving Inhabited
abbrev Rc.row(r:Rc):List V:=[ints r.w,i64 r.den]
abbrev rc(r:Rc):V:=.agg r.row
abbrev wv(p:List Int):V:=.agg [ints p]
noncomputable def ft(r:Rc):Int :=
 if r.w.length=0∨nth r.w (r.w.length-1)=0 then 3 else if 24<r.w.length then 10 else if dF r.w 10000 then (if sm r.w r.w.length=r.den then 0 else 2) else 1
theorem yX(r:Rc)(hl:r.w.length≤17592186044416)(G:List aP):aX F 160 [rc r] G=some (i64 (ft r),G) :=
 bL rfl rfl (by
  obtain⟨w,den⟩:=r;simp only at hl;generalize hW:ft ⟨w,den⟩=W;unfold ft at hW;simp only at hW;by_cases h1:w.length=0
  ·rw[aK (.inl h1)]at hW
   have ed:(w.length:Int)=0:=by omega
   simp (disch:=omega) [-getElem?_pos,-Int.natCast_eq_zero,wrap64,Jo,ed];exact hW
  have ed:¬ (w.length:Int)=0:=by omega
  by_cases h2:nth w (w.length-1)=0
  ·rw[aK (.inr h2)]at hW
   simp (disch:=omega) [-getElem?_pos,-Int.natCast_eq_zero,wrap64,Jo,ed,dA (l:=w),h2];exact hW
  rw[av (by omega)]at hW
  by_cases h3:24<w.length
  ·rw[aK h3]at hW
   have iH:(24:Int)<w.length:=by omega
   simp (disch:=omega) [-getElem?_pos,-Int.natCast_eq_zero,wrap64,Jo,ed,dA (l:=w),h2,iH];exact hW
  rw[av h3]at hW;have iH:¬ (24:Int)<w.length:=by omega
  simp (disch:=omega) [-getElem?_pos,-Int.natCast_eq_zero,wrap64,Jo,ed,dA (l:=w),h2,iH];refine go_loop (fun i:Nat=>aq4 (sm w i) (ints w) w.length i (Rc.row ⟨w,den⟩) G) (fun i=>i≤w.length∧∀j,j<i→0≤nth w j∧nth w j≤10000) (fun i=>w.length-i) 0 rfl (by simp[sm]) (by simp) ?_
  rintro i ⟨hi,hj⟩;have hs:=AT hj;simp (disch:=omega) [-getElem?_pos,-Int.natCast_eq_zero,wrap64,ac7];refine bB (fun h5=>?_) (fun h5=>?_)
  ·have h5:i<w.length:=by omega
   by_cases h6:0≤nth w i∧nth w i≤10000
   ·have iI:(decide (0≤nth w i)&&decide (nth w i≤10000))=true:=by simp;exact h6
    simp (disch:=omega) [-getElem?_pos,-Int.natCast_eq_zero,wrap64,dA (l:=w),dM,dh,iI];refine bu (i+1) (by simp[sm]) ⟨by omega,fun j h7=>?_⟩ (by omega)
    rcases cM j i with h8|h8
    ·exact hj j h8
    ·rwa [show j=i by omega]
   ·have iI:(decide (0≤nth w i)&&decide (nth w i≤10000))=false:=by simp;omega
    rw[av (fun g:dF w 10000=>h6 (g i h5))]at hW;simp (disch:=omega) [-getElem?_pos,-Int.natCast_eq_zero,wrap64,dA (l:=w),dM,dh,iI];exact hW
  ·obtain rfl:i=w.length:=by omega
   rw[aK (show dF w 10000 from hj)]at hW;by_cases h7:sm w w.length=den
   ·rw[aK h7]at hW
    simp (disch:=omega) [-getElem?_pos,-Int.natCast_eq_zero,wrap64,h7];exact hW
   ·rw[av h7]at hW
    simp (disch:=omega) [-getElem?_pos,-Int.natCast_eq_zero,wrap64,h7];exact hW)
theorem yY(r:Rc)(hl:r.w.length≤17592186044416)(G:List aP):aX F 138 [rc r] G=some (i64 (ft r),G) :=
 bL rfl rfl (by
  obtain⟨w,den⟩:=r;simp only at hl;generalize hW:ft ⟨w,den⟩=W;unfold ft at hW;simp only at hW;by_cases h1:w.length=0
  ·rw[aK (.inl h1)]at hW
   have ed:(w.length:Int)=0:=by omega
   simp (disch:=omega) [-getElem?_pos,-Int.natCast_eq_zero,wrap64,Jj,ed];exact hW
  have ed:¬ (w.length:Int)=0:=by omega
  by_cases h2:nth w (w.length-1)=0
  ·rw[aK (.inr h2)]at hW
   simp (disch:=omega) [-getElem?_pos,-Int.natCast_eq_zero,wrap64,Jj,ed,dA (l:=w),h2];exact hW
  rw[av (by omega)]at hW
  by_cases h3:24<w.length
  ·rw[aK h3]at hW
   have iH:(24:Int)<w.length:=by omega
   simp (disch:=omega) [-getElem?_pos,-Int.natCast_eq_zero,wrap64,Jj,ed,dA (l:=w),h2,iH];exact hW
  rw[av h3]at hW;have iH:¬ (24:Int)<w.length:=by omega
  simp (disch:=omega) [-getElem?_pos,-Int.natCast_eq_zero,wrap64,Jj,ed,dA (l:=w),h2,iH];refine go_loop (fun i:Nat=>aqx (sm w i) (ints w) w.length i (Rc.row ⟨w,den⟩) G) (fun i=>i≤w.length∧∀j,j<i→0≤nth w j∧nth w j≤10000) (fun i=>w.length-i) 0 rfl (by simp[sm]) (by simp) ?_
  rintro i ⟨hi,hj⟩;have hs:=AT hj;simp (disch:=omega) [-getElem?_pos,-Int.natCast_eq_zero,wrap64,acG];refine bB (fun h5=>?_) (fun h5=>?_)
  ·have h5:i<w.length:=by omega
   by_cases h6:0≤nth w i∧nth w i≤10000
   ·have iI:(decide (0≤nth w i)&&decide (nth w i≤10000))=true:=by simp;exact h6
    simp (disch:=omega) [-getElem?_pos,-Int.natCast_eq_zero,wrap64,dA (l:=w),dM,dh,iI];refine bu (i+1) (by simp[sm]) ⟨by omega,fun j h7=>?_⟩ (by omega)
    rcases cM j i with h8|h8
    ·exact hj j h8
    ·rwa [show j=i by omega]
   ·have iI:(decide (0≤nth w i)&&decide (nth w i≤10000))=false:=by simp;omega
    rw[av (fun g:dF w 10000=>h6 (g i h5))]at hW;simp (disch:=omega) [-getElem?_pos,-Int.natCast_eq_zero,wrap64,dA (l:=w),dM,dh,iI];exact hW
  ·obtain rfl:i=w.length:=by omega
   rw[aK (show dF w 10000 from hj)]at hW;by_cases h7:sm w w.length=den
   ·rw[aK h7]at hW
    simp (disch:=omega) [-getElem?_pos,-Int.natCast_eq_zero,wrap64,h7];exact hW
   ·rw[av h7]at hW
    simp (disch:=omega) [-getElem?_pos,-Int.natCast_eq_zero,wrap64,h7];exact hW)
def iZ(r:Rc)(p:List Int):Prop:=p.length≤r.w.length∧(0<p.length→nth p (p.length-1)≠0)∧dF p 2251799813685248
noncomputable instance {r:Rc} {p:List Int}:Decidable (iZ r p):=Classical.propDecidable _
theorem af2(r:Rc)(p:List Int)(hl:p.length≤17592186044416)(G:List aP):aX F 165 [rc r,wv p] G=some (.bool (decide (iZ r p)),G) :=
 bL rfl rfl (by
  obtain⟨w,den⟩:=r;generalize hW:decide (iZ ⟨w,den⟩ p)=W;have no:¬ iZ ⟨w,den⟩ p→W=false:=fun h=>by rw[←hW];simp[h]
  unfold iZ at no;simp only at no;by_cases h1:(w.length:Int)<p.length
  ·simp +contextual (disch:=omega) [-getElem?_pos,wrap64,Jp,h1]
   exact no (by omega)
  by_cases h2:0<p.length∧nth p (p.length-1)=0
  ·have iz:(0:Int)<p.length:=by omega
   simp +contextual (disch:=omega) [-getElem?_pos,wrap64,Jp,h1,iz,dA (l:=p),h2.2];exact no (fun h=>h.2.1 h2.1 h2.2)
  rcases (by omega:(0:Int)<p.length∧nth p (p.length-1)≠0∨¬ (0:Int)<p.length) with⟨h3,h4⟩ | h3
  ·simp +contextual (disch:=omega) [-getElem?_pos,wrap64,Jp,h1,h3,dA (l:=p),h4]
   refine go_loop (fun i:Nat=>arj (ints p) p.length i G) (fun i=>i≤p.length∧∀j,j<i→0≤nth p j∧nth p j≤2251799813685248) (fun i=>p.length-i) 0 rfl (by simp) (by simp) ?_
   rintro i ⟨hi,hj⟩;simp +contextual (disch:=omega) [-getElem?_pos,wrap64,Ty];refine bB (fun h5=>?_) (fun h5=>?_)
   ·have h5:i<p.length:=by omega
    by_cases h6:0≤nth p i∧nth p i≤2251799813685248
    ·have iI:(decide (0≤nth p i)&&decide (nth p i≤2251799813685248))=true:=by simp;exact h6
     simp +contextual (disch:=omega) [-getElem?_pos,wrap64,dA (l:=p),dM,dh,iI];refine bu (i+1) (by simp) ⟨by omega,fun j h7=>?_⟩ (by omega)
     rcases cM j i with h8|h8
     ·exact hj j h8
     ·rwa [show j=i by omega]
    ·have iI:(decide (0≤nth p i)&&decide (nth p i≤2251799813685248))=false:=by simp;omega
     simp +contextual (disch:=omega) [-getElem?_pos,wrap64,dA (l:=p),dM,dh,iI];exact no (fun h=>h6 (h.2.2 i h5))
   ·obtain rfl:i=p.length:=by omega
    rw[←hW,dD (show iZ ⟨w,den⟩ p from⟨by simp only;omega,fun h6 h7=>h2 ⟨h6,h7⟩,hj⟩)]
  ·obtain rfl:p=[]:=a8.1 (by omega)
   have ed:¬ (w.length:Int)<0:=by omega
   simp +contextual (disch:=omega) [-getElem?_pos,wrap64,Jp,ed];unfold adi;rw[yJ];simp +contextual (disch:=omega) [-getElem?_pos,wrap64,Ty];rw[←hW,dD (show iZ ⟨w,den⟩ [] from⟨by simp,by simp,fun i hi=>by simp at hi⟩)])
theorem af3(r:Rc)(hr:r.w.length≤17592186044416)(p:List Int)(hl:p.length≤17592186044416)(G:List aP):aX F 94 [rc r,wv p] G=some (.bool (decide (ft r=0∧iZ r p)),G) :=
 bL rfl rfl (by
  have hc:=yY r hr;by_cases hz:ft r=0
  ·rw[hz]at hc
   obtain⟨w,den⟩:=r;rw[show decide (ft ⟨w,den⟩=0∧iZ ⟨w,den⟩ p)=decide (iZ ⟨w,den⟩ p) by simp[hz]]
   generalize hW:decide (iZ ⟨w,den⟩ p)=W;have no:¬ iZ ⟨w,den⟩ p→W=false:=fun h=>by rw[←hW];simp[h]
   unfold iZ at no;simp only at no;by_cases h1:(w.length:Int)<p.length
   ·simp +contextual (disch:=omega) [-getElem?_pos,wrap64,F3,hc,h1]
    exact no (by omega)
   by_cases h2:0<p.length∧nth p (p.length-1)=0
   ·have iz:(0:Int)<p.length:=by omega
    simp +contextual (disch:=omega) [-getElem?_pos,wrap64,F3,hc,h1,iz,dA (l:=p),h2.2];exact no (fun h=>h.2.1 h2.1 h2.2)
   rcases (by omega:(0:Int)<p.length∧nth p (p.length-1)≠0∨¬ (0:Int)<p.length) with⟨h3,h4⟩ | h3
   ·simp +contextual (disch:=omega) [-getElem?_pos,wrap64,F3,hc,h1,h3,dA (l:=p),h4]
    refine go_loop (fun i:Nat=>apD (ints p) p.length i G) (fun i=>i≤p.length∧∀j,j<i→0≤nth p j∧nth p j≤2251799813685248) (fun i=>p.length-i) 0 rfl (by simp) (by simp) ?_
    rintro i ⟨hi,hj⟩;simp +contextual (disch:=omega) [-getElem?_pos,wrap64,S6];refine bB (fun h5=>?_) (fun h5=>?_)
    ·have h5:i<p.length:=by omega
     by_cases h6:0≤nth p i∧nth p i≤2251799813685248
     ·have iI:(decide (0≤nth p i)&&decide (nth p i≤2251799813685248))=true:=by simp;exact h6
      simp +contextual (disch:=omega) [-getElem?_pos,wrap64,dA (l:=p),dM,dh,iI];refine bu (i+1) (by simp) ⟨by omega,fun j h7=>?_⟩ (by omega)
      rcases cM j i with h8|h8
      ·exact hj j h8
      ·rwa [show j=i by omega]
     ·have iI:(decide (0≤nth p i)&&decide (nth p i≤2251799813685248))=false:=by simp;omega
      simp +contextual (disch:=omega) [-getElem?_pos,wrap64,dA (l:=p),dM,dh,iI];exact no (fun h=>h6 (h.2.2 i h5))
    ·obtain rfl:i=p.length:=by omega
     rw[←hW,dD (show iZ ⟨w,den⟩ p from⟨by simp only;omega,fun h6 h7=>h2 ⟨h6,h7⟩,hj⟩)]
   ·obtain rfl:p=[]:=a8.1 (by omega)
    have ed:¬ (w.length:Int)<0:=by omega
    simp +contextual (disch:=omega) [-getElem?_pos,wrap64,F3,hc,ed];unfold abW;rw[yJ];simp +contextual (disch:=omega) [-getElem?_pos,wrap64,S6];rw[←hW,dD (show iZ ⟨w,den⟩ [] from⟨by simp,by simp,fun i hi=>by simp at hi⟩)]
  ·generalize hW:decide (ft r=0∧iZ r p)=W
   simp +contextual (disch:=omega) [-getElem?_pos,wrap64,F3,hc,hz];rw[←hW];simp[hz])
theorem auY(r:Rc)(hr:r.w.length≤17592186044416)(p:List Int)(hl:p.length≤17592186044416)(G:List aP):aX F 123 [rc r,wv p] G=some (.bool (decide (ft r=0∧iZ r p)),G) :=
 bL rfl rfl (by
  have hc:=yX r hr;have hf:=af2 r p hl;by_cases hz:ft r=0
  ·simp[wrap64,Tk,hc,hf,hz]
  ·simp[wrap64,Tk,hc,hf,hz])
theorem auZ(p:List Int)(hl:p.length≤40)(h:dF p 2251799813685248)(G:List aP):aX F 59 [wv p] G=some (i64 (sm p p.length),G) :=
 bL rfl rfl (by
  generalize hW:sm p p.length=W;simp (disch:=omega) [-getElem?_pos,wrap64,abh];refine go_loop (fun i:Nat=>aoH (sm p i) (ints p) p.length i G) (fun i=>i≤p.length) (fun i=>p.length-i) 0 rfl (by simp[sm]) (by omega) ?_
  rintro i hi;have hs:=AT (l:=p) (b:=2251799813685248) (i:=i) fun j hj=>h j (by omega)
  simp (disch:=omega) [-getElem?_pos,wrap64,abg];refine bB (fun h5=>?_) (fun h5=>?_)
  ·have h5:i<p.length:=by omega
   have:=h i h5;simp (disch:=omega) [-getElem?_pos,wrap64,dA (l:=p)];exact bu (i+1) (by simp[sm]) (by omega) (by omega)
  ·obtain rfl:i=p.length:=by omega
   rw[hW])
theorem au0(p:List Int)(hl:p.length≤40)(h:dF p 2251799813685248)(G:List aP):aX F 60 [wv p] G=some (i64 (sm p p.length),G) :=
 bL rfl rfl (by
  generalize hW:sm p p.length=W;simp (disch:=omega) [-getElem?_pos,wrap64,abj];refine go_loop (fun i:Nat=>aoJ (sm p i) (ints p) p.length i G) (fun i=>i≤p.length) (fun i=>p.length-i) 0 rfl (by simp[sm]) (by omega) ?_
  rintro i hi;have hs:=AT (l:=p) (b:=2251799813685248) (i:=i) fun j hj=>h j (by omega)
  simp (disch:=omega) [-getElem?_pos,wrap64,abi];refine bB (fun h5=>?_) (fun h5=>?_)
  ·have h5:i<p.length:=by omega
   have:=h i h5;simp (disch:=omega) [-getElem?_pos,wrap64,dA (l:=p)];exact bu (i+1) (by simp[sm]) (by omega) (by omega)
  ·obtain rfl:i=p.length:=by omega
   rw[hW])
structure Rv(r:Rc):Prop where
 pos:1≤r.w.length
 len:r.w.length≤24
 last:nth r.w (r.w.length-1)≠0
 w:∀i,i<r.w.length→0≤nth r.w i∧nth r.w i≤10000
 sum:sm r.w r.w.length=r.den
 den:1≤r.den∧r.den≤240000
theorem vg{r:Rc}(h:ft r=0):Rv r:=by
 unfold ft at h;split at h
 ·cases h
 split at h
 ·cases h
 split at h
 ·rename_i h1 h2 h3
  split at h
  ·rename_i h4
   have h0:1≤r.w.length:=by omega
   have s1:=AT (l:=r.w) (b:=10000) (i:=r.w.length) h3;have s2:=AT (l:=r.w) (b:=10000) (i:=r.w.length-1) fun j hj=>h3 j (by omega)
   have s3:sm r.w r.w.length=sm r.w (r.w.length-1)+nth r.w (r.w.length-1):=by
    conv=>lhs;rw[show r.w.length=r.w.length-1+1 by omega]
    rfl
   have h5:=h3 (r.w.length-1) (by omega)
   exact⟨h0,by omega,by omega,h3,h4,by omega⟩
  ·cases h
 ·cases h
def rq(r:Rc)(p:List Int)(x:Int)(k:Nat):Int:=nth p k+x*nth r.w k
def wB(r:Rc)(p:List Int)(x:Int):Prop:=∀k,k<r.w.length→rq r p x k≤1125899906842624
noncomputable instance {r:Rc} {p:List Int} {x:Int}:Decidable (wB r p x):=Classical.propDecidable _
def mP(r:Rc)(p:List Int)(x:Int):Int:=rq r p x 0 / r.den
def rN(r:Rc)(p:List Int)(x:Int)(k:Nat):Int:=if k=0 then rq r p x 1+rq r p x 0 % r.den else rq r p x (k+1)
def nz(f:Nat→Int):Nat→Nat
 |0=>0
 |n+1=>if f n=0 then nz f n else n+1
def lL(r:Rc)(p:List Int)(x:Int):List Int:=(List.range (nz (rN r p x) r.w.length)).map (rN r p x)
theorem wC{l:List Int}{i:Nat}(h:l.length≤i):nth l i=0:=by
 simp[nth,List.getD,mo h]
theorem AU{r:Rc}(hr:Rv r){p:List Int}(hp:iZ r p){x:Int}(hx:0≤x∧x≤1073741824)(k:Nat):0≤rq r p x k∧rq r p x k≤2262537232089088:=by
 have h1:0≤nth p k∧nth p k≤2251799813685248:=by
  rcases cM k p.length with h|h
  ·exact hp.2.2 k h
  ·rw[wC h];omega
 have h2:0≤nth r.w k∧nth r.w k≤10000:=by
  rcases cM k r.w.length with h|h
  ·exact hr.w k h
  ·rw[wC h];omega
 have h3:0≤x*nth r.w k:=CK hx.1 h2.1;have h4:x*nth r.w k≤1073741824*10000:=EI hx.2 h2.2 h2.1 (by omega)
 unfold rq;omega
theorem af4{p:List Int}:(cP p).all V.sc=true:=by simp[cP,V.sc]
theorem af5{p:List Int}{n:Nat}(h:p.length≤n):(cP p).take n++(fe n fun _=>0).drop p.length=fe n (nth p):=by
 rw[lZ (by simpa using h)]
 apply xU;intro i;rcases cM i p.length with h1|h1
 ·rw[ux (by simpa using h1),lA h1,qo (by omega)]
 ·rw[wL (by simpa using h1),alB,oF,show p.length+(i-p.length)=i by omega]
  rcases cM i n with h2|h2
  ·rw[qo h2,qo h2,wC h1]
  ·rw[mo (by simpa using h2),mo (by simpa using h2)]
theorem au1{n:Nat}{f:Nat→Int}:(List.take n (fe (n+1) f).tail).all V.sc=true:=by
 rw[iL];intro v hv;have:=List.mem_of_mem_tail (KR hv);simp only[fe,nc]at this;obtain⟨j,_,rfl⟩:=this;rfl
theorem au2{n:Nat}{f:Nat→Int}:List.take (n+1) (List.take n (fe (n+1) f).tail)++List.drop n (fe (n+1) f)=fe (n+1) fun k=>if k<n then f (k+1) else f k:=by
 apply xU;intro i;have hl:(List.take n (fe (n+1) f).tail).length=n:=by simp
 rw[lZ (by rw[hl];omega)]
 rcases cM i n with h|h
 ·rw[ux (by rw[hl];exact h),Pf h,WK,qo (by omega),qo (by omega),aK h]
 ·rw[wL (by rw[hl];exact h),hl,oF,show n+(i-n)=i by omega]
  rcases cM i (n+1) with h2|h2
  ·rw[qo h2,qo h2,av (by omega)]
  ·rw[mo (by simpa using h2),mo (by simpa using h2)]
theorem af6{n m:Nat}{f:Nat→Int}(h:m≤n):lb [none] (chunks 1 (fe n f) 0 m)=some ((List.range m).map fun j=>[V.int .i64 (f j)]):=by
 have e:(fe n f).take m=fe m f:=by
  apply xU;intro i;rcases cM i m with h1|h1
  ·rw[Pf h1,qo (by omega),qo h1]
  ·rw[mo (by simp;omega),mo (by simpa using h1)]
 rw[ID _ _ _ rfl (by simpa using h),vn,e,fe,CQ]
 exact Mh f _
theorem au3(r:Rc)(hr:Rv r)(p:List Int)(hp:iZ r p)(x:Int)(hx:0≤x∧x≤1073741824)(G:List aP) :
  aX F 195 [rc r,wv p,i64 x] G=some (.tuple (if wB r p x then [wv (lL r p x),i64 (mP r p x),.bool true] else [.agg [.slice (some 0) 1 []],i64 0,.bool false]),G) :=
 bL rfl rfl (by
  obtain⟨w,den⟩:=r;generalize hW:(V.tuple (if wB ⟨w,den⟩ p x then [wv (lL ⟨w,den⟩ p x),i64 (mP ⟨w,den⟩ p x),.bool true] else [.agg [.slice (some 0) 1 []],i64 0,.bool false]))=W
  have hlen:=hr.len;have gX:=hr.pos;have lj:=hp.1;simp only at hlen gX lj;have Vn:p.length≤w.length+1:=by omega
  have Vp:∀k,k<w.length→0≤x*nth w k∧x*nth w k≤10737418240000:=fun k hk=>by
   have h2:=hr.w k hk;simp only at h2;have h3:0≤x*nth w k:=CK hx.1 h2.1;have h4:x*nth w k≤1073741824*10000:=EI hx.2 h2.2 h2.1 (by omega)
   omega
  have Vq:∀k,0≤nth p k∧nth p k≤2251799813685248:=fun k=>by
   rcases cM k p.length with h|h
   ·exact hp.2.2 k h
   ·rw[wC h];omega
  simp (disch:=omega) [-getElem?_pos,wrap64,adN,Y6,af4,af5 Vn];refine go_loop (fun i:Nat=>arN x (w.length+1) (ints w) w.length i (Rc.row ⟨w,den⟩) [.bU] (fe (w.length+1) fun k=>if k<i then rq ⟨w,den⟩ p x k else nth p k) G) (fun i=>i≤w.length∧∀k,k<i→rq ⟨w,den⟩ p x k≤1125899906842624) (fun i=>w.length-i) 0 rfl (by simp) (by simp) ?_
  rintro i ⟨hi,hj⟩;simp (disch:=omega) [-getElem?_pos,wrap64,adM];refine bB (fun h5=>?_) (fun h5=>?_)
  ·have h5:i<w.length:=by omega
   have hq:=AU hr hp hx i;have ha:=Vp i h5;have hb:=Vq i;have hf:(fun j=>if j=i then nth p i+x*nth w i else if j<i then rq ⟨w,den⟩ p x j else nth p j)=fun j=>if j<i+1 then rq ⟨w,den⟩ p x j else nth p j:=by
    funext j;by_cases h6:j=i
    ·subst h6;simp[rq]
    ·by_cases h7:j<i
     ·rw[av h6,aK h7,aK (by omega)]
     ·rw[av h6,av h7,av (by omega)]
   simp (disch:=omega) [-getElem?_pos,wrap64,dA (l:=w),qo,hf];refine bB (fun h7=>?_) (fun h7=>?_)
   ·rw[←hW,av (fun g:wB ⟨w,den⟩ p x=>absurd (g i h5) (by omega))]
   ·refine bu (i+1) (by simp) ⟨by omega,fun k hk=>?_⟩ (by omega)
    rcases cM k i with h8|h8
    ·exact hj k h8
    ·rw[show k=i by omega];omega
  ·obtain rfl:i=w.length:=by omega
   rw[aK (show wB ⟨w,den⟩ p x from hj)]at hW;have hf:(fe (w.length+1) fun k=>if k<w.length then rq ⟨w,den⟩ p x k else nth p k)=fe (w.length+1) (rq ⟨w,den⟩ p x):=Rh fun k hk=>by
    by_cases h6:k<w.length
    ·rw[aK h6]
    ·rw[av h6,show k=w.length by omega];simp[rq,wC (bY w.length)]
   have hd:=hr.den;simp only at hd;have xK:¬ den=0:=by omega
   have q0:=AU hr hp hx 0;have q1:=AU hr hp hx 1;have d1:(rq ⟨w,den⟩ p x 0).tdiv den=rq ⟨w,den⟩ p x 0 / den:=Bc q0.1;have d2:(rq ⟨w,den⟩ p x 0).tmod den=rq ⟨w,den⟩ p x 0 % den:=Wz q0.1;have d3:0≤rq ⟨w,den⟩ p x 0 / den:=Hc q0.1 (by omega)
   have d4:rq ⟨w,den⟩ p x 0 / den≤rq ⟨w,den⟩ p x 0:=KH _ q0.1;have d5:0≤rq ⟨w,den⟩ p x 0 % den:=O1 _ xK;have d6:rq ⟨w,den⟩ p x 0 % den<den:=O0 _ (by omega)
   have hg:(fe (w.length+1) fun k=>if k<w.length then (if k=0 then rq ⟨w,den⟩ p x 1+rq ⟨w,den⟩ p x 0 % den else rq ⟨w,den⟩ p x (k+1)) else (if k=1 then rq ⟨w,den⟩ p x 1+rq ⟨w,den⟩ p x 0 % den else rq ⟨w,den⟩ p x k)) =
     fe (w.length+1) fun k=>if k<w.length then rN ⟨w,den⟩ p x k else (if k=1 then rq ⟨w,den⟩ p x 1+rq ⟨w,den⟩ p x 0 % den else rq ⟨w,den⟩ p x k):=Rh fun k hk=>by
    by_cases h6:k<w.length
    ·rw[aK h6,aK h6];rfl
    ·rw[av h6,av h6]
   simp (disch:=omega) [-getElem?_pos,wrap64,hf,qo,xK,d1,d2,au1,au2,hg];generalize hh:(fun k=>if k<w.length then rN ⟨w,den⟩ p x k else (if k=1 then rq ⟨w,den⟩ p x 1+rq ⟨w,den⟩ p x 0 % den else rq ⟨w,den⟩ p x k))=h
   have Vr:∀k,k<w.length→h k=rN ⟨w,den⟩ p x k:=fun k hk=>by rw[←hh];exact aK hk
   refine go_loop (fun m:Nat=>arP m (rq ⟨w,den⟩ p x 0 / den) [.bU] (fe (w.length+1) h) G) (fun m=>m≤w.length∧nz (rN ⟨w,den⟩ p x) m=nz (rN ⟨w,den⟩ p x) w.length) (fun m=>m) w.length rfl (by simp) (by simp) ?_
   rintro m ⟨hm,ht⟩;cases m with
   |zero =>
    simp (disch:=omega) [-getElem?_pos,wrap64,Na,af6];rw[←hW,wv,lL,← ht];rfl
   |succ m =>
    by_cases h8:rN ⟨w,den⟩ p x m=0
    ·simp (disch:=omega) [-getElem?_pos,wrap64,Na,qo,Vr m hm,h8]
     exact bu m (by simp) ⟨by omega,by rw[←ht,nz,aK h8]⟩ (by omega)
    ·simp (disch:=omega) [-getElem?_pos,wrap64,Na,qo,Vr m hm,h8,af6]
     rw[←hW,wv,lL,← ht,nz,av h8,ints,CQ];have e:(List.range (m+1)).map (fun j=>[V.int .i64 (h j)])=(List.range (m+1)).map ((fun n=>[i64 n])∘rN ⟨w,den⟩ p x) :=
      Pl fun j hj=>by rw[Vr j (by have:=EL.1 hj;omega)];rfl
     rw[e];rfl)
theorem au4{n:Nat}{f g:Nat→Int}(h:∀k,k<n→f (k+1)=g k):(List.take (n+1) ((List.range (n+1)).map fun j=>[V.int .i64 (f j)])).tail=(List.range n).map fun k=>[V.int .i64 (g k)]:=by
 rw[lZ (by simp)]
 apply xU;intro i;rw[WK];rcases cM i n with h1|h1
 ·simp[h1,h i h1]
 ·rw[mo (by simp;omega),mo (by simpa using h1)]
theorem af7{n i:Nat}(h:i<n):(List.range n)[i]?=some i:=by simp[h]
theorem au5{n:Nat}{g:Nat→Int}:List.take n ((List.range (n+1)).map fun k=>[V.int .i64 (g k)])=(List.range n).map fun k=>[V.int .i64 (g k)]:=by
 rw[←List.map_take,List.take_range,Hu (by omega)]
theorem au6(r:Rc)(hr:Rv r)(p:List Int)(hp:iZ r p)(x:Int)(G:List aP) :
  aX F 101 [rc r,wv p,i64 x] G=some (.tuple (if (0≤x∧x≤1073741824)∧wB r p x then [wv (lL r p x),i64 (mP r p x),i64 0] else [.agg [.slice (some 0) 1 []],i64 0,i64 1]),G) :=
 bL rfl rfl (by
  obtain⟨w,den⟩:=r;generalize hW:(V.tuple (if (0≤x∧x≤1073741824)∧wB ⟨w,den⟩ p x then [wv (lL ⟨w,den⟩ p x),i64 (mP ⟨w,den⟩ p x),i64 0] else [.agg [.slice (some 0) 1 []],i64 0,i64 1]))=W
  have hlen:=hr.len;have gX:=hr.pos;have lj:=hp.1;simp only at hlen gX lj;by_cases hx:0≤x∧x≤1073741824
  case neg =>
   have s6:(decide (0≤x)&&decide (x≤1073741824))=false:=by simp;omega
   simp (disch:=omega) [-getElem?_pos,wrap64,Tc,dh,s6];rw[←hW,av (fun g=>hx g.1)]
  have s6:(decide (0≤x)&&decide (x≤1073741824))=true:=by simp;exact hx
  have Vn:p.length≤w.length+1:=by omega
  have Vp:∀k,k<w.length→0≤x*nth w k∧x*nth w k≤10737418240000:=fun k hk=>by
   have h2:=hr.w k hk;simp only at h2;have h3:0≤x*nth w k:=CK hx.1 h2.1;have h4:x*nth w k≤1073741824*10000:=EI hx.2 h2.2 h2.1 (by omega)
   omega
  have Vq:∀k,0≤nth p k∧nth p k≤2251799813685248:=fun k=>by
   rcases cM k p.length with h|h
   ·exact hp.2.2 k h
   ·rw[wC h];omega
  simp (disch:=omega) [-getElem?_pos,wrap64,Tc,dh,s6,Y6,af4,af5 Vn];refine go_loop (fun i:Nat=>apS x (w.length+1) (ints w) w.length i (Rc.row ⟨w,den⟩) [.bU] (fe (w.length+1) fun k=>if k<i then rq ⟨w,den⟩ p x k else nth p k) G) (fun i=>i≤w.length∧∀k,k<i→rq ⟨w,den⟩ p x k≤1125899906842624) (fun i=>w.length-i) 0 rfl (by simp) (by simp) ?_
  rintro i ⟨hi,hj⟩;simp (disch:=omega) [-getElem?_pos,wrap64,ab3];refine bB (fun h5=>?_) (fun h5=>?_)
  ·have h5:i<w.length:=by omega
   have hq:=AU hr hp hx i;have ha:=Vp i h5;have hb:=Vq i;have hf:(fun j=>if j=i then nth p i+x*nth w i else if j<i then rq ⟨w,den⟩ p x j else nth p j)=fun j=>if j<i+1 then rq ⟨w,den⟩ p x j else nth p j:=by
    funext j;by_cases h6:j=i
    ·subst h6;simp[rq]
    ·by_cases h7:j<i
     ·rw[av h6,aK h7,aK (by omega)]
     ·rw[av h6,av h7,av (by omega)]
   simp (disch:=omega) [-getElem?_pos,wrap64,dA (l:=w),qo,hf];refine bB (fun h7=>?_) (fun h7=>?_)
   ·rw[←hW,av (fun g=>absurd (g.2 i h5) (by omega))]
   ·refine bu (i+1) (by simp) ⟨by omega,fun k hk=>?_⟩ (by omega)
    rcases cM k i with h8|h8
    ·exact hj k h8
    ·rw[show k=i by omega];omega
  ·obtain rfl:i=w.length:=by omega
   rw[aK ⟨hx,show wB ⟨w,den⟩ p x from hj⟩]at hW;have hf:(fe (w.length+1) fun k=>if k<w.length then rq ⟨w,den⟩ p x k else nth p k)=fe (w.length+1) (rq ⟨w,den⟩ p x):=Rh fun k hk=>by
    by_cases h6:k<w.length
    ·rw[aK h6]
    ·rw[av h6,show k=w.length by omega];simp[rq,wC (bY w.length)]
   have hd:=hr.den;simp only at hd;have xK:¬ den=0:=by omega
   have q0:=AU hr hp hx 0;have q1:=AU hr hp hx 1;have d1:(rq ⟨w,den⟩ p x 0).tdiv den=rq ⟨w,den⟩ p x 0 / den:=Bc q0.1;have d2:(rq ⟨w,den⟩ p x 0).tmod den=rq ⟨w,den⟩ p x 0 % den:=Wz q0.1;have d3:0≤rq ⟨w,den⟩ p x 0 / den:=Hc q0.1 (by omega)
   have d4:rq ⟨w,den⟩ p x 0 / den≤rq ⟨w,den⟩ p x 0:=KH _ q0.1;have d5:0≤rq ⟨w,den⟩ p x 0 % den:=O1 _ xK;have d6:rq ⟨w,den⟩ p x 0 % den<den:=O0 _ (by omega)
   have hg:∀k,k<w.length→(if k+1=1 then rq ⟨w,den⟩ p x 1+rq ⟨w,den⟩ p x 0 % den else rq ⟨w,den⟩ p x (k+1))=rN ⟨w,den⟩ p x k:=fun k hk=>by
    unfold rN;by_cases h7:k=0
    ·rw[aK h7,aK (by omega)]
    ·rw[av h7,av (by omega)]
   simp (disch:=omega) [-getElem?_pos,wrap64,hf,qo,xK,d1,d2];rw[au4 (f:=fun j=>if j=1 then rq ⟨w,den⟩ p x 1+rq ⟨w,den⟩ p x 0 % den else rq ⟨w,den⟩ p x j) hg]
   refine go_loop (fun m:Nat=>⟨[(6,.bj 6 0),(9,.slice none 1 ((List.range m).map fun k=>[V.int .i64 (rN ⟨w,den⟩ p x k)])),(12,i64 (rq ⟨w,den⟩ p x 0 / den))],[(6,[.bU])],[],G⟩) (fun m=>m≤w.length∧nz (rN ⟨w,den⟩ p x) m=nz (rN ⟨w,den⟩ p x) w.length) (fun m=>m) w.length rfl (by simp) (by simp) ?_
   rintro m ⟨hm,ht⟩;cases m with
   |zero =>
    simp (disch:=omega) [-getElem?_pos,wrap64,MX];rw[←hW,wv,lL,← ht];rfl
   |succ m =>
    by_cases h8:rN ⟨w,den⟩ p x m=0
    ·simp (disch:=omega) [-getElem?_pos,wrap64,MX,af7,h8,au5]
     exact bu m (by simp) ⟨by omega,by rw[←ht,nz,aK h8]⟩ (by omega)
    ·simp (disch:=omega) [-getElem?_pos,wrap64,MX,af7,h8]
     rw[←hW,wv,lL,← ht,nz,av h8,ints,CQ];rfl)
noncomputable def g6(r:Rc)(p:List Int)(x:Int):Int:=if ft r≠0 then ft r else if iZ r p then (if (0≤x∧x≤1073741824)∧wB r p x then 0 else 1) else 3
abbrev rsX(t:Option Nat)(e:Int):V:=.tuple [.agg [.slice t 1 []],i64 0,i64 e]
noncomputable def GD(t:Option Nat)(r:Rc)(p:List Int)(x:Int):V:=if g6 r p x=0 then .tuple [wv (lL r p x),i64 (mP r p x),i64 0] else rsX t (g6 r p x)
theorem Ek{t:Option Nat}{r:Rc}{p:List Int}{x e:Int}(h:g6 r p x=e)(he:e≠0):GD t r p x=rsX t e:=by
 unfold GD;rw[h,av he]
theorem J9{t:Option Nat}{r:Rc}{p:List Int}{x:Int}(h:g6 r p x=0):GD t r p x=.tuple [wv (lL r p x),i64 (mP r p x),i64 0]:=by
 unfold GD;rw[aK h]
theorem au7(r:Rc)(hr:r.w.length≤17592186044416)(p:List Int)(hl:p.length≤17592186044416)(G:List aP):aX F 100 [rc r,wv p] G=some (i64 (if ft r≠0 then ft r else if iZ r p then 0 else 3),G) :=
 bL rfl rfl (by
  have hc:=yY r hr;have hv:=af3 r hr p hl;generalize hW:(if ft r≠0 then ft r else if iZ r p then (0:Int) else 3)=W
  by_cases hz:ft r=0
  ·rw[av (by omega)]at hW
   by_cases hf:iZ r p
   ·rw[aK hf]at hW
    simp[wrap64,MW,hc,hv,hz,hf];exact hW
   ·rw[av hf]at hW
    simp[wrap64,MW,hc,hv,hz,hf];exact hW
  ·rw[aK hz]at hW
   simp[wrap64,MW,hc,hv,hz];exact hW)
theorem au8(r:Rc)(hr:r.w.length≤17592186044416)(p:List Int)(hl:p.length≤17592186044416)(x:Int):∃t,∀(G:List aP),aX F 49 [rc r,wv p,i64 x] G=some (GD t r p x,G):=by
 refine⟨if ft r=0∧iZ r p then none else some 0,fun G=>bL rfl rfl ?_⟩
 have hw:=au7 r hr p hl;by_cases hz:ft r=0
 ·rw[av (by omega)]at hw
  by_cases hf:iZ r p
  ·rw[aK hf]at hw
   rw[aK ⟨hz,hf⟩];have hs:=au6 r (vg hz) p hf x;by_cases hp:(0≤x∧x≤1073741824)∧wB r p x
   ·rw[aK hp]at hs
    rw[J9 (by unfold g6;rw[av (by omega),aK hf,aK hp])]
    simp[wrap64,Jb,hw,hs]
   ·rw[av hp]at hs
    rw[Ek (e:=1) (by unfold g6;rw[av (by omega),aK hf,av hp]) (by decide)]
    simp[wrap64,Jb,hw,hs]
  ·rw[av hf]at hw
   rw[av (fun g=>hf g.2),Ek (e:=3) (by unfold g6;rw[av (by omega),av hf]) (by decide)]
   simp[wrap64,Jb,hw]
 ·rw[aK hz]at hw
  rw[av (fun g=>hz g.1),Ek (e:=ft r) (by unfold g6;rw[aK hz]) hz]
  simp[wrap64,Jb,hw,hz]
theorem au9(r:Rc)(hr:r.w.length≤17592186044416)(p:List Int)(hl:p.length≤17592186044416)(x:Int)(G:List aP) :
  aX F 174 [rc r,wv p,.slice none 1 [[i64 x]]] G=some (.tuple (if g6 r p x=0 then [wv (lL r p x),.slice (some 0) 1 [[i64 (mP r p x)]],i64 0] else [.agg [.slice (some 0) 1 []],.slice (some 0) 1 [],i64 (g6 r p x)]),G) :=
 bL rfl rfl (by
  have hc:=yX r hr;have xL:=af2 r p hl;generalize hW:(V.tuple (if g6 r p x=0 then [wv (lL r p x),.slice (some 0) 1 [[i64 (mP r p x)]],i64 0] else [.agg [.slice (some 0) 1 []],.slice (some 0) 1 [],i64 (g6 r p x)]))=W
  by_cases hz:ft r=0
  ·by_cases hf:iZ r p
   ·have hs:=au3 r (vg hz) p hf x
    have lj:p.length≤24:=by have:=hf.1;have:=(vg hz).len;omega
    by_cases hx:0≤x∧x≤1073741824
    ·have s6:(decide (0≤x)&&decide (x≤1073741824))=true:=by simp;exact hx
     replace hs:=fun G=>hs hx G;by_cases hp:wB r p x
     ·rw[aK (show g6 r p x=0 by unfold g6;rw[av (by omega),aK hf,aK ⟨hx,hp⟩])]at hW
      rw[aK hp]at hs;simp (disch:=omega) [wrap64,F8,M7,M6,hc,xL,hz,hf,dM,s6,hs,yJ];exact hW
     ·rw[show g6 r p x=1 by unfold g6;rw[av (by omega),aK hf,av (fun g=>hp g.2)],av (by decide)]at hW
      rw[av hp]at hs;simp (disch:=omega) [wrap64,F8,M7,M6,hc,xL,hz,hf,dM,s6,hs,yJ];exact hW
    ·have s6:(decide (0≤x)&&decide (x≤1073741824))=false:=by simp;omega
     simp (disch:=omega) [wrap64,F8,M7,M6,hc,xL,hz,hf,dM,s6,yJ];rw[show g6 r p x=1 by unfold g6;rw[av (by omega),aK hf,av (fun g=>hx g.1)],av (by decide)]at hW
     exact hW
   ·rw[show g6 r p x=3 by unfold g6;rw[av (by omega),av hf],av (by decide)]at hW
    simp (disch:=omega) [wrap64,F8,hc,xL,hz,hf];exact hW
  ·rw[show g6 r p x=ft r by unfold g6;rw[aK hz],av hz]at hW
   simp (disch:=omega) [wrap64,F8,hc,xL,hz];exact hW)
theorem af9(r:Rc)(hr:r.w.length≤17592186044416)(p:List Int)(hl:p.length≤17592186044416)(x:Int)(G:List aP):aX F 137 [rc r,wv p,i64 x] G=some (GD (some 0) r p x,G) :=
 bL rfl rfl (by
  have hs:=au9 r hr p hl x;by_cases he:g6 r p x=0
  ·rw[aK he]at hs
   rw[J9 he];simp[wrap64,To,hs]
  ·rw[av he]at hs
   rw[Ek rfl he];simp[wrap64,To,hs,he])
structure Lk where
 f:Int
 t:Int
 r:Rc
 deriving Inhabited
abbrev Lk.row(l:Lk):List V:=[i64 l.f,i64 l.t,ints l.r.w,i64 l.r.den]
structure Rr where
 n:Int
 l:List Lk
abbrev nV(l:List Lk):V:=.slice none 4 (l.map Lk.row)
abbrev Rr.row(r:Rr):List V:=[i64 r.n,nV r.l]
abbrev rr(r:Rr):V:=.agg r.row
noncomputable def lE(r:Rr)(i:Nat):Int :=
 let l:=nth r.l i
 if (0≤l.f∧l.f≤r.n-1)∧(0≤l.t∧l.t≤r.n-1) then (if l.t≤l.f then 12 else if 0<i∧l.f≤(nth r.l (i-1)).f then 4 else ft l.r) else 11
noncomputable def jy(r:Rr):Int:=if r.n<1∨40<r.n then 3 else du (lE r) r.l.length 0
def im(r:Rr):Prop:=r.l.length≤17592186044416∧∀i,i<r.l.length→(nth r.l i).r.w.length≤17592186044416
theorem sx{n:Int}{l:List Lk}(h:1≤n)(h2:n≤40)(x:Int)(G:List aP):aX F 159 [.agg [i64 n,nV l],i64 x] G=some (.bool (decide (0≤x)&&decide (x≤n-1)),G) :=
 bL rfl rfl (by simp (disch:=omega) [wrap64,ac6,dM])
theorem NV(r:Rr)(hr:im r)(G:List aP):aX F 120 [rr r] G=some (i64 (jy r),G) :=
 bL rfl rfl (by
  obtain⟨n,l⟩:=r;generalize hW:jy ⟨n,l⟩=W;unfold jy at hW;simp only at hW;obtain⟨hl,hw⟩:=hr;simp only at hl hw;by_cases h1:n<1
  ·rw[aK (.inl h1)]at hW
   simp (disch:=omega) [-getElem?_pos,wrap64,M1,h1];exact hW
  by_cases h2:40<n
  ·rw[aK (.inr h2)]at hW
   simp (disch:=omega) [-getElem?_pos,wrap64,M1,h1,h2];exact hW
  rw[av (by omega)]at hW
  have h1n:1≤n:=by omega
  have h2n:n≤40:=by omega
  simp (disch:=omega) [-getElem?_pos,wrap64,M1,h1,h2];refine go_loop (fun i:Nat=>aqc (nV l) l.length i (Rr.row ⟨n,l⟩) G) (fun i=>i≤l.length∧du (lE ⟨n,l⟩) (l.length-i) i=W) (fun i=>l.length-i) 0 rfl (by simp) ⟨by omega,hW⟩ ?_
  rintro i ⟨hi,hq⟩;simp (disch:=omega) [-getElem?_pos,wrap64,ack];refine bB (fun h5=>?_) (fun h5=>?_)
  ·have h5:i<l.length:=by omega
   rw[jq h5]at hq;have hE:lE ⟨n,l⟩ i=if (0≤(nth l i).f∧(nth l i).f≤n-1)∧(0≤(nth l i).t∧(nth l i).t≤n-1) then (if (nth l i).t≤(nth l i).f then 12 else if 0<i∧(nth l i).f≤(nth l (i-1)).f then 4 else ft (nth l i).r) else 11:=rfl
   by_cases a1:0≤(nth l i).f∧(nth l i).f≤n-1
   case neg =>
    have mQ:(decide (0≤(nth l i).f)&&decide ((nth l i).f≤n-1))=false:=by simp;omega
    rw[av (fun g=>a1 g.1)]at hE;rw[hE,av (by decide)]at hq
    simp (disch:=omega) [-getElem?_pos,wrap64,aY (l:=l),sx,dh,mQ];exact hq
   have mQ:(decide (0≤(nth l i).f)&&decide ((nth l i).f≤n-1))=true:=by simp;exact a1
   by_cases a2:0≤(nth l i).t∧(nth l i).t≤n-1
   case neg =>
    have rp:(decide (0≤(nth l i).t)&&decide ((nth l i).t≤n-1))=false:=by simp;omega
    rw[av (fun g=>a2 g.2)]at hE;rw[hE,av (by decide)]at hq
    simp (disch:=omega) [-getElem?_pos,wrap64,aY (l:=l),sx,dh,mQ,rp];exact hq
   have rp:(decide (0≤(nth l i).t)&&decide ((nth l i).t≤n-1))=true:=by simp;exact a2
   rw[aK ⟨a1,a2⟩]at hE;by_cases a3:(nth l i).t≤(nth l i).f
   ·rw[aK a3]at hE
    rw[hE,av (by decide)]at hq
    simp (disch:=omega) [-getElem?_pos,wrap64,aY (l:=l),sx,dh,mQ,rp,a3];exact hq
   rw[av a3]at hE;by_cases a4:0<i∧(nth l i).f≤(nth l (i-1)).f
   ·rw[aK a4]at hE
    rw[hE,av (by decide)]at hq
    simp (disch:=omega) [-getElem?_pos,wrap64,aY (l:=l),sx,dh,mQ,rp,a3,a4.1,a4.2];exact hq
   rw[av a4]at hE;have done:ft (nth l i).r=0→du (lE ⟨n,l⟩) (l.length-(i+1)) (i+1)=W:=fun h=>by rwa [hE,h,aK rfl]at hq
   have stop:ft (nth l i).r≠0→ft (nth l i).r=W:=fun h=>by rwa [hE,av h]at hq
   rcases (by omega:¬ 0<i∨(0<i∧¬ (nth l i).f≤(nth l (i-1)).f)) with a5 | ⟨a5,a6⟩
   ·by_cases hz:ft (nth l i).r=0
    ·simp (disch:=omega) [-getElem?_pos,wrap64,aY (l:=l),sx,dh,mQ,rp,a3,a5,yX (nth l i).r (hw i h5),yY (nth l i).r (hw i h5),hz]
     exact bu (i+1) (by simp) ⟨by omega,done hz⟩ (by omega)
    ·simp (disch:=omega) [-getElem?_pos,wrap64,aY (l:=l),sx,dh,mQ,rp,a3,a5,yX (nth l i).r (hw i h5),yY (nth l i).r (hw i h5),hz]
     exact stop hz
   ·by_cases hz:ft (nth l i).r=0
    ·simp (disch:=omega) [-getElem?_pos,wrap64,aY (l:=l),sx,dh,mQ,rp,a3,a5,a6,yX (nth l i).r (hw i h5),yY (nth l i).r (hw i h5),hz]
     exact bu (i+1) (by simp) ⟨by omega,done hz⟩ (by omega)
    ·simp (disch:=omega) [-getElem?_pos,wrap64,aY (l:=l),sx,dh,mQ,rp,a3,a5,a6,yX (nth l i).r (hw i h5),yY (nth l i).r (hw i h5),hz]
     exact stop hz
  ·obtain rfl:i=l.length:=by omega
   rw[lC]at hq;exact hq)
theorem NW(r:Rr)(hr:im r)(G:List aP):aX F 90 [rr r] G=some (i64 (jy r),G) :=
 bL rfl rfl (by
  obtain⟨n,l⟩:=r;generalize hW:jy ⟨n,l⟩=W;unfold jy at hW;simp only at hW;obtain⟨hl,hw⟩:=hr;simp only at hl hw;by_cases h1:n<1
  ·rw[aK (.inl h1)]at hW
   simp (disch:=omega) [-getElem?_pos,wrap64,MS,h1];exact hW
  by_cases h2:40<n
  ·rw[aK (.inr h2)]at hW
   simp (disch:=omega) [-getElem?_pos,wrap64,MS,h1,h2];exact hW
  rw[av (by omega)]at hW
  have h1n:1≤n:=by omega
  have h2n:n≤40:=by omega
  simp (disch:=omega) [-getElem?_pos,wrap64,MS,h1,h2];refine go_loop (fun i:Nat=>apo (nV l) l.length i (Rr.row ⟨n,l⟩) G) (fun i=>i≤l.length∧du (lE ⟨n,l⟩) (l.length-i) i=W) (fun i=>l.length-i) 0 rfl (by simp) ⟨by omega,hW⟩ ?_
  rintro i ⟨hi,hq⟩;simp (disch:=omega) [-getElem?_pos,wrap64,abQ];refine bB (fun h5=>?_) (fun h5=>?_)
  ·have h5:i<l.length:=by omega
   rw[jq h5]at hq;have hE:lE ⟨n,l⟩ i=if (0≤(nth l i).f∧(nth l i).f≤n-1)∧(0≤(nth l i).t∧(nth l i).t≤n-1) then (if (nth l i).t≤(nth l i).f then 12 else if 0<i∧(nth l i).f≤(nth l (i-1)).f then 4 else ft (nth l i).r) else 11:=rfl
   by_cases a1:0≤(nth l i).f∧(nth l i).f≤n-1
   case neg =>
    have mQ:(decide (0≤(nth l i).f)&&decide ((nth l i).f≤n-1))=false:=by simp;omega
    rw[av (fun g=>a1 g.1)]at hE;rw[hE,av (by decide)]at hq
    simp (disch:=omega) [-getElem?_pos,wrap64,aY (l:=l),sx,dh,mQ];exact hq
   have mQ:(decide (0≤(nth l i).f)&&decide ((nth l i).f≤n-1))=true:=by simp;exact a1
   by_cases a2:0≤(nth l i).t∧(nth l i).t≤n-1
   case neg =>
    have rp:(decide (0≤(nth l i).t)&&decide ((nth l i).t≤n-1))=false:=by simp;omega
    rw[av (fun g=>a2 g.2)]at hE;rw[hE,av (by decide)]at hq
    simp (disch:=omega) [-getElem?_pos,wrap64,aY (l:=l),sx,dh,mQ,rp];exact hq
   have rp:(decide (0≤(nth l i).t)&&decide ((nth l i).t≤n-1))=true:=by simp;exact a2
   rw[aK ⟨a1,a2⟩]at hE;by_cases a3:(nth l i).t≤(nth l i).f
   ·rw[aK a3]at hE
    rw[hE,av (by decide)]at hq
    simp (disch:=omega) [-getElem?_pos,wrap64,aY (l:=l),sx,dh,mQ,rp,a3];exact hq
   rw[av a3]at hE;by_cases a4:0<i∧(nth l i).f≤(nth l (i-1)).f
   ·rw[aK a4]at hE
    rw[hE,av (by decide)]at hq
    simp (disch:=omega) [-getElem?_pos,wrap64,aY (l:=l),sx,dh,mQ,rp,a3,a4.1,a4.2];exact hq
   rw[av a4]at hE;have done:ft (nth l i).r=0→du (lE ⟨n,l⟩) (l.length-(i+1)) (i+1)=W:=fun h=>by rwa [hE,h,aK rfl]at hq
   have stop:ft (nth l i).r≠0→ft (nth l i).r=W:=fun h=>by rwa [hE,av h]at hq
   rcases (by omega:¬ 0<i∨(0<i∧¬ (nth l i).f≤(nth l (i-1)).f)) with a5 | ⟨a5,a6⟩
   ·by_cases hz:ft (nth l i).r=0
    ·simp (disch:=omega) [-getElem?_pos,wrap64,aY (l:=l),sx,dh,mQ,rp,a3,a5,yX (nth l i).r (hw i h5),yY (nth l i).r (hw i h5),hz]
     exact bu (i+1) (by simp) ⟨by omega,done hz⟩ (by omega)
    ·simp (disch:=omega) [-getElem?_pos,wrap64,aY (l:=l),sx,dh,mQ,rp,a3,a5,yX (nth l i).r (hw i h5),yY (nth l i).r (hw i h5),hz]
     exact stop hz
   ·by_cases hz:ft (nth l i).r=0
    ·simp (disch:=omega) [-getElem?_pos,wrap64,aY (l:=l),sx,dh,mQ,rp,a3,a5,a6,yX (nth l i).r (hw i h5),yY (nth l i).r (hw i h5),hz]
     exact bu (i+1) (by simp) ⟨by omega,done hz⟩ (by omega)
    ·simp (disch:=omega) [-getElem?_pos,wrap64,aY (l:=l),sx,dh,mQ,rp,a3,a5,a6,yX (nth l i).r (hw i h5),yY (nth l i).r (hw i h5),hz]
     exact stop hz
  ·obtain rfl:i=l.length:=by omega
   rw[lC]at hq;exact hq)
instance:Inhabited Dm:=⟨⟨⟨[],0,0,0,0,0⟩,[],[],0⟩⟩
structure Si where
 n:Int
 d:Dm
 deriving Inhabited
abbrev Si.row(x:Si):List V:=i64 x.n::x.d.row
abbrev ru(l:List Si):V:=.slice none 10 (l.map Si.row)
structure Cs where
 r:Rr
 s:List Si
abbrev Cs.row(c:Cs):List V:=[i64 c.r.n,nV c.r.l,ru c.s]
abbrev cs(c:Cs):V:=.agg c.row
def AV(c:Cs)(i:Nat):Int :=
 let x:=nth c.s i
 if 0≤x.n∧x.n<c.r.n then (if 0<i∧x.n≤(nth c.s (i-1)).n then 4 else fW x.d) else 41
noncomputable def eQ(c:Cs):Int:=if jy c.r≠0 then jy c.r else if 12<c.r.n then 41 else if 6<c.s.length then 10 else du (AV c) c.s.length 0
structure Fl where
 t:Int
 d:List Ds
 w:List (List Int)
abbrev ox(l:List Ds):V:=.slice none 4 (l.map Ds.row)
abbrev j0(l:List (List Int)):V:=.slice none 1 (l.map fun p=>[ints p])
abbrev Fl.row(f:Fl):List V:=[i64 f.t,ox f.d,j0 f.w]
abbrev fl(f:Fl):V:=.agg f.row
def kq(f:Fl):Prop:=∀i,(nth f.w i).length≤17592186044416
def oz(c:Cs)(l:List Ds):Prop:=l.length=c.s.length∧∀i,i<c.s.length→fW (nth c.s i).d=0∧iU (nth c.s i).d (nth l i)
noncomputable instance {c:Cs} {l:List Ds}:Decidable (oz c l):=Classical.propDecidable _
def El(c:Cs)(l:List (List Int)):Prop:=l.length=c.r.l.length∧∀i,i<c.r.l.length→ft (nth c.r.l i).r=0∧iZ (nth c.r.l i).r (nth l i)
noncomputable instance {c:Cs} {l:List (List Int)}:Decidable (El c l):=Classical.propDecidable _
def fP(c:Cs)(f:Fl):Prop:=(0≤f.t∧f.t≤16777216)∧oz c f.d∧El c f.w
noncomputable instance {c:Cs} {f:Fl}:Decidable (fP c f):=Classical.propDecidable _
theorem NX(c:Cs)(hr:im c.r)(G:List aP):aX F 77 [cs c] G=some (i64 (eQ c),G) :=
 bL rfl rfl (by
  obtain⟨⟨n,l⟩,s⟩:=c;generalize hW:eQ ⟨⟨n,l⟩,s⟩=W;unfold eQ at hW;simp only at hW hr;have hk:=NV ⟨n,l⟩ hr;have ld:=NW ⟨n,l⟩ hr;by_cases h1:jy ⟨n,l⟩=0
  case neg =>
   rw[aK h1]at hW;simp (disch:=omega) [-getElem?_pos,wrap64,Jd,hk,ld,h1];exact hW
  rw[av (by omega)]at hW
  by_cases h2:12<n
  ·rw[aK h2]at hW
   simp (disch:=omega) [-getElem?_pos,wrap64,Jd,hk,ld,h1,h2];exact hW
  rw[av h2]at hW;by_cases h3:6<s.length
  ·rw[aK h3]at hW
   have iH:(6:Int)<s.length:=by omega
   simp (disch:=omega) [-getElem?_pos,wrap64,Jd,hk,ld,h1,h2,iH];exact hW
  rw[av h3]at hW;have iH:¬ (6:Int)<s.length:=by omega
  simp (disch:=omega) [-getElem?_pos,wrap64,Jd,hk,ld,h1,h2,iH];refine go_loop (fun i:Nat=>apf (ru s) s.length i (Cs.row ⟨⟨n,l⟩,s⟩) G) (fun i=>i≤s.length∧du (AV ⟨⟨n,l⟩,s⟩) (s.length-i) i=W) (fun i=>s.length-i) 0 rfl (by simp) ⟨by omega,hW⟩ ?_
  rintro i ⟨hi,hq⟩;simp (disch:=omega) [-getElem?_pos,wrap64,abE];refine bB (fun h5=>?_) (fun h5=>?_)
  ·have h5:i<s.length:=by omega
   rw[jq h5]at hq;have hE:AV ⟨⟨n,l⟩,s⟩ i=if 0≤(nth s i).n∧(nth s i).n<n then (if 0<i∧(nth s i).n≤(nth s (i-1)).n then 4 else fW (nth s i).d) else 41:=rfl
   by_cases a1:(nth s i).n<0
   ·rw[av (by omega)]at hE
    rw[hE,av (by decide)]at hq
    simp (disch:=omega) [-getElem?_pos,wrap64,aY (l:=s),a1];exact hq
   by_cases a2:n≤(nth s i).n
   ·rw[av (by omega)]at hE
    rw[hE,av (by decide)]at hq
    simp (disch:=omega) [-getElem?_pos,wrap64,aY (l:=s),a1,a2];exact hq
   rw[aK (by omega)]at hE
   by_cases a4:0<i∧(nth s i).n≤(nth s (i-1)).n
   ·rw[aK a4]at hE
    rw[hE,av (by decide)]at hq
    simp (disch:=omega) [-getElem?_pos,wrap64,aY (l:=s),a1,a2,a4.1,a4.2];exact hq
   rw[av a4]at hE;have done:fW (nth s i).d=0→du (AV ⟨⟨n,l⟩,s⟩) (s.length-(i+1)) (i+1)=W:=fun h=>by rwa [hE,h,aK rfl]at hq
   have stop:fW (nth s i).d≠0→fW (nth s i).d=W:=fun h=>by rwa [hE,av h]at hq
   have hd:=Ef (nth s i).d;have xh:=Eg (nth s i).d;rcases (by omega:¬ 0<i∨(0<i∧¬ (nth s i).n≤(nth s (i-1)).n)) with a5 | ⟨a5,a6⟩
   ·by_cases hz:fW (nth s i).d=0
    ·simp (disch:=omega) [-getElem?_pos,wrap64,aY (l:=s),a1,a2,a5,hd,xh,hz]
     exact bu (i+1) (by simp) ⟨by omega,done hz⟩ (by omega)
    ·simp (disch:=omega) [-getElem?_pos,wrap64,aY (l:=s),a1,a2,a5,hd,xh,hz]
     exact stop hz
   ·by_cases hz:fW (nth s i).d=0
    ·simp (disch:=omega) [-getElem?_pos,wrap64,aY (l:=s),a1,a2,a5,a6,hd,xh,hz]
     exact bu (i+1) (by simp) ⟨by omega,done hz⟩ (by omega)
    ·simp (disch:=omega) [-getElem?_pos,wrap64,aY (l:=s),a1,a2,a5,a6,hd,xh,hz]
     exact stop hz
  ·obtain rfl:i=s.length:=by omega
   rw[lC]at hq;exact hq)
theorem GG(c:Cs)(hr:im c.r)(G:List aP):aX F 44 [cs c] G=some (i64 (eQ c),G) :=
 bL rfl rfl (by
  obtain⟨⟨n,l⟩,s⟩:=c;generalize hW:eQ ⟨⟨n,l⟩,s⟩=W;unfold eQ at hW;simp only at hW hr;have hk:=NV ⟨n,l⟩ hr;have ld:=NW ⟨n,l⟩ hr;by_cases h1:jy ⟨n,l⟩=0
  case neg =>
   rw[aK h1]at hW;simp (disch:=omega) [-getElem?_pos,wrap64,Ja,hk,ld,h1];exact hW
  rw[av (by omega)]at hW
  by_cases h2:12<n
  ·rw[aK h2]at hW
   simp (disch:=omega) [-getElem?_pos,wrap64,Ja,hk,ld,h1,h2];exact hW
  rw[av h2]at hW;by_cases h3:6<s.length
  ·rw[aK h3]at hW
   have iH:(6:Int)<s.length:=by omega
   simp (disch:=omega) [-getElem?_pos,wrap64,Ja,hk,ld,h1,h2,iH];exact hW
  rw[av h3]at hW;have iH:¬ (6:Int)<s.length:=by omega
  simp (disch:=omega) [-getElem?_pos,wrap64,Ja,hk,ld,h1,h2,iH];refine go_loop (fun i:Nat=>aol (ru s) s.length i (Cs.row ⟨⟨n,l⟩,s⟩) G) (fun i=>i≤s.length∧du (AV ⟨⟨n,l⟩,s⟩) (s.length-i) i=W) (fun i=>s.length-i) 0 rfl (by simp) ⟨by omega,hW⟩ ?_
  rintro i ⟨hi,hq⟩;simp (disch:=omega) [-getElem?_pos,wrap64,aa0];refine bB (fun h5=>?_) (fun h5=>?_)
  ·have h5:i<s.length:=by omega
   rw[jq h5]at hq;have hE:AV ⟨⟨n,l⟩,s⟩ i=if 0≤(nth s i).n∧(nth s i).n<n then (if 0<i∧(nth s i).n≤(nth s (i-1)).n then 4 else fW (nth s i).d) else 41:=rfl
   by_cases a1:(nth s i).n<0
   ·rw[av (by omega)]at hE
    rw[hE,av (by decide)]at hq
    simp (disch:=omega) [-getElem?_pos,wrap64,aY (l:=s),a1];exact hq
   by_cases a2:n≤(nth s i).n
   ·rw[av (by omega)]at hE
    rw[hE,av (by decide)]at hq
    simp (disch:=omega) [-getElem?_pos,wrap64,aY (l:=s),a1,a2];exact hq
   rw[aK (by omega)]at hE
   by_cases a4:0<i∧(nth s i).n≤(nth s (i-1)).n
   ·rw[aK a4]at hE
    rw[hE,av (by decide)]at hq
    simp (disch:=omega) [-getElem?_pos,wrap64,aY (l:=s),a1,a2,a4.1,a4.2];exact hq
   rw[av a4]at hE;have done:fW (nth s i).d=0→du (AV ⟨⟨n,l⟩,s⟩) (s.length-(i+1)) (i+1)=W:=fun h=>by rwa [hE,h,aK rfl]at hq
   have stop:fW (nth s i).d≠0→fW (nth s i).d=W:=fun h=>by rwa [hE,av h]at hq
   have hd:=Ef (nth s i).d;have xh:=Eg (nth s i).d;rcases (by omega:¬ 0<i∨(0<i∧¬ (nth s i).n≤(nth s (i-1)).n)) with a5 | ⟨a5,a6⟩
   ·by_cases hz:fW (nth s i).d=0
    ·simp (disch:=omega) [-getElem?_pos,wrap64,aY (l:=s),a1,a2,a5,hd,xh,hz]
     exact bu (i+1) (by simp) ⟨by omega,done hz⟩ (by omega)
    ·simp (disch:=omega) [-getElem?_pos,wrap64,aY (l:=s),a1,a2,a5,hd,xh,hz]
     exact stop hz
   ·by_cases hz:fW (nth s i).d=0
    ·simp (disch:=omega) [-getElem?_pos,wrap64,aY (l:=s),a1,a2,a5,a6,hd,xh,hz]
     exact bu (i+1) (by simp) ⟨by omega,done hz⟩ (by omega)
    ·simp (disch:=omega) [-getElem?_pos,wrap64,aY (l:=s),a1,a2,a5,a6,hd,xh,hz]
     exact stop hz
  ·obtain rfl:i=s.length:=by omega
   rw[lC]at hq;exact hq)
structure yZ(c:Cs):Prop where
 k:jy c.r=0
 n:c.r.n≤12
 s:c.s.length≤6
 site:∀i,i<c.s.length→AV c i=0
theorem jM{c:Cs}(h:eQ c=0):yZ c:=by
 unfold eQ at h;split at h
 ·rename_i h1;exact absurd h h1
 split at h
 ·cases h
 split at h
 ·cases h
 rename_i h1 h2 h3;exact⟨iu h1,by omega,by omega,fun i hi=>sj h i (by omega) (by omega)⟩
theorem aga(c:Cs)(hs:c.s.length≤1000)(l:List Ds)(G:List aP):aX F 78 [cs c,ox l] G=some (.bool (decide (oz c l)),G) :=
 bL rfl rfl (by
  obtain⟨r,s⟩:=c;simp only at hs;generalize hW:decide (oz ⟨r,s⟩ l)=W;have no:¬ oz ⟨r,s⟩ l→W=false:=fun h=>by rw[←hW];simp[h]
  have yes:oz ⟨r,s⟩ l→W=true:=fun h=>by rw[←hW];simp[h]
  unfold oz at no yes;simp only at no yes;by_cases h1:l.length=s.length
  case neg =>
   have ed:¬ (l.length:Int)=s.length:=by omega
   simp (disch:=omega) [-getElem?_pos,wrap64,S4,ed];exact no (fun g=>h1 g.1)
  have ed:(l.length:Int)=s.length:=by omega
  simp (disch:=omega) [-getElem?_pos,wrap64,S4,ed];refine go_loop (fun i:Nat=>aph (ox l) (ru s) s.length i G) (fun i=>i≤s.length∧∀j,j<i→fW (nth s j).d=0∧iU (nth s j).d (nth l j)) (fun i=>s.length-i) 0 rfl (by simp) (by simp) ?_
  rintro i ⟨hi,hj⟩;simp (disch:=omega) [-getElem?_pos,wrap64,abF];refine bB (fun h5=>?_) (fun h5=>?_)
  ·have h5:i<s.length:=by omega
   have h6:i<l.length:=by omega
   by_cases h7:fW (nth s i).d=0∧iU (nth s i).d (nth l i)
   ·simp (disch:=omega) [-getElem?_pos,wrap64,aY (l:=s),aY (l:=l),afG,h7.1,h7.2]
    refine bu (i+1) (by simp) ⟨by omega,fun j h8=>?_⟩ (by omega)
    rcases cM j i with h9|h9
    ·exact hj j h9
    ·rwa [show j=i by omega]
   ·have h7':decide (fW (nth s i).d=0∧iU (nth s i).d (nth l i))=false:=by simp only[h7,decide_false]
    have hv:=afG (nth s i).d (nth l i);rw[h7']at hv;simp (disch:=omega) [-getElem?_pos,wrap64,aY (l:=s),aY (l:=l),hv];exact no (fun g=>h7 (g.2 i h5))
  ·obtain rfl:i=s.length:=by omega
   exact yes ⟨h1,hj⟩)
theorem agb(c:Cs)(hs:c.s.length≤1000)(hr:im c.r)(f:Fl)(hf:kq f)(G:List aP):aX F 80 [cs c,fl f] G=some (.bool (decide (fP c f)),G) :=
 bL rfl rfl (by
  have fm:=aga c hs f.d;obtain⟨⟨n,l⟩,s⟩:=c;obtain⟨t,d,w⟩:=f;generalize hW:decide (fP ⟨⟨n,l⟩,s⟩ ⟨t,d,w⟩)=W;have no:¬ fP ⟨⟨n,l⟩,s⟩ ⟨t,d,w⟩→W=false:=fun h=>by rw[←hW];simp[h]
  have yes:fP ⟨⟨n,l⟩,s⟩ ⟨t,d,w⟩→W=true:=fun h=>by rw[←hW];simp[h]
  unfold fP El at no yes;simp only at no yes fm;unfold kq at hf;obtain⟨qj,lh⟩:=hr;simp only at hf qj lh;by_cases a1:t<0
  ·simp (disch:=omega) [-getElem?_pos,wrap64,FZ,a1]
   exact no (by omega)
  by_cases a2:16777216<t
  ·simp (disch:=omega) [-getElem?_pos,wrap64,FZ,a1,a2]
   exact no (by omega)
  by_cases a3:oz ⟨⟨n,l⟩,s⟩ d
  case neg =>
   simp (disch:=omega) [-getElem?_pos,wrap64,FZ,a1,a2,fm,a3];exact no (fun g=>a3 g.2.1)
  by_cases a4:w.length=l.length
  case neg =>
   have Em:¬ (w.length:Int)=l.length:=by omega
   simp (disch:=omega) [-getElem?_pos,wrap64,FZ,a1,a2,fm,a3,Em];exact no (fun g=>a4 g.2.2.1)
  have Em:(w.length:Int)=l.length:=by omega
  simp (disch:=omega) [-getElem?_pos,wrap64,FZ,a1,a2,fm,a3,Em];refine go_loop (fun i:Nat=>apj (nV l) l.length i (Fl.row ⟨t,d,w⟩) G) (fun i=>i≤l.length∧∀j,j<i→ft (nth l j).r=0∧iZ (nth l j).r (nth w j)) (fun i=>l.length-i) 0 rfl (by simp) (by simp) ?_
  rintro i ⟨hi,hj⟩;simp (disch:=omega) [-getElem?_pos,wrap64,abG];refine bB (fun h5=>?_) (fun h5=>?_)
  ·have h5:i<l.length:=by omega
   have h6:i<w.length:=by omega
   have hv:=auY (nth l i).r (lh i h5) (nth w i) (hf i);by_cases h7:ft (nth l i).r=0∧iZ (nth l i).r (nth w i)
   ·rw[dD h7]at hv
    simp (disch:=omega) [-getElem?_pos,wrap64,aY (l:=l),aY (l:=w),hv];refine bu (i+1) (by simp) ⟨by omega,fun j h8=>?_⟩ (by omega)
    rcases cM j i with h9|h9
    ·exact hj j h9
    ·rwa [show j=i by omega]
   ·rw[decide_eq_false h7]at hv
    simp (disch:=omega) [-getElem?_pos,wrap64,aY (l:=l),aY (l:=w),hv];exact no (fun g=>h7 (g.2.2.2 i h5))
  ·obtain rfl:i=l.length:=by omega
   exact yes ⟨by omega,a3,a4,hj⟩)
theorem agc(c:Cs)(hr:im c.r)(f:Fl)(hf:kq f)(G:List aP):aX F 38 [cs c,fl f] G=some (.bool (decide (eQ c=0∧fP c f)),G) :=
 bL rfl rfl (by
  have h1:=NX c hr;by_cases hz:eQ c=0
  ·have h2:=agb c (by have:=(jM hz).s;omega) hr f hf
   simp[wrap64,SF,h1,h2,hz]
  ·simp[wrap64,SF,h1,hz])
noncomputable def gq(c:Cs)(f:Fl):Int:=if eQ c≠0 then eQ c else if fP c f then 0 else 50
theorem Vs(c:Cs)(hr:im c.r)(f:Fl)(hf:kq f)(G:List aP):aX F 42 [cs c,fl f] G=some (i64 (gq c f),G) :=
 bL rfl rfl (by
  have h1:=NX c hr;unfold gq;by_cases hz:eQ c=0
  ·have h2:=agb c (by have:=(jM hz).s;omega) hr f hf
   by_cases hf:fP c f
   ·simp[wrap64,MM,h1,h2,hz,hf]
   ·simp[wrap64,MM,h1,h2,hz,hf]
  ·simp[wrap64,MM,h1,hz])
theorem GH(x m:Int)(G:List aP):aX F 92 [i64 x,i64 m] G=some (.bool (decide (0≤x)&&decide (x≤m)),G) :=
 bL rfl rfl (by simp +contextual [wrap64,abT])
theorem Ka(c:Cs)(hr:im c.r)(f:Fl)(hf:kq f)(G:List aP):aX F 45 [cs c,fl f] G=some (.bool (decide (eQ c=0∧fP c f)),G) :=
 bL rfl rfl (by
  have hc:=GG c hr;obtain⟨⟨n,l⟩,s⟩:=c;obtain⟨t,d,w⟩:=f;generalize hW:decide (eQ ⟨⟨n,l⟩,s⟩=0∧fP ⟨⟨n,l⟩,s⟩ ⟨t,d,w⟩)=W;have no:¬ (eQ ⟨⟨n,l⟩,s⟩=0∧fP ⟨⟨n,l⟩,s⟩ ⟨t,d,w⟩)→W=false:=fun h=>by rw[←hW];simp[h]
  have yes:(eQ ⟨⟨n,l⟩,s⟩=0∧fP ⟨⟨n,l⟩,s⟩ ⟨t,d,w⟩)→W=true:=fun h=>by rw[←hW];simp[h]
  unfold fP El oz at no yes;simp only at no yes;unfold kq at hf;obtain⟨qj,lh⟩:=hr;simp only at hf qj lh;by_cases a0:eQ ⟨⟨n,l⟩,s⟩=0
  case neg =>
   simp (disch:=omega) [-getElem?_pos,wrap64,FU,hc,a0];exact no (fun g=>a0 g.1)
  have GI:=(jM a0).s;simp only at GI;by_cases a1:0≤t∧t≤16777216
  case neg =>
   have mQ:(decide (0≤t)&&decide (t≤16777216))=false:=by simp;omega
   simp (disch:=omega) [-getElem?_pos,wrap64,FU,hc,a0,GH,mQ];exact no (fun g=>a1 g.2.1)
  have mQ:(decide (0≤t)&&decide (t≤16777216))=true:=by simp;exact a1
  by_cases a3:d.length=s.length
  case neg =>
   have NY:¬ (d.length:Int)=s.length:=by omega
   simp (disch:=omega) [-getElem?_pos,wrap64,FU,hc,a0,GH,mQ,NY];exact no (fun g=>a3 g.2.2.1.1)
  have NY:(d.length:Int)=s.length:=by omega
  by_cases a4:w.length=l.length
  case neg =>
   have Em:¬ (w.length:Int)=l.length:=by omega
   simp (disch:=omega) [-getElem?_pos,wrap64,FU,hc,a0,GH,mQ,NY,Em];exact no (fun g=>a4 g.2.2.2.1)
  have Em:(w.length:Int)=l.length:=by omega
  simp (disch:=omega) [-getElem?_pos,wrap64,FU,hc,a0,GH,mQ,NY,Em];refine go_loop (fun i:Nat=>aon (ru s) s.length i (Cs.row ⟨⟨n,l⟩,s⟩) (Fl.row ⟨t,d,w⟩) G) (fun i=>i≤s.length∧∀j,j<i→fW (nth s j).d=0∧iU (nth s j).d (nth d j)) (fun i=>s.length-i) 0 rfl (by simp) (by simp) ?_
  rintro i ⟨hi,hj⟩;simp (disch:=omega) [-getElem?_pos,wrap64,aa1];refine bB (fun h5=>?_) (fun h5=>?_)
  ·have h5:i<s.length:=by omega
   have h6:i<d.length:=by omega
   have hv:=UX (nth s i).d (nth d i);by_cases h7:fW (nth s i).d=0∧iU (nth s i).d (nth d i)
   ·rw[dD h7]at hv
    simp (disch:=omega) [-getElem?_pos,wrap64,aY (l:=s),aY (l:=d),hv];refine bu (i+1) (by simp) ⟨by omega,fun j h8=>?_⟩ (by omega)
    rcases cM j i with h9|h9
    ·exact hj j h9
    ·rwa [show j=i by omega]
   ·rw[decide_eq_false h7]at hv
    simp (disch:=omega) [-getElem?_pos,wrap64,aY (l:=s),aY (l:=d),hv];exact no (fun g=>h7 (g.2.2.1.2 i h5))
  ·obtain rfl:i=s.length:=by omega
   have qn:=hj;refine go_loop (fun i:Nat=>aop (nV l) l.length i (Fl.row ⟨t,d,w⟩) G) (fun i=>i≤l.length∧∀j,j<i→ft (nth l j).r=0∧iZ (nth l j).r (nth w j)) (fun i=>l.length-i) 0 rfl (by simp) (by simp) ?_
   rintro i ⟨hi,hj⟩;simp (disch:=omega) [-getElem?_pos,wrap64,aa2];refine bB (fun h5=>?_) (fun h5=>?_)
   ·have h5:i<l.length:=by omega
    have h6:i<w.length:=by omega
    have hv:=af3 (nth l i).r (lh i h5) (nth w i) (hf i);by_cases h7:ft (nth l i).r=0∧iZ (nth l i).r (nth w i)
    ·rw[dD h7]at hv
     simp (disch:=omega) [-getElem?_pos,wrap64,aY (l:=l),aY (l:=w),hv];refine bu (i+1) (by simp) ⟨by omega,fun j h8=>?_⟩ (by omega)
     rcases cM j i with h9|h9
     ·exact hj j h9
     ·rwa [show j=i by omega]
    ·rw[decide_eq_false h7]at hv
     simp (disch:=omega) [-getElem?_pos,wrap64,aY (l:=l),aY (l:=w),hv];exact no (fun g=>h7 (g.2.2.2.2 i h5))
   ·obtain rfl:i=l.length:=by omega
    exact yes ⟨a0,a1,⟨a3,qn⟩,a4,hj⟩)
end Go.Proofs.YtcelmhaoipbdiaaGreat
namespace Go.Proofs.YtcelmhaoipbdiaaGreat
set_option linter.all false
open Go.Vm
theorem Kb{α:Type}{row:α→List V}{k:Nat}(hk:∀a,(row a).length=k):∀l:List α,(l.map row).flatten.length=l.length*k
 |[]=>by simp
 |a::l=>by
  rw[oH,uw,oG,hk,Kb hk l,tx,qC,KZ,Pw]
theorem NZ{α:Type}[Inhabited α]{row:α→List V}{k:Nat}(hk:∀a,(row a).length=k):∀{l:List α} {i:Nat},i<l.length→((l.map row).flatten.drop (i*k)).take k=row (nth l i)
 |[],i,h=>by simp at h
 |a::l,0,_=>by
  rw[Hw,vn,oH,uw,List.take_append_of_le_length (by rw[hk];exact bY _),lZ (by rw[hk];exact bY _)]
  rfl
 |a::l,i+1,h=>by
  have ih:=NZ hk (l:=l) (i:=i) (by simpa using h)
  rw[oH,uw,show(i+1)*k=k+i*k by rw[qC,KZ,Pw],← zI,List.drop_left' (hk a),ih]
  rfl
theorem Vt{x:V}:∀{vs cs:List V} {off:Nat},jn (x::cs) (off+1) vs=x::jn cs off vs
 |[],_,_=>rfl
 |v::vs,cs,off=>by
  simp only[jn,List.set_cons_succ];exact Vt
theorem agd:∀{p:List V} {cs vs:List V} {off:Nat},jn (p++cs) (p.length+off) vs=p++jn cs off vs
 |[],cs,vs,off=>by simp
 |a::p,cs,vs,off=>by
  rw[uu,tx,show p.length+1+off=(p.length+off)+1 by omega,Vt,agd,uu]
theorem age:∀{vs p cs:List V},p.length=vs.length→jn (p++cs) 0 vs=vs++cs
 |[],p,cs,h=>by
  have:p=[]:=a8.1 (by simpa using h)
  subst this;rfl
 |v::vs,[],cs,h=>by simp at h
 |v::vs,a::p,cs,h=>by
  simp only[jn,uu,KT];rw[Vt,age (by simpa using h)]
theorem Kc{α:Type}{row:α→List V}{k:Nat}(hk:∀a,(row a).length=k){x:α}:∀{l:List α} {i:Nat},i<l.length→jn (l.map row).flatten (i*k) (row x)=((l.set i x).map row).flatten
 |[],i,h=>by simp at h
 |a::l,0,_=>by
  rw[Hw,oH,uw,age (by rw[hk,hk])]
  rfl
 |a::l,i+1,h=>by
  have ih:=Kc hk (x:=x) (l:=l) (i:=i) (by simpa using h)
  rw[oH,uw,show(i+1)*k=(row a).length+i*k by rw[hk,qC,KZ,Pw],agd,ih]
  rfl
theorem ui{α:Type}[Inhabited α]{l:List α}{i j:Nat}{x:α}(h:i<l.length):nth (l.set i x) j=if j=i then x else nth l j:=by
 unfold nth;rw[WH,WH,kK];by_cases hj:j=i
 ·subst hj;simp[h]
 ·rw[av hj,av (fun e=>hj e.symm)]
end Go.Proofs.YtcelmhaoipbdiaaGreat
namespace Go.Proofs.YtcelmhaoipbdiaaGreat
set_option linter.all false
open Go.Vm
attribute [local simp] ly lz kF lx
theorem N3{α:Type}{row:α→List V}{k:Nat}(hk:∀a,(row a).length=k):∀{l:List α} {cs:List V} {off:Nat},cs.drop off=(l.map row).flatten→chunks k cs off l.length=l.map row
 |[],cs,off,h=>by simp[chunks]
 |a::l,cs,off,h=>by
  rw[oH,uw]at h;have h2:cs.drop (off+k)=(l.map row).flatten:=by
   rw[←zI,h,List.drop_left' (hk a)]
  rw[tx,chunks,N3 hk h2,h,List.take_left' (hk a),oH]
theorem N4{α:Type}{row:α→List V}{sh:Sh}(h:∀a,nH sh (row a)=some (row a)):∀l:List α,lb sh (l.map row)=some (l.map row)
 |[]=>rfl
 |a::l=>by simp[lb,h,N4 h l]
def iq(l:List Ds):List V:=(l.map Ds.row).flatten
theorem agf(l:List Ds):(l.map Ds.row).flatten=iq l:=rfl
@[simp] theorem aDA{l:List Ds}:(iq l).length=l.length*4:=Kb (row:=Ds.row) (fun _=>rfl) l
theorem p9{l:List Ds}{n:Nat}(h:n=l.length):lb [none,none,some 3,some 2] (chunks 4 (iq l) 0 n)=some (l.map Ds.row):=by
 subst h;rw[N3 (row:=Ds.row) (fun _=>rfl) rfl];exact N4 (fun a=>by simp) l
theorem agh{l:List Ds}{a:Ds}:iq l++a.row=iq (l++[a]):=by simp[iq]
def jN(l:List (List Int)):List V:=(l.map fun p=>[ints p]).flatten
theorem agi(l:List (List Int)):(l.map fun p=>[ints p]).flatten=jN l:=rfl
@[simp] theorem aDB{l:List (List Int)}:(jN l).length=l.length:=by
 have:=Kb (row:=fun p=>[ints p]) (k:=1) (fun _=>rfl) l
 rwa [Hv]at this
theorem sA{l:List (List Int)}{n:Nat}(h:n=l.length):lb [some 1] (chunks 1 (jN l) 0 n)=some (l.map fun p=>[ints p]):=by
 subst h;rw[N3 (row:=fun p=>[ints p]) (fun _=>rfl) rfl];exact N4 (fun a=>by simp) l
theorem agj{l:List (List Int)}{a:List Int}:jN l++[ints a]=jN (l++[a]):=by simp[jN]
theorem N5{α:Type}{row:α→List V}{p:V→Bool}(h:∀a,(row a).all p=true):∀l:List α,(l.map row).flatten.all p=true
 |[]=>rfl
 |a::l=>by rw[oH,uw,List.all_append,h,N5 h l];rfl
theorem GJ{α:Type}{row:α→List V}{f:V→V}(h:∀a,(row a).map f=row a):∀l:List α,(l.map row).flatten.map f=(l.map row).flatten
 |[]=>rfl
 |a::l=>by rw[oH,uw,Hn,h,GJ h l]
@[simp] theorem aDC{l:List Ds}{d:Nat}:((iq l).all fun v => !V.cI d v)=true:=N5 (row:=Ds.row) (fun a=>by simp) l
@[simp] theorem aDD{l:List (List Int)}{d:Nat}:((jN l).all fun v => !V.cI d v)=true:=N5 (row:=fun p=>[ints p]) (fun a=>by simp) l
@[simp] theorem aDE{l:List Ds}{a b:Nat}:(iq l).map (V.jR a b)=iq l:=GJ (row:=Ds.row) (fun a=>by simp) l
@[simp] theorem aDF{l:List (List Int)}{a b:Nat}:(jN l).map (V.jR a b)=jN l:=GJ (row:=fun p=>[ints p]) (fun a=>by simp) l
@[simp] theorem aDG{l:List Ds}:(iq l).map V.jm=iq l:=GJ (row:=Ds.row) (fun a=>by simp) l
@[simp] theorem aDH{l:List (List Int)}:(jN l).map V.jm=jN l:=GJ (row:=fun p=>[ints p]) (fun a=>by simp) l
def Kd(l:List Ds):Prop:=l.length≤1000∧∀i,i<l.length→(nth l i).u.length≤1000∧(nth l i).g.length≤1000
def Vu(l:List (List Int)):Prop:=l.length≤1000∧∀i,i<l.length→(nth l i).length≤17592186044416
theorem Vv(l:List Ds)(h:Kd l)(G:List aP):aX F 57 [ox l] G=some (.c6 G.length 4 l.length,G++[.cells (iq l)]) :=
 bL rfl rfl (by
  obtain⟨hl,hs⟩:=h;simp (disch:=omega) [-getElem?_pos,wrap64,abd];refine go_loop (fun i:Nat=>aoC i (ox l) l.length i (iq (l.take i)) G) (fun i=>i≤l.length) (fun i=>l.length-i) 0 rfl (by simp[iq]) (by simp) ?_
  rintro i hi;simp (disch:=omega) [-getElem?_pos,wrap64,abc];refine bB (fun h5=>?_) (fun h5=>?_)
  ·have h5:i<l.length:=by omega
   have hu:=auT (nth l i).u (hs i h5).1;have hg:=auU (nth l i).g (hs i h5).2;have hm:Nat.min i l.length=i:=Hu hi;simp (disch:=omega) [-getElem?_pos,wrap64,aY (l:=l),hu,hg];exact bu (i+1) (by simp[jr h5,← agh]) (by omega) (by omega)
  ·obtain rfl:i=l.length:=by omega
   simp (disch:=omega) [-getElem?_pos,wrap64,p9,agf,pt])
theorem N6(l:List Int)(hl:l.length≤17592186044416)(G:List aP):aX F 88 [ints l] G=some (.slice (some 0) 1 (l.map fun n=>[i64 n]),G):=by
 cases l with
 |nil =>
  refine Rf (p:=0) (m:=1) rfl rfl rfl rfl ?_ ?_
  ·simp (disch:=omega) [wrap64,MR]
  ·simp (disch:=omega) [wrap64,MR]
 |cons a l =>
  have hl:l.length+1≤17592186044416:=by simpa using hl
  show aX F 88 [.slice none 1 ([i64 a]::l.map fun n=>[i64 n])] G=some (.slice (some 0) 1 ([i64 a]::l.map fun n=>[i64 n]),G);refine Rg (p:=0) rfl rfl rfl (fun m=>by simp) ?_
  simp (disch:=omega) [wrap64,MR]
theorem agk(l:List (List Int))(h:Vu l)(G:List aP):aX F 58 [j0 l] G=some (.c6 G.length 1 l.length,G++[.cells (jN l)]) :=
 bL rfl rfl (by
  obtain⟨hl,hs⟩:=h;simp (disch:=omega) [-getElem?_pos,wrap64,abf];refine go_loop (fun i:Nat=>aoE i (j0 l) l.length i (jN (l.take i)) G) (fun i=>i≤l.length) (fun i=>l.length-i) 0 rfl (by simp[jN]) (by simp) ?_
  rintro i hi;simp (disch:=omega) [-getElem?_pos,wrap64,abe];refine bB (fun h5=>?_) (fun h5=>?_)
  ·have h5:i<l.length:=by omega
   have hu:=N6 (nth l i) (hs i h5);have hm:Nat.min i l.length=i:=Hu hi;simp (disch:=omega) [-getElem?_pos,wrap64,aY (l:=l),hu];exact bu (i+1) (by simp[jr h5,← agj]) (by omega) (by omega)
  ·obtain rfl:i=l.length:=by omega
   simp (disch:=omega) [-getElem?_pos,wrap64,sA,agi,pt])
theorem agl(l:List Ds)(h:Kd l)(G:List aP):aX F 41 [ox l] G=some (.c6 G.length 4 l.length,G++[.cells (iq l)]) :=
 bL rfl rfl (by
  obtain⟨hl,hs⟩:=h;simp (disch:=omega) [-getElem?_pos,wrap64,aaY];refine go_loop (fun i:Nat=>aog i (ox l) l.length i (iq (l.take i)) G) (fun i=>i≤l.length) (fun i=>l.length-i) 0 rfl (by simp[iq]) (by simp) ?_
  rintro i hi;simp (disch:=omega) [-getElem?_pos,wrap64,aaX];refine bB (fun h5=>?_) (fun h5=>?_)
  ·have h5:i<l.length:=by omega
   have hu:=(hs i h5).1;have hg:=(hs i h5).2;have hm:Nat.min i l.length=i:=Hu hi;simp (disch:=omega) [-getElem?_pos,wrap64,aY (l:=l)];exact bu (i+1) (by simp[jr h5,← agh]) (by omega) (by omega)
  ·obtain rfl:i=l.length:=by omega
   simp (disch:=omega) [-getElem?_pos,wrap64,p9,agf,pt])
theorem N7(f:Fl)(h:Kd f.d)(hw:Vu f.w)(G:List aP):aX F 9 [fl f] G=some (.agg [i64 f.t,.c6 G.length 4 f.d.length,.c6 (G.length+1) 1 f.w.length],G++[.cells (iq f.d),.cells (jN f.w)]) :=
 bL rfl rfl (by
  obtain⟨t,d,l⟩:=f;simp only at h hw;have hd:=agl d h;obtain⟨hl,hs⟩:=hw;simp (disch:=omega) [-getElem?_pos,wrap64,aao,hd];refine go_loop (fun i:Nat=>am2 i (j0 l) l.length i [i64 t,.c6 G.length 4 d.length,j0 l] [i64 0,.bU,.bU] (jN (l.take i)) (G++[.cells (iq d)])) (fun i=>i≤l.length) (fun i=>l.length-i) 0 rfl (by simp[jN]) (by simp) ?_
  rintro i hi;simp (disch:=omega) [-getElem?_pos,wrap64,aan];refine bB (fun h5=>?_) (fun h5=>?_)
  ·have h5:i<l.length:=by omega
   have hu:=hs i h5;have hm:Nat.min i l.length=i:=Hu hi;simp (disch:=omega) [-getElem?_pos,wrap64,aY (l:=l)];exact bu (i+1) (by simp[jr h5,← agj]) (by omega) (by omega)
  ·obtain rfl:i=l.length:=by omega
   simp (disch:=omega) [-getElem?_pos,wrap64,sA,agi,pt])
end Go.Proofs.YtcelmhaoipbdiaaGreat
