/- Parts of the proof, joined: Ref6, Dam8, Dst1, Dsm1, Drn1, Drn2, Rch1, Rch2, Rch3, Rch4, Rch5, Riv1, Cas1, Cas2, Fla1, Cas3. -/
import Derived.Test.YtmpikpodpgnjhaaGreatDd
import Derived.Test.YtmpikpodpgnjhaaGreatDa
namespace Go.Proofs.YtmpikpodpgnjhaaGreat
set_option linter.all false
open Go.Vm
attribute [local simp] mc me ma mb
theorem aic(d:Dm)(s:Ds)(inf los rel:Int):∃G',a8 F 19 [dm d,dst s,i64 inf,i64 los,i64 rel] []=some (qG d s inf los rel,G'):=by
 suffices h:∀Q:V→List aP→Prop,(∀G',Q (qG d s inf los rel) G')→gY (a8 F) 19 [dm d,dst s,i64 inf,i64 los,i64 rel] [] Q by
  obtain⟨_,G',h,rfl⟩:=h (fun v G'=>v=qG d s inf los rel) fun _=>rfl;exact⟨G',h⟩
 intro Q hQ;refine iu rfl rfl ?_;by_cases hd:dE d s=0
 ·obtain⟨oY,hf⟩:=D7 hd
  have uJ:lvl d s=g5 d.r s.v:=by simp[lvl,hd]
  by_cases ho:[inf,los,rel].any vk=false
  ·have he:mq d s inf los rel=0:=by unfold mq;rw[if_neg (fun g=>g hd),ho];rfl
   unfold qG at hQ;rw[if_pos he]at hQ;have hx:=ho;simp only[vk,List.any_cons,List.any_nil,Bool.or_false,Bool.or_eq_false_iff,Bool.not_eq_false',decide_eq_true_eq]at hx;obtain⟨x1,x2,x3⟩:=hx;have i1:(decide (0≤inf)&&decide (inf≤1073741824))=true:=by simp;omega
   have i2:(decide (0≤los)&&decide (los≤1073741824))=true:=by simp;omega
   have i3:(decide (0≤rel)&&decide (rel≤1073741824))=true:=by simp;omega
   have p:=MK oY hf x1 x2 x3;have hv:=hf.1;have hC:=Hm oY.r;have hD:=Hl oY.r;have xU:=GP d.r d.r.d [];rw[ahC oY.r,if_pos rfl,show gK d.r.c d.r.d=By d from rfl]at xU;have xV:=GP d.r d.r.t [];rw[My oY.r,if_pos rfl,show gK d.r.c d.r.t=jL d from rfl]at xV;have hL:s.v+inf-min los (s.v+inf)=ea s inf los:=rfl;have qj:max 0 (ea s inf los-By d)=jl d (ea s inf los):=by unfold jl;omega
   have hLr:0≤ea s inf los∧ea s inf los≤4611686018427387904:=by unfold ea;omega
   have MU:0≤jl d (ea s inf los)∧jl d (ea s inf los)≤4611686018427387904:=by unfold jl;omega
   have hU:=aia oY hf (q:=min rel (jl d (ea s inf los))) (by omega) []
   rw[show min (min rel (jl d (ea s inf los))) (200*d.gr)=ka d rel (ea s inf los) from rfl]at hU;rw[show bU (fY d s (ka d rel (ea s inf los))) d.u.length=fq d s inf los rel from rfl]at hU;have hT:=p.T0;have hTr:=p.Tr;have hW:min rel (jl d (ea s inf los))-fq d s inf los rel=mo d rel (ea s inf los) (fq d s inf los rel):=rfl;have hS:=ahw d.g s.g (g5 d.r s.v) (mo d rel (ea s inf los) (fq d s inf los rel)) [];have hF:=Hq d.g s.g (g5 d.r s.v) (mo d rel (ea s inf los) (fq d s inf los rel))
   have hP:min (mM d.g s.g (g5 d.r s.v) (mo d rel (ea s inf los) (fq d s inf los rel))) (jl d (ea s inf los)-fq d s inf los rel)=kJ d s inf los rel:=rfl;have hP0:=p.P0;have hP1:=p.P1;have hO:max 0 (ea s inf los-(fq d s inf los rel+kJ d s inf los rel)-jL d)=qF d s inf los rel:=by unfold qF;omega
   have hO0:0≤qF d s inf los rel∧qF d s inf los rel≤4611686018427387904:=by unfold qF;omega
   have hmn:min 1073741824 (fq d s inf los rel+kJ d s inf los rel)=min (fq d s inf los rel+kJ d s inf los rel) 1073741824:=Int.min_comm _ _;unfold jM gU at hQ;generalize qF d s inf los rel=O at *;generalize kJ d s inf los rel=P at *;generalize mo d rel (ea s inf los) (fq d s inf los rel)=W at *;generalize fq d s inf los rel=T at *;generalize hLL:ea s inf los=L at *;simp (config:={ maxSteps:=2000000 }) +contextual (disch:=omega) [-getElem?_pos,-List.length_eq_zero_iff,-Int.natCast_eq_zero,wrap64,A6,Ee,hd,uJ,cN,i1,i2,i3,xU,xV]
   simp (config:={ maxSteps:=2000000 }) +contextual (disch:=omega) [-getElem?_pos,-List.length_eq_zero_iff,-Int.natCast_eq_zero,wrap64,hL,qj,hU];simp (config:={ maxSteps:=2000000 }) +contextual (disch:=omega) [-getElem?_pos,-List.length_eq_zero_iff,-Int.natCast_eq_zero,wrap64,hW,hS,hP,hO,hmn];exact hQ _
  ·have ho:[inf,los,rel].any vk=true:=(Bool.eq_false_or_eq_true _).resolve_right ho
   have he:mq d s inf los rel=1:=by unfold mq;rw[if_neg (fun g=>g hd),ho];rfl
   unfold qG at hQ;rw[he,if_neg (by omega)]at hQ
   simp only[vk,List.any_cons,List.any_nil,Bool.or_false]at ho;by_cases i1:0≤inf∧inf≤1073741824
   ·by_cases i2:0≤los∧los≤1073741824
    ·by_cases i3:0≤rel∧rel≤1073741824
     ·simp[i1,i2,i3]at ho
     ·have j1:(decide (0≤inf)&&decide (inf≤1073741824))=true:=by simp;omega
      have j2:(decide (0≤los)&&decide (los≤1073741824))=true:=by simp;omega
      have j3:(decide (0≤rel)&&decide (rel≤1073741824))=false:=by simp;omega
      simp (config:={ maxSteps:=2000000 }) +contextual (disch:=omega) [-getElem?_pos,-List.length_eq_zero_iff,-Int.natCast_eq_zero,wrap64,A6,Ee,hd,uJ,cN,j1,j2,j3];exact hQ _
    ·have j1:(decide (0≤inf)&&decide (inf≤1073741824))=true:=by simp;omega
     have j2:(decide (0≤los)&&decide (los≤1073741824))=false:=by simp;omega
     simp (config:={ maxSteps:=2000000 }) +contextual (disch:=omega) [-getElem?_pos,-List.length_eq_zero_iff,-Int.natCast_eq_zero,wrap64,A6,Ee,hd,uJ,cN,j1,j2];exact hQ _
   ·have j1:(decide (0≤inf)&&decide (inf≤1073741824))=false:=by simp;omega
    simp (config:={ maxSteps:=2000000 }) +contextual (disch:=omega) [-getElem?_pos,-List.length_eq_zero_iff,-Int.natCast_eq_zero,wrap64,A6,Ee,hd,uJ,cN,j1];exact hQ _
 ·have he:mq d s inf los rel=dE d s:=by unfold mq;rw[if_pos hd]
  unfold qG at hQ;rw[he,if_neg hd]at hQ;simp[wrap64,A6,Ee,hd];exact hQ _
theorem aij(s:List Us)(hs:s.length≤1000)(G:List aP):a8 F 138 [jg s] G=some (DL s,G):=by
 cases s with
 |nil =>
  refine JM (p:=0) (m:=3) rfl rfl rfl rfl ?_ ?_
  ·simp (disch:=omega) [wrap64,Gp]
  ·simp (disch:=omega) [wrap64,Gp]
 |cons a s =>
  have hs:s.length+1≤1000:=by simpa using hs
  show a8 F 138 [.slice none 3 (a.row::s.map Us.row)] G=some (.slice (some 0) 3 (a.row::s.map Us.row),G);refine JN (p:=0) rfl rfl rfl (fun m=>by simp) ?_
  simp (disch:=omega) [wrap64,Gp]
theorem aik(s:List Gs)(hs:s.length≤1000)(G:List aP):a8 F 139 [j8 s] G=some (Hr s,G):=by
 cases s with
 |nil =>
  refine JM (p:=0) (m:=2) rfl rfl rfl rfl ?_ ?_
  ·simp (disch:=omega) [wrap64,Gq]
  ·simp (disch:=omega) [wrap64,Gq]
 |cons a s =>
  have hs:s.length+1≤1000:=by simpa using hs
  show a8 F 139 [.slice none 2 (a.row::s.map Gs.row)] G=some (.slice (some 0) 2 (a.row::s.map Gs.row),G);refine JN (p:=0) rfl rfl rfl (fun m=>by simp) ?_
  simp (disch:=omega) [wrap64,Gq]
noncomputable def zJ(d:Dm)(s:Ds)(A B C:List Int):Nat→Ds
 |0=>s
 |i+1=>jM d (zJ d s A B C i) (nth A i) (nth B i) (nth C i)
noncomputable def Wv(d:Dm)(s:Ds)(A B C:List Int)(i:Nat):Dr:=gU d (zJ d s A B C i) (nth A i) (nth B i) (nth C i)
noncomputable def Ht(d:Dm)(s:Ds)(A B C:List Int)(n:Nat):List Dr:=(List.range n).map (Wv d s A B C)
end Go.Proofs.YtmpikpodpgnjhaaGreat
namespace Go.Proofs.YtmpikpodpgnjhaaGreat
set_option linter.all false
open Go.Vm
end Go.Proofs.YtmpikpodpgnjhaaGreat
namespace Go.Proofs.YtmpikpodpgnjhaaGreat
set_option linter.all false
open Go.Vm
theorem BA{α:Type}[Inhabited α]{l:List α}{i k:Nat}:nth (l.drop k) i=nth l (k+i):=by simp[nth,List.getElem?_drop]
theorem Ww{d:Dm}{s:Ds}{A B C:List Int}{m:Nat}:∀i,zJ d (zJ d s A B C m) (A.drop m) (B.drop m) (C.drop m) i=zJ d s A B C (m+i)
 |0=>rfl
 |i+1=>by
  rw[←Nat.add_assoc];simp only[zJ];rw[Ww i,BA,BA,BA]
theorem apd{d:Dm}{s:Ds}{A B C:List Int}{m n:Nat}:Ht d s A B C m++Ht d (zJ d s A B C m) (A.drop m) (B.drop m) (C.drop m) n=Ht d s A B C (m+n):=by
 unfold Ht;rw[List.range_add,List.map_append,List.map_map];congr 1;refine List.map_congr_left fun i _=>?_;unfold Wv;rw[Ww,BA,BA,BA];rfl
end Go.Proofs.YtmpikpodpgnjhaaGreat
namespace Go.Proofs.YtmpikpodpgnjhaaGreat
set_option linter.all false
open Go.Vm
def okF(A B C:List Int)(i:Nat):Prop:=(0≤nth A i∧nth A i≤1073741824)∧(0≤nth B i∧nth B i≤1073741824)∧(0≤nth C i∧nth C i≤1073741824)
instance {A B C:List Int} {i:Nat}:Decidable (okF A B C i):=inferInstanceAs (Decidable (_∧_∧_))
def okA(A B C:List Int):Prop:=∀i,i<A.length→okF A B C i
noncomputable instance {A B C:List Int}:Decidable (okA A B C):=Classical.propDecidable _
end Go.Proofs.YtmpikpodpgnjhaaGreat
namespace Go.Proofs.YtmpikpodpgnjhaaGreat
set_option linter.all false
open Go.Vm
attribute [local simp] mc me ma mb
theorem aim(r:Dr)(ht:0≤r.tur∧r.tur≤1099511627776)(hs:0≤r.spi∧r.spi≤1099511627776)(ho:0≤r.ovr∧r.ovr≤1099511627776)(G:List aP):a8 F 95 [dr r] G=some (i64 (r.tur+r.spi+r.ovr),G) :=
 bV rfl rfl (by
  simp (disch:=omega) [wrap64,KT])
def eP(l:List Int)(b:Int):Prop:=∀i,i<l.length→0≤nth l i∧nth l i≤b
noncomputable instance {l:List Int} {b:Int}:Decidable (eP l b):=Classical.propDecidable _
def sm(l:List Int):Nat→Int
 |0=>0
 |i+1=>sm l i+nth l i
theorem uo{l:List Int}{b:Int}:∀{i:Nat},(∀j,j<i→0≤nth l j∧nth l j≤b)→0≤sm l i∧sm l i≤b*i
 |0,_=>by simp[sm]
 |i+1,h=>by
  have:=uo fun j hj=>h j (Nat.lt_succ_of_lt hj);have:=h i (by omega)
  have:b*((i+1:Nat):Int)=b*i+b:=by simp[Int.mul_add]
  simp only[sm];omega
structure Rc where
 w:List Int
 den:Int
 deriving Inhabited
abbrev Rc.row(r:Rc):List V:=[ints r.w,i64 r.den]
abbrev rc(r:Rc):V:=.agg r.row
abbrev wv(p:List Int):V:=.agg [ints p]
noncomputable def eD(r:Rc):Int :=
 if r.w.length=0∨nth r.w (r.w.length-1)=0 then 3 else if 24<r.w.length then 10 else if eP r.w 10000 then (if sm r.w r.w.length=r.den then 0 else 2) else 1
theorem vl(r:Rc)(hl:r.w.length≤17592186044416)(G:List aP):a8 F 127 [rc r] G=some (i64 (eD r),G) :=
 bV rfl rfl (by
  obtain⟨w,den⟩:=r;simp only at hl;generalize hW:eD ⟨w,den⟩=W;unfold eD at hW;simp only at hW;by_cases h1:w.length=0
  ·rw[if_pos (.inl h1)]at hW
   have lx:(w.length:Int)=0:=by omega
   simp (disch:=omega) [-getElem?_pos,-Int.natCast_eq_zero,wrap64,Dx,lx];exact hW
  have lx:¬ (w.length:Int)=0:=by omega
  by_cases h2:nth w (w.length-1)=0
  ·rw[if_pos (.inr h2)]at hW
   simp (disch:=omega) [-getElem?_pos,-Int.natCast_eq_zero,wrap64,Dx,lx,dD (l:=w),h2];exact hW
  rw[if_neg (by omega)]at hW
  by_cases h3:24<w.length
  ·rw[if_pos h3]at hW
   have iZ:(24:Int)<w.length:=by omega
   simp (disch:=omega) [-getElem?_pos,-Int.natCast_eq_zero,wrap64,Dx,lx,dD (l:=w),h2,iZ];exact hW
  rw[if_neg h3]at hW;have iZ:¬ (24:Int)<w.length:=by omega
  simp (disch:=omega) [-getElem?_pos,-Int.natCast_eq_zero,wrap64,Dx,lx,dD (l:=w),h2,iZ];refine go_loop (fun i:Nat=>adW (sm w i) (ints w) w.length i (Rc.row ⟨w,den⟩) G) (fun i=>i≤w.length∧∀j,j<i→0≤nth w j∧nth w j≤10000) (fun i=>w.length-i) 0 rfl (by simp[sm]) (by simp) ?_
  rintro i ⟨hi,hj⟩;have hs:=uo hj;simp (disch:=omega) [-getElem?_pos,-Int.natCast_eq_zero,wrap64,SQ];refine bK (fun h5=>?_) (fun h5=>?_)
  ·have h5:i<w.length:=by omega
   by_cases h6:0≤nth w i∧nth w i≤10000
   ·have hH:(decide (0≤nth w i)&&decide (nth w i≤10000))=true:=by simp;exact h6
    simp (disch:=omega) [-getElem?_pos,-Int.natCast_eq_zero,wrap64,dD (l:=w),dj,cN,hH];refine bL (i+1) (by simp[sm]) ⟨by omega,fun j h7=>?_⟩ (by omega)
    rcases Nat.lt_or_ge j i with h8|h8
    ·exact hj j h8
    ·rwa [show j=i by omega]
   ·have hH:(decide (0≤nth w i)&&decide (nth w i≤10000))=false:=by simp;omega
    rw[if_neg (fun g:eP w 10000=>h6 (g i h5))]at hW;simp (disch:=omega) [-getElem?_pos,-Int.natCast_eq_zero,wrap64,dD (l:=w),dj,cN,hH];exact hW
  ·obtain rfl:i=w.length:=by omega
   rw[if_pos (show eP w 10000 from hj)]at hW;by_cases h7:sm w w.length=den
   ·rw[if_pos h7]at hW
    simp (disch:=omega) [-getElem?_pos,-Int.natCast_eq_zero,wrap64,h7];exact hW
   ·rw[if_neg h7]at hW
    simp (disch:=omega) [-getElem?_pos,-Int.natCast_eq_zero,wrap64,h7];exact hW)
theorem vm(r:Rc)(hl:r.w.length≤17592186044416)(G:List aP):a8 F 114 [rc r] G=some (i64 (eD r),G) :=
 bV rfl rfl (by
  obtain⟨w,den⟩:=r;simp only at hl;generalize hW:eD ⟨w,den⟩=W;unfold eD at hW;simp only at hW;by_cases h1:w.length=0
  ·rw[if_pos (.inl h1)]at hW
   have lx:(w.length:Int)=0:=by omega
   simp (disch:=omega) [-getElem?_pos,-Int.natCast_eq_zero,wrap64,Dp,lx];exact hW
  have lx:¬ (w.length:Int)=0:=by omega
  by_cases h2:nth w (w.length-1)=0
  ·rw[if_pos (.inr h2)]at hW
   simp (disch:=omega) [-getElem?_pos,-Int.natCast_eq_zero,wrap64,Dp,lx,dD (l:=w),h2];exact hW
  rw[if_neg (by omega)]at hW
  by_cases h3:24<w.length
  ·rw[if_pos h3]at hW
   have iZ:(24:Int)<w.length:=by omega
   simp (disch:=omega) [-getElem?_pos,-Int.natCast_eq_zero,wrap64,Dp,lx,dD (l:=w),h2,iZ];exact hW
  rw[if_neg h3]at hW;have iZ:¬ (24:Int)<w.length:=by omega
  simp (disch:=omega) [-getElem?_pos,-Int.natCast_eq_zero,wrap64,Dp,lx,dD (l:=w),h2,iZ];refine go_loop (fun i:Nat=>adD (sm w i) (ints w) w.length i (Rc.row ⟨w,den⟩) G) (fun i=>i≤w.length∧∀j,j<i→0≤nth w j∧nth w j≤10000) (fun i=>w.length-i) 0 rfl (by simp[sm]) (by simp) ?_
  rintro i ⟨hi,hj⟩;have hs:=uo hj;simp (disch:=omega) [-getElem?_pos,-Int.natCast_eq_zero,wrap64,SA];refine bK (fun h5=>?_) (fun h5=>?_)
  ·have h5:i<w.length:=by omega
   by_cases h6:0≤nth w i∧nth w i≤10000
   ·have hH:(decide (0≤nth w i)&&decide (nth w i≤10000))=true:=by simp;exact h6
    simp (disch:=omega) [-getElem?_pos,-Int.natCast_eq_zero,wrap64,dD (l:=w),dj,cN,hH];refine bL (i+1) (by simp[sm]) ⟨by omega,fun j h7=>?_⟩ (by omega)
    rcases Nat.lt_or_ge j i with h8|h8
    ·exact hj j h8
    ·rwa [show j=i by omega]
   ·have hH:(decide (0≤nth w i)&&decide (nth w i≤10000))=false:=by simp;omega
    rw[if_neg (fun g:eP w 10000=>h6 (g i h5))]at hW;simp (disch:=omega) [-getElem?_pos,-Int.natCast_eq_zero,wrap64,dD (l:=w),dj,cN,hH];exact hW
  ·obtain rfl:i=w.length:=by omega
   rw[if_pos (show eP w 10000 from hj)]at hW;by_cases h7:sm w w.length=den
   ·rw[if_pos h7]at hW
    simp (disch:=omega) [-getElem?_pos,-Int.natCast_eq_zero,wrap64,h7];exact hW
   ·rw[if_neg h7]at hW
    simp (disch:=omega) [-getElem?_pos,-Int.natCast_eq_zero,wrap64,h7];exact hW)
def gM(r:Rc)(p:List Int):Prop:=p.length≤r.w.length∧(0<p.length→nth p (p.length-1)≠0)∧eP p 2251799813685248
noncomputable instance {r:Rc} {p:List Int}:Decidable (gM r p):=Classical.propDecidable _
theorem Wx(r:Rc)(p:List Int)(hl:p.length≤17592186044416)(G:List aP):a8 F 174 [rc r,wv p] G=some (.bool (decide (gM r p)),G) :=
 bV rfl rfl (by
  obtain⟨w,den⟩:=r;generalize hW:decide (gM ⟨w,den⟩ p)=W;have no:¬ gM ⟨w,den⟩ p→W=false:=fun h=>by rw[←hW];simp[h]
  unfold gM at no;simp only at no;by_cases h1:(w.length:Int)<p.length
  ·simp +contextual (disch:=omega) [-getElem?_pos,wrap64,Dz,h1]
   exact no (by omega)
  by_cases h2:0<p.length∧nth p (p.length-1)=0
  ·have lq:(0:Int)<p.length:=by omega
   simp +contextual (disch:=omega) [-getElem?_pos,wrap64,Dz,h1,lq,dD (l:=p),h2.2];exact no (fun h=>h.2.1 h2.1 h2.2)
  rcases (by omega:(0:Int)<p.length∧nth p (p.length-1)≠0∨¬ (0:Int)<p.length) with⟨h3,h4⟩ | h3
  ·simp +contextual (disch:=omega) [-getElem?_pos,wrap64,Dz,h1,h3,dD (l:=p),h4]
   refine go_loop (fun i:Nat=>aeP (ints p) p.length i G) (fun i=>i≤p.length∧∀j,j<i→0≤nth p j∧nth p j≤2251799813685248) (fun i=>p.length-i) 0 rfl (by simp) (by simp) ?_
   rintro i ⟨hi,hj⟩;simp +contextual (disch:=omega) [-getElem?_pos,wrap64,Lf];refine bK (fun h5=>?_) (fun h5=>?_)
   ·have h5:i<p.length:=by omega
    by_cases h6:0≤nth p i∧nth p i≤2251799813685248
    ·have hH:(decide (0≤nth p i)&&decide (nth p i≤2251799813685248))=true:=by simp;exact h6
     simp +contextual (disch:=omega) [-getElem?_pos,wrap64,dD (l:=p),dj,cN,hH];refine bL (i+1) (by simp) ⟨by omega,fun j h7=>?_⟩ (by omega)
     rcases Nat.lt_or_ge j i with h8|h8
     ·exact hj j h8
     ·rwa [show j=i by omega]
    ·have hH:(decide (0≤nth p i)&&decide (nth p i≤2251799813685248))=false:=by simp;omega
     simp +contextual (disch:=omega) [-getElem?_pos,wrap64,dD (l:=p),dj,cN,hH];exact no (fun h=>h6 (h.2.2 i h5))
   ·obtain rfl:i=p.length:=by omega
    rw[←hW,decide_eq_true (show gM ⟨w,den⟩ p from⟨by simp only;omega,fun h6 h7=>h2 ⟨h6,h7⟩,hj⟩)]
  ·obtain rfl:p=[]:=List.length_eq_zero_iff.1 (by omega)
   have lx:¬ (w.length:Int)<0:=by omega
   simp +contextual (disch:=omega) [-getElem?_pos,wrap64,Dz,lx];unfold TG;rw[y6];simp +contextual (disch:=omega) [-getElem?_pos,wrap64,Lf];rw[←hW,decide_eq_true (show gM ⟨w,den⟩ [] from⟨by simp,by simp,fun i hi=>by simp at hi⟩)])
theorem Wy(r:Rc)(hr:r.w.length≤17592186044416)(p:List Int)(hl:p.length≤17592186044416)(G:List aP):a8 F 73 [rc r,wv p] G=some (.bool (decide (eD r=0∧gM r p)),G) :=
 bV rfl rfl (by
  have hc:=vm r hr;by_cases hz:eD r=0
  ·rw[hz]at hc
   obtain⟨w,den⟩:=r;rw[show decide (eD ⟨w,den⟩=0∧gM ⟨w,den⟩ p)=decide (gM ⟨w,den⟩ p) by simp[hz]]
   generalize hW:decide (gM ⟨w,den⟩ p)=W;have no:¬ gM ⟨w,den⟩ p→W=false:=fun h=>by rw[←hW];simp[h]
   unfold gM at no;simp only at no;by_cases h1:(w.length:Int)<p.length
   ·simp +contextual (disch:=omega) [-getElem?_pos,wrap64,A9,hc,h1]
    exact no (by omega)
   by_cases h2:0<p.length∧nth p (p.length-1)=0
   ·have lq:(0:Int)<p.length:=by omega
    simp +contextual (disch:=omega) [-getElem?_pos,wrap64,A9,hc,h1,lq,dD (l:=p),h2.2];exact no (fun h=>h.2.1 h2.1 h2.2)
   rcases (by omega:(0:Int)<p.length∧nth p (p.length-1)≠0∨¬ (0:Int)<p.length) with⟨h3,h4⟩ | h3
   ·simp +contextual (disch:=omega) [-getElem?_pos,wrap64,A9,hc,h1,h3,dD (l:=p),h4]
    refine go_loop (fun i:Nat=>adp (ints p) p.length i G) (fun i=>i≤p.length∧∀j,j<i→0≤nth p j∧nth p j≤2251799813685248) (fun i=>p.length-i) 0 rfl (by simp) (by simp) ?_
    rintro i ⟨hi,hj⟩;simp +contextual (disch:=omega) [-getElem?_pos,wrap64,KP];refine bK (fun h5=>?_) (fun h5=>?_)
    ·have h5:i<p.length:=by omega
     by_cases h6:0≤nth p i∧nth p i≤2251799813685248
     ·have hH:(decide (0≤nth p i)&&decide (nth p i≤2251799813685248))=true:=by simp;exact h6
      simp +contextual (disch:=omega) [-getElem?_pos,wrap64,dD (l:=p),dj,cN,hH];refine bL (i+1) (by simp) ⟨by omega,fun j h7=>?_⟩ (by omega)
      rcases Nat.lt_or_ge j i with h8|h8
      ·exact hj j h8
      ·rwa [show j=i by omega]
     ·have hH:(decide (0≤nth p i)&&decide (nth p i≤2251799813685248))=false:=by simp;omega
      simp +contextual (disch:=omega) [-getElem?_pos,wrap64,dD (l:=p),dj,cN,hH];exact no (fun h=>h6 (h.2.2 i h5))
    ·obtain rfl:i=p.length:=by omega
     rw[←hW,decide_eq_true (show gM ⟨w,den⟩ p from⟨by simp only;omega,fun h6 h7=>h2 ⟨h6,h7⟩,hj⟩)]
   ·obtain rfl:p=[]:=List.length_eq_zero_iff.1 (by omega)
    have lx:¬ (w.length:Int)<0:=by omega
    simp +contextual (disch:=omega) [-getElem?_pos,wrap64,A9,hc,lx];unfold R9;rw[y6];simp +contextual (disch:=omega) [-getElem?_pos,wrap64,KP];rw[←hW,decide_eq_true (show gM ⟨w,den⟩ [] from⟨by simp,by simp,fun i hi=>by simp at hi⟩)]
  ·generalize hW:decide (eD r=0∧gM r p)=W
   simp +contextual (disch:=omega) [-getElem?_pos,wrap64,A9,hc,hz];rw[←hW];simp[hz])
theorem ain(r:Rc)(hr:r.w.length≤17592186044416)(p:List Int)(hl:p.length≤17592186044416)(G:List aP):a8 F 134 [rc r,wv p] G=some (.bool (decide (eD r=0∧gM r p)),G) :=
 bV rfl rfl (by
  have hc:=vl r hr;have hf:=Wx r p hl;by_cases hz:eD r=0
  ·simp[wrap64,K3,hc,hf,hz]
  ·simp[wrap64,K3,hc,hf,hz])
theorem aio(p:List Int)(hl:p.length≤40)(h:eP p 2251799813685248)(G:List aP):a8 F 65 [wv p] G=some (i64 (sm p p.length),G) :=
 bV rfl rfl (by
  generalize hW:sm p p.length=W;simp (disch:=omega) [-getElem?_pos,wrap64,RZ];refine go_loop (fun i:Nat=>ac0 (sm p i) (ints p) p.length i G) (fun i=>i≤p.length) (fun i=>p.length-i) 0 rfl (by simp[sm]) (by omega) ?_
  rintro i hi;have hs:=uo (l:=p) (b:=2251799813685248) (i:=i) fun j hj=>h j (by omega)
  simp (disch:=omega) [-getElem?_pos,wrap64,RY];refine bK (fun h5=>?_) (fun h5=>?_)
  ·have h5:i<p.length:=by omega
   have:=h i h5;simp (disch:=omega) [-getElem?_pos,wrap64,dD (l:=p)];exact bL (i+1) (by simp[sm]) (by omega) (by omega)
  ·obtain rfl:i=p.length:=by omega
   rw[hW])
structure Rv(r:Rc):Prop where
 pos:1≤r.w.length
 len:r.w.length≤24
 last:nth r.w (r.w.length-1)≠0
 w:∀i,i<r.w.length→0≤nth r.w i∧nth r.w i≤10000
 sum:sm r.w r.w.length=r.den
 den:1≤r.den∧r.den≤240000
theorem pU{r:Rc}(h:eD r=0):Rv r:=by
 unfold eD at h;split at h
 ·cases h
 split at h
 ·cases h
 split at h
 ·rename_i h1 h2 h3
  split at h
  ·rename_i h4
   have h0:1≤r.w.length:=by omega
   have s1:=uo (l:=r.w) (b:=10000) (i:=r.w.length) h3;have s2:=uo (l:=r.w) (b:=10000) (i:=r.w.length-1) fun j hj=>h3 j (by omega)
   have s3:sm r.w r.w.length=sm r.w (r.w.length-1)+nth r.w (r.w.length-1):=by
    conv=>lhs;rw[show r.w.length=r.w.length-1+1 by omega]
    rfl
   have h5:=h3 (r.w.length-1) (by omega)
   exact⟨h0,by omega,by omega,h3,h4,by omega⟩
  ·cases h
 ·cases h
def rq(r:Rc)(p:List Int)(x:Int)(k:Nat):Int:=nth p k+x*nth r.w k
def tg(r:Rc)(p:List Int)(x:Int):Prop:=∀k,k<r.w.length→rq r p x k≤1125899906842624
noncomputable instance {r:Rc} {p:List Int} {x:Int}:Decidable (tg r p x):=Classical.propDecidable _
def kK(r:Rc)(p:List Int)(x:Int):Int:=rq r p x 0 / r.den
def rN(r:Rc)(p:List Int)(x:Int)(k:Nat):Int:=if k=0 then rq r p x 1+rq r p x 0 % r.den else rq r p x (k+1)
def ly(f:Nat→Int):Nat→Nat
 |0=>0
 |n+1=>if f n=0 then ly f n else n+1
def jC(r:Rc)(p:List Int)(x:Int):List Int:=(List.range (ly (rN r p x) r.w.length)).map (rN r p x)
theorem ti{l:List Int}{i:Nat}(h:l.length≤i):nth l i=0:=by
 simp[nth,List.getD,List.getElem?_eq_none h]
theorem wG{r:Rc}(hr:Rv r){p:List Int}(hp:gM r p){x:Int}(hx:0≤x∧x≤1073741824)(k:Nat):0≤rq r p x k∧rq r p x k≤2262537232089088:=by
 have h1:0≤nth p k∧nth p k≤2251799813685248:=by
  rcases Nat.lt_or_ge k p.length with h|h
  ·exact hp.2.2 k h
  ·rw[ti h];omega
 have h2:0≤nth r.w k∧nth r.w k≤10000:=by
  rcases Nat.lt_or_ge k r.w.length with h|h
  ·exact hr.w k h
  ·rw[ti h];omega
 have h3:0≤x*nth r.w k:=Int.mul_nonneg hx.1 h2.1;have h4:x*nth r.w k≤1073741824*10000:=Int.mul_le_mul hx.2 h2.2 h2.1 (by omega)
 unfold rq;omega
theorem Wz{p:List Int}:(dv p).all V.sc=true:=by simp[dv,V.sc]
theorem WA{p:List Int}{n:Nat}(h:p.length≤n):(dv p).take n++(eA n fun _=>0).drop p.length=eA n (nth p):=by
 rw[List.take_of_length_le (by simpa using h)]
 apply List.ext_getElem?;intro i;rcases Nat.lt_or_ge i p.length with h1|h1
 ·rw[List.getElem?_append_left (by simpa using h1),jI h1,nL (by omega)]
 ·rw[List.getElem?_append_right (by simpa using h1),aa4,List.getElem?_drop,show p.length+(i-p.length)=i by omega]
  rcases Nat.lt_or_ge i n with h2|h2
  ·rw[nL h2,nL h2,ti h1]
  ·rw[List.getElem?_eq_none (by simpa using h2),List.getElem?_eq_none (by simpa using h2)]
theorem aip{n:Nat}{f:Nat→Int}:(List.take n (eA (n+1) f).tail).all V.sc=true:=by
 rw[List.all_eq_true];intro v hv;have:=List.mem_of_mem_tail (List.mem_of_mem_take hv);simp only[eA,List.mem_map]at this;obtain⟨j,_,rfl⟩:=this;rfl
theorem aiq{n:Nat}{f:Nat→Int}:List.take (n+1) (List.take n (eA (n+1) f).tail)++List.drop n (eA (n+1) f)=eA (n+1) fun k=>if k<n then f (k+1) else f k:=by
 apply List.ext_getElem?;intro i;have hl:(List.take n (eA (n+1) f).tail).length=n:=by simp
 rw[List.take_of_length_le (by rw[hl];omega)]
 rcases Nat.lt_or_ge i n with h|h
 ·rw[List.getElem?_append_left (by rw[hl];exact h),List.getElem?_take_of_lt h,List.getElem?_tail,nL (by omega),nL (by omega),if_pos h]
 ·rw[List.getElem?_append_right (by rw[hl];exact h),hl,List.getElem?_drop,show n+(i-n)=i by omega]
  rcases Nat.lt_or_ge i (n+1) with h2|h2
  ·rw[nL h2,nL h2,if_neg (by omega)]
  ·rw[List.getElem?_eq_none (by simpa using h2),List.getElem?_eq_none (by simpa using h2)]
theorem WB{n m:Nat}{f:Nat→Int}(h:m≤n):kV [none] (chunks 1 (eA n f) 0 m)=some ((List.range m).map fun j=>[V.int .i64 (f j)]):=by
 have e:(eA n f).take m=eA m f:=by
  apply List.ext_getElem?;intro i;rcases Nat.lt_or_ge i m with h1|h1
  ·rw[List.getElem?_take_of_lt h1,nL (by omega),nL h1]
  ·rw[List.getElem?_eq_none (by simp;omega),List.getElem?_eq_none (by simpa using h1)]
 rw[CR _ _ _ rfl (by simpa using h),List.drop_zero,e,eA,List.map_map]
 exact FN f _
theorem air(r:Rc)(hr:Rv r)(p:List Int)(hp:gM r p)(x:Int)(hx:0≤x∧x≤1073741824)(G:List aP) :
  a8 F 200 [rc r,wv p,i64 x] G=some (.tuple (if tg r p x then [wv (jC r p x),i64 (kK r p x),.bool true] else [.agg [.slice (some 0) 1 []],i64 0,.bool false]),G) :=
 bV rfl rfl (by
  obtain⟨w,den⟩:=r;generalize hW:(V.tuple (if tg ⟨w,den⟩ p x then [wv (jC ⟨w,den⟩ p x),i64 (kK ⟨w,den⟩ p x),.bool true] else [.agg [.slice (some 0) 1 []],i64 0,.bool false]))=W
  have hlen:=hr.len;have gG:=hr.pos;have kq:=hp.1;simp only at hlen gG kq;have MW:p.length≤w.length+1:=by omega
  have MX:∀k,k<w.length→0≤x*nth w k∧x*nth w k≤10737418240000:=fun k hk=>by
   have h2:=hr.w k hk;simp only at h2;have h3:0≤x*nth w k:=Int.mul_nonneg hx.1 h2.1;have h4:x*nth w k≤1073741824*10000:=Int.mul_le_mul hx.2 h2.2 h2.1 (by omega)
   omega
  have MY:∀k,0≤nth p k∧nth p k≤2251799813685248:=fun k=>by
   rcases Nat.lt_or_ge k p.length with h|h
   ·exact hp.2.2 k h
   ·rw[ti h];omega
  simp (disch:=omega) [-getElem?_pos,wrap64,T8,Qi,Wz,WA MW];refine go_loop (fun i:Nat=>afh x (w.length+1) (ints w) w.length i (Rc.row ⟨w,den⟩) [.bW] (eA (w.length+1) fun k=>if k<i then rq ⟨w,den⟩ p x k else nth p k) G) (fun i=>i≤w.length∧∀k,k<i→rq ⟨w,den⟩ p x k≤1125899906842624) (fun i=>w.length-i) 0 rfl (by simp) (by simp) ?_
  rintro i ⟨hi,hj⟩;simp (disch:=omega) [-getElem?_pos,wrap64,T7];refine bK (fun h5=>?_) (fun h5=>?_)
  ·have h5:i<w.length:=by omega
   have hq:=wG hr hp hx i;have ha:=MX i h5;have hb:=MY i;have hf:(fun j=>if j=i then nth p i+x*nth w i else if j<i then rq ⟨w,den⟩ p x j else nth p j)=fun j=>if j<i+1 then rq ⟨w,den⟩ p x j else nth p j:=by
    funext j;by_cases h6:j=i
    ·subst h6;simp[rq]
    ·by_cases h7:j<i
     ·rw[if_neg h6,if_pos h7,if_pos (by omega)]
     ·rw[if_neg h6,if_neg h7,if_neg (by omega)]
   simp (disch:=omega) [-getElem?_pos,wrap64,dD (l:=w),nL,hf];refine bK (fun h7=>?_) (fun h7=>?_)
   ·rw[←hW,if_neg (fun g:tg ⟨w,den⟩ p x=>absurd (g i h5) (by omega))]
   ·refine bL (i+1) (by simp) ⟨by omega,fun k hk=>?_⟩ (by omega)
    rcases Nat.lt_or_ge k i with h8|h8
    ·exact hj k h8
    ·rw[show k=i by omega];omega
  ·obtain rfl:i=w.length:=by omega
   rw[if_pos (show tg ⟨w,den⟩ p x from hj)]at hW;have hf:(eA (w.length+1) fun k=>if k<w.length then rq ⟨w,den⟩ p x k else nth p k)=eA (w.length+1) (rq ⟨w,den⟩ p x):=JO fun k hk=>by
    by_cases h6:k<w.length
    ·rw[if_pos h6]
    ·rw[if_neg h6,show k=w.length by omega];simp[rq,ti (Nat.le_refl w.length)]
   have hd:=hr.den;simp only at hd;have zK:¬ den=0:=by omega
   have q0:=wG hr hp hx 0;have q1:=wG hr hp hx 1;have d1:(rq ⟨w,den⟩ p x 0).tdiv den=rq ⟨w,den⟩ p x 0 / den:=Int.tdiv_eq_ediv_of_nonneg q0.1;have d2:(rq ⟨w,den⟩ p x 0).tmod den=rq ⟨w,den⟩ p x 0 % den:=Int.tmod_eq_emod_of_nonneg q0.1;have d3:0≤rq ⟨w,den⟩ p x 0 / den:=Int.ediv_nonneg q0.1 (by omega)
   have d4:rq ⟨w,den⟩ p x 0 / den≤rq ⟨w,den⟩ p x 0:=Int.ediv_le_self _ q0.1;have d5:0≤rq ⟨w,den⟩ p x 0 % den:=Int.emod_nonneg _ zK;have d6:rq ⟨w,den⟩ p x 0 % den<den:=Int.emod_lt_of_pos _ (by omega)
   have hg:(eA (w.length+1) fun k=>if k<w.length then (if k=0 then rq ⟨w,den⟩ p x 1+rq ⟨w,den⟩ p x 0 % den else rq ⟨w,den⟩ p x (k+1)) else (if k=1 then rq ⟨w,den⟩ p x 1+rq ⟨w,den⟩ p x 0 % den else rq ⟨w,den⟩ p x k)) =
     eA (w.length+1) fun k=>if k<w.length then rN ⟨w,den⟩ p x k else (if k=1 then rq ⟨w,den⟩ p x 1+rq ⟨w,den⟩ p x 0 % den else rq ⟨w,den⟩ p x k):=JO fun k hk=>by
    by_cases h6:k<w.length
    ·rw[if_pos h6,if_pos h6];rfl
    ·rw[if_neg h6,if_neg h6]
   simp (disch:=omega) [-getElem?_pos,wrap64,hf,nL,zK,d1,d2,aip,aiq,hg];generalize hh:(fun k=>if k<w.length then rN ⟨w,den⟩ p x k else (if k=1 then rq ⟨w,den⟩ p x 1+rq ⟨w,den⟩ p x 0 % den else rq ⟨w,den⟩ p x k))=h
   have MZ:∀k,k<w.length→h k=rN ⟨w,den⟩ p x k:=fun k hk=>by rw[←hh];exact if_pos hk
   refine go_loop (fun m:Nat=>afj m (rq ⟨w,den⟩ p x 0 / den) [.bW] (eA (w.length+1) h) G) (fun m=>m≤w.length∧ly (rN ⟨w,den⟩ p x) m=ly (rN ⟨w,den⟩ p x) w.length) (fun m=>m) w.length rfl (by simp) (by simp) ?_
   rintro m ⟨hm,ht⟩;cases m with
   |zero =>
    simp (disch:=omega) [-getElem?_pos,wrap64,GC,WB];rw[←hW,wv,jC,← ht];rfl
   |succ m =>
    by_cases h8:rN ⟨w,den⟩ p x m=0
    ·simp (disch:=omega) [-getElem?_pos,wrap64,GC,nL,MZ m hm,h8]
     exact bL m (by simp) ⟨by omega,by rw[←ht,ly,if_pos h8]⟩ (by omega)
    ·simp (disch:=omega) [-getElem?_pos,wrap64,GC,nL,MZ m hm,h8,WB]
     rw[←hW,wv,jC,← ht,ly,if_neg h8,ints,List.map_map];have e:(List.range (m+1)).map (fun j=>[V.int .i64 (h j)])=(List.range (m+1)).map ((fun n=>[i64 n])∘rN ⟨w,den⟩ p x) :=
      List.map_congr_left fun j hj=>by rw[MZ j (by have:=List.mem_range.1 hj;omega)];rfl
     rw[e];rfl)
theorem ais{n:Nat}{f g:Nat→Int}(h:∀k,k<n→f (k+1)=g k):(List.take (n+1) ((List.range (n+1)).map fun j=>[V.int .i64 (f j)])).tail=(List.range n).map fun k=>[V.int .i64 (g k)]:=by
 rw[List.take_of_length_le (by simp)]
 apply List.ext_getElem?;intro i;rw[List.getElem?_tail];rcases Nat.lt_or_ge i n with h1|h1
 ·simp[h1,h i h1]
 ·rw[List.getElem?_eq_none (by simp;omega),List.getElem?_eq_none (by simpa using h1)]
theorem WC{n i:Nat}(h:i<n):(List.range n)[i]?=some i:=by simp[h]
theorem ait{n:Nat}{g:Nat→Int}:List.take n ((List.range (n+1)).map fun k=>[V.int .i64 (g k)])=(List.range n).map fun k=>[V.int .i64 (g k)]:=by
 rw[←List.map_take,List.take_range,Nat.min_eq_left (by omega)]
theorem aiu(r:Rc)(hr:Rv r)(p:List Int)(hp:gM r p)(x:Int)(G:List aP) :
  a8 F 144 [rc r,wv p,i64 x] G=some (.tuple (if (0≤x∧x≤1073741824)∧tg r p x then [wv (jC r p x),i64 (kK r p x),i64 0] else [.agg [.slice (some 0) 1 []],i64 0,i64 1]),G) :=
 bV rfl rfl (by
  obtain⟨w,den⟩:=r;generalize hW:(V.tuple (if (0≤x∧x≤1073741824)∧tg ⟨w,den⟩ p x then [wv (jC ⟨w,den⟩ p x),i64 (kK ⟨w,den⟩ p x),i64 0] else [.agg [.slice (some 0) 1 []],i64 0,i64 1]))=W
  have hlen:=hr.len;have gG:=hr.pos;have kq:=hp.1;simp only at hlen gG kq;by_cases hx:0≤x∧x≤1073741824
  case neg =>
   have pC:(decide (0≤x)&&decide (x≤1073741824))=false:=by simp;omega
   simp (disch:=omega) [-getElem?_pos,wrap64,K6,cN,pC];rw[←hW,if_neg (fun g=>hx g.1)]
  have pC:(decide (0≤x)&&decide (x≤1073741824))=true:=by simp;exact hx
  have MW:p.length≤w.length+1:=by omega
  have MX:∀k,k<w.length→0≤x*nth w k∧x*nth w k≤10737418240000:=fun k hk=>by
   have h2:=hr.w k hk;simp only at h2;have h3:0≤x*nth w k:=Int.mul_nonneg hx.1 h2.1;have h4:x*nth w k≤1073741824*10000:=Int.mul_le_mul hx.2 h2.2 h2.1 (by omega)
   omega
  have MY:∀k,0≤nth p k∧nth p k≤2251799813685248:=fun k=>by
   rcases Nat.lt_or_ge k p.length with h|h
   ·exact hp.2.2 k h
   ·rw[ti h];omega
  simp (disch:=omega) [-getElem?_pos,wrap64,K6,cN,pC,Qi,Wz,WA MW];refine go_loop (fun i:Nat=>aeh x (w.length+1) (ints w) w.length i (Rc.row ⟨w,den⟩) [.bW] (eA (w.length+1) fun k=>if k<i then rq ⟨w,den⟩ p x k else nth p k) G) (fun i=>i≤w.length∧∀k,k<i→rq ⟨w,den⟩ p x k≤1125899906842624) (fun i=>w.length-i) 0 rfl (by simp) (by simp) ?_
  rintro i ⟨hi,hj⟩;simp (disch:=omega) [-getElem?_pos,wrap64,S9];refine bK (fun h5=>?_) (fun h5=>?_)
  ·have h5:i<w.length:=by omega
   have hq:=wG hr hp hx i;have ha:=MX i h5;have hb:=MY i;have hf:(fun j=>if j=i then nth p i+x*nth w i else if j<i then rq ⟨w,den⟩ p x j else nth p j)=fun j=>if j<i+1 then rq ⟨w,den⟩ p x j else nth p j:=by
    funext j;by_cases h6:j=i
    ·subst h6;simp[rq]
    ·by_cases h7:j<i
     ·rw[if_neg h6,if_pos h7,if_pos (by omega)]
     ·rw[if_neg h6,if_neg h7,if_neg (by omega)]
   simp (disch:=omega) [-getElem?_pos,wrap64,dD (l:=w),nL,hf];refine bK (fun h7=>?_) (fun h7=>?_)
   ·rw[←hW,if_neg (fun g=>absurd (g.2 i h5) (by omega))]
   ·refine bL (i+1) (by simp) ⟨by omega,fun k hk=>?_⟩ (by omega)
    rcases Nat.lt_or_ge k i with h8|h8
    ·exact hj k h8
    ·rw[show k=i by omega];omega
  ·obtain rfl:i=w.length:=by omega
   rw[if_pos ⟨hx,show tg ⟨w,den⟩ p x from hj⟩]at hW;have hf:(eA (w.length+1) fun k=>if k<w.length then rq ⟨w,den⟩ p x k else nth p k)=eA (w.length+1) (rq ⟨w,den⟩ p x):=JO fun k hk=>by
    by_cases h6:k<w.length
    ·rw[if_pos h6]
    ·rw[if_neg h6,show k=w.length by omega];simp[rq,ti (Nat.le_refl w.length)]
   have hd:=hr.den;simp only at hd;have zK:¬ den=0:=by omega
   have q0:=wG hr hp hx 0;have q1:=wG hr hp hx 1;have d1:(rq ⟨w,den⟩ p x 0).tdiv den=rq ⟨w,den⟩ p x 0 / den:=Int.tdiv_eq_ediv_of_nonneg q0.1;have d2:(rq ⟨w,den⟩ p x 0).tmod den=rq ⟨w,den⟩ p x 0 % den:=Int.tmod_eq_emod_of_nonneg q0.1;have d3:0≤rq ⟨w,den⟩ p x 0 / den:=Int.ediv_nonneg q0.1 (by omega)
   have d4:rq ⟨w,den⟩ p x 0 / den≤rq ⟨w,den⟩ p x 0:=Int.ediv_le_self _ q0.1;have d5:0≤rq ⟨w,den⟩ p x 0 % den:=Int.emod_nonneg _ zK;have d6:rq ⟨w,den⟩ p x 0 % den<den:=Int.emod_lt_of_pos _ (by omega)
   have hg:∀k,k<w.length→(if k+1=1 then rq ⟨w,den⟩ p x 1+rq ⟨w,den⟩ p x 0 % den else rq ⟨w,den⟩ p x (k+1))=rN ⟨w,den⟩ p x k:=fun k hk=>by
    unfold rN;by_cases h7:k=0
    ·rw[if_pos h7,if_pos (by omega)]
    ·rw[if_neg h7,if_neg (by omega)]
   simp (disch:=omega) [-getElem?_pos,wrap64,hf,nL,zK,d1,d2];rw[ais (f:=fun j=>if j=1 then rq ⟨w,den⟩ p x 1+rq ⟨w,den⟩ p x 0 % den else rq ⟨w,den⟩ p x j) hg]
   refine go_loop (fun m:Nat=>⟨[(6,.bA 6 0),(9,.slice none 1 ((List.range m).map fun k=>[V.int .i64 (rN ⟨w,den⟩ p x k)])),(12,i64 (rq ⟨w,den⟩ p x 0 / den))],[(6,[.bW])],[],G⟩) (fun m=>m≤w.length∧ly (rN ⟨w,den⟩ p x) m=ly (rN ⟨w,den⟩ p x) w.length) (fun m=>m) w.length rfl (by simp) (by simp) ?_
   rintro m ⟨hm,ht⟩;cases m with
   |zero =>
    simp (disch:=omega) [-getElem?_pos,wrap64,Gu];rw[←hW,wv,jC,← ht];rfl
   |succ m =>
    by_cases h8:rN ⟨w,den⟩ p x m=0
    ·simp (disch:=omega) [-getElem?_pos,wrap64,Gu,WC,h8,ait]
     exact bL m (by simp) ⟨by omega,by rw[←ht,ly,if_pos h8]⟩ (by omega)
    ·simp (disch:=omega) [-getElem?_pos,wrap64,Gu,WC,h8]
     rw[←hW,wv,jC,← ht,ly,if_neg h8,ints,List.map_map];rfl)
noncomputable def fL(r:Rc)(p:List Int)(x:Int):Int:=if eD r≠0 then eD r else if gM r p then (if (0≤x∧x≤1073741824)∧tg r p x then 0 else 1) else 3
abbrev WD(t:Option Nat)(e:Int):V:=.tuple [.agg [.slice t 1 []],i64 0,i64 e]
noncomputable def BB(t:Option Nat)(r:Rc)(p:List Int)(x:Int):V:=if fL r p x=0 then .tuple [wv (jC r p x),i64 (kK r p x),i64 0] else WD t (fL r p x)
theorem zL{t:Option Nat}{r:Rc}{p:List Int}{x e:Int}(h:fL r p x=e)(he:e≠0):BB t r p x=WD t e:=by
 unfold BB;rw[h,if_neg he]
theorem Eg{t:Option Nat}{r:Rc}{p:List Int}{x:Int}(h:fL r p x=0):BB t r p x=.tuple [wv (jC r p x),i64 (kK r p x),i64 0]:=by
 unfold BB;rw[if_pos h]
theorem aiv(r:Rc)(hr:r.w.length≤17592186044416)(p:List Int)(hl:p.length≤17592186044416)(G:List aP):a8 F 143 [rc r,wv p] G=some (i64 (if eD r≠0 then eD r else if gM r p then 0 else 3),G) :=
 bV rfl rfl (by
  have hc:=vm r hr;have hv:=Wy r hr p hl;generalize hW:(if eD r≠0 then eD r else if gM r p then (0:Int) else 3)=W
  by_cases hz:eD r=0
  ·rw[if_neg (by omega)]at hW
   by_cases hf:gM r p
   ·rw[if_pos hf]at hW
    simp[wrap64,Gr,hc,hv,hz,hf];exact hW
   ·rw[if_neg hf]at hW
    simp[wrap64,Gr,hc,hv,hz,hf];exact hW
  ·rw[if_pos hz]at hW
   simp[wrap64,Gr,hc,hv,hz];exact hW)
theorem aiw(r:Rc)(hr:r.w.length≤17592186044416)(p:List Int)(hl:p.length≤17592186044416)(x:Int):∃t,∀(G:List aP),a8 F 86 [rc r,wv p,i64 x] G=some (BB t r p x,G):=by
 refine⟨if eD r=0∧gM r p then none else some 0,fun G=>bV rfl rfl ?_⟩
 have hw:=aiv r hr p hl;by_cases hz:eD r=0
 ·rw[if_neg (by omega)]at hw
  by_cases hf:gM r p
  ·rw[if_pos hf]at hw
   rw[if_pos ⟨hz,hf⟩];have hs:=aiu r (pU hz) p hf x;by_cases hp:(0≤x∧x≤1073741824)∧tg r p x
   ·rw[if_pos hp]at hs
    rw[Eg (by unfold fL;rw[if_neg (by omega),if_pos hf,if_pos hp])]
    simp[wrap64,Dl,hw,hs]
   ·rw[if_neg hp]at hs
    rw[zL (e:=1) (by unfold fL;rw[if_neg (by omega),if_pos hf,if_neg hp]) (by decide)]
    simp[wrap64,Dl,hw,hs]
  ·rw[if_neg hf]at hw
   rw[if_neg (fun g=>hf g.2),zL (e:=3) (by unfold fL;rw[if_neg (by omega),if_neg hf]) (by decide)]
   simp[wrap64,Dl,hw]
 ·rw[if_pos hz]at hw
  rw[if_neg (fun g=>hz g.1),zL (e:=eD r) (by unfold fL;rw[if_pos hz]) hz]
  simp[wrap64,Dl,hw,hz]
theorem aix(r:Rc)(hr:r.w.length≤17592186044416)(p:List Int)(hl:p.length≤17592186044416)(x:Int)(G:List aP) :
  a8 F 186 [rc r,wv p,.slice none 1 [[i64 x]]] G=some (.tuple (if fL r p x=0 then [wv (jC r p x),.slice (some 0) 1 [[i64 (kK r p x)]],i64 0] else [.agg [.slice (some 0) 1 []],.slice (some 0) 1 [],i64 (fL r p x)]),G) :=
 bV rfl rfl (by
  have hc:=vl r hr;have vn:=Wx r p hl;generalize hW:(V.tuple (if fL r p x=0 then [wv (jC r p x),.slice (some 0) 1 [[i64 (kK r p x)]],i64 0] else [.agg [.slice (some 0) 1 []],.slice (some 0) 1 [],i64 (fL r p x)]))=W
  by_cases hz:eD r=0
  ·by_cases hf:gM r p
   ·have hs:=air r (pU hz) p hf x
    have kq:p.length≤24:=by have:=hf.1;have:=(pU hz).len;omega
    by_cases hx:0≤x∧x≤1073741824
    ·have pC:(decide (0≤x)&&decide (x≤1073741824))=true:=by simp;exact hx
     replace hs:=fun G=>hs hx G;by_cases hp:tg r p x
     ·rw[if_pos (show fL r p x=0 by unfold fL;rw[if_neg (by omega),if_pos hf,if_pos ⟨hx,hp⟩])]at hW
      rw[if_pos hp]at hs;simp (disch:=omega) [wrap64,Bc,GA,Gz,hc,vn,hz,hf,dj,pC,hs,y6];exact hW
     ·rw[show fL r p x=1 by unfold fL;rw[if_neg (by omega),if_pos hf,if_neg (fun g=>hp g.2)],if_neg (by decide)]at hW
      rw[if_neg hp]at hs;simp (disch:=omega) [wrap64,Bc,GA,Gz,hc,vn,hz,hf,dj,pC,hs,y6];exact hW
    ·have pC:(decide (0≤x)&&decide (x≤1073741824))=false:=by simp;omega
     simp (disch:=omega) [wrap64,Bc,GA,Gz,hc,vn,hz,hf,dj,pC,y6];rw[show fL r p x=1 by unfold fL;rw[if_neg (by omega),if_pos hf,if_neg (fun g=>hx g.1)],if_neg (by decide)]at hW
     exact hW
   ·rw[show fL r p x=3 by unfold fL;rw[if_neg (by omega),if_neg hf],if_neg (by decide)]at hW
    simp (disch:=omega) [wrap64,Bc,hc,vn,hz,hf];exact hW
  ·rw[show fL r p x=eD r by unfold fL;rw[if_pos hz],if_neg hz]at hW
   simp (disch:=omega) [wrap64,Bc,hc,vn,hz];exact hW)
theorem WE(r:Rc)(hr:r.w.length≤17592186044416)(p:List Int)(hl:p.length≤17592186044416)(x:Int)(G:List aP):a8 F 162 [rc r,wv p,i64 x] G=some (BB (some 0) r p x,G) :=
 bV rfl rfl (by
  have hs:=aix r hr p hl x;by_cases he:fL r p x=0
  ·rw[if_pos he]at hs
   rw[Eg he];simp[wrap64,La,hs]
  ·rw[if_neg he]at hs
   rw[zL rfl he];simp[wrap64,La,hs,he])
structure Lk where
 f:Int
 t:Int
 r:Rc
 deriving Inhabited
abbrev Lk.row(l:Lk):List V:=[i64 l.f,i64 l.t,ints l.r.w,i64 l.r.den]
structure Rr where
 n:Int
 l:List Lk
abbrev lS(l:List Lk):V:=.slice none 4 (l.map Lk.row)
abbrev Rr.row(r:Rr):List V:=[i64 r.n,lS r.l]
abbrev rr(r:Rr):V:=.agg r.row
noncomputable def lE(r:Rr)(i:Nat):Int :=
 let l:=nth r.l i
 if (0≤l.f∧l.f≤r.n-1)∧(0≤l.t∧l.t≤r.n-1) then (if l.t≤l.f then 12 else if 0<i∧l.f≤(nth r.l (i-1)).f then 4 else eD l.r) else 11
noncomputable def iz(r:Rr):Int:=if r.n<1∨40<r.n then 3 else dK (lE r) r.l.length 0
def mO(r:Rr):Prop:=r.l.length≤17592186044416∧∀i,i<r.l.length→(nth r.l i).r.w.length≤17592186044416
theorem oZ{n:Int}{l:List Lk}(h:1≤n)(h2:n≤40)(x:Int)(G:List aP):a8 F 126 [.agg [i64 n,lS l],i64 x] G=some (.bool (decide (0≤x)&&decide (x≤n-1)),G) :=
 bV rfl rfl (by simp (disch:=omega) [wrap64,SP,dj])
theorem Hw(r:Rr)(hr:mO r)(G:List aP):a8 F 67 [rr r] G=some (i64 (iz r),G) :=
 bV rfl rfl (by
  obtain⟨n,l⟩:=r;generalize hW:iz ⟨n,l⟩=W;unfold iz at hW;simp only at hW;obtain⟨hl,hw⟩:=hr;simp only at hl hw;by_cases h1:n<1
  ·rw[if_pos (.inl h1)]at hW
   simp (disch:=omega) [-getElem?_pos,wrap64,Gj,h1];exact hW
  by_cases h2:40<n
  ·rw[if_pos (.inr h2)]at hW
   simp (disch:=omega) [-getElem?_pos,wrap64,Gj,h1,h2];exact hW
  rw[if_neg (by omega)]at hW
  have h1n:1≤n:=by omega
  have h2n:n≤40:=by omega
  simp (disch:=omega) [-getElem?_pos,wrap64,Gj,h1,h2];refine go_loop (fun i:Nat=>ac2 (lS l) l.length i (Rr.row ⟨n,l⟩) G) (fun i=>i≤l.length∧dK (lE ⟨n,l⟩) (l.length-i) i=W) (fun i=>l.length-i) 0 rfl (by simp) ⟨by omega,hW⟩ ?_
  rintro i ⟨hi,hq⟩;simp (disch:=omega) [-getElem?_pos,wrap64,R0];refine bK (fun h5=>?_) (fun h5=>?_)
  ·have h5:i<l.length:=by omega
   rw[ld h5]at hq;have hE:lE ⟨n,l⟩ i=if (0≤(nth l i).f∧(nth l i).f≤n-1)∧(0≤(nth l i).t∧(nth l i).t≤n-1) then (if (nth l i).t≤(nth l i).f then 12 else if 0<i∧(nth l i).f≤(nth l (i-1)).f then 4 else eD (nth l i).r) else 11:=rfl
   by_cases a1:0≤(nth l i).f∧(nth l i).f≤n-1
   case neg =>
    have kL:(decide (0≤(nth l i).f)&&decide ((nth l i).f≤n-1))=false:=by simp;omega
    rw[if_neg (fun g=>a1 g.1)]at hE;rw[hE,if_neg (by decide)]at hq
    simp (disch:=omega) [-getElem?_pos,wrap64,bb (l:=l),oZ,cN,kL];exact hq
   have kL:(decide (0≤(nth l i).f)&&decide ((nth l i).f≤n-1))=true:=by simp;exact a1
   by_cases a2:0≤(nth l i).t∧(nth l i).t≤n-1
   case neg =>
    have oF:(decide (0≤(nth l i).t)&&decide ((nth l i).t≤n-1))=false:=by simp;omega
    rw[if_neg (fun g=>a2 g.2)]at hE;rw[hE,if_neg (by decide)]at hq
    simp (disch:=omega) [-getElem?_pos,wrap64,bb (l:=l),oZ,cN,kL,oF];exact hq
   have oF:(decide (0≤(nth l i).t)&&decide ((nth l i).t≤n-1))=true:=by simp;exact a2
   rw[if_pos ⟨a1,a2⟩]at hE;by_cases a3:(nth l i).t≤(nth l i).f
   ·rw[if_pos a3]at hE
    rw[hE,if_neg (by decide)]at hq
    simp (disch:=omega) [-getElem?_pos,wrap64,bb (l:=l),oZ,cN,kL,oF,a3];exact hq
   rw[if_neg a3]at hE;by_cases a4:0<i∧(nth l i).f≤(nth l (i-1)).f
   ·rw[if_pos a4]at hE
    rw[hE,if_neg (by decide)]at hq
    simp (disch:=omega) [-getElem?_pos,wrap64,bb (l:=l),oZ,cN,kL,oF,a3,a4.1,a4.2];exact hq
   rw[if_neg a4]at hE;have done:eD (nth l i).r=0→dK (lE ⟨n,l⟩) (l.length-(i+1)) (i+1)=W:=fun h=>by rwa [hE,h,if_pos rfl]at hq
   have stop:eD (nth l i).r≠0→eD (nth l i).r=W:=fun h=>by rwa [hE,if_neg h]at hq
   rcases (by omega:¬ 0<i∨(0<i∧¬ (nth l i).f≤(nth l (i-1)).f)) with a5 | ⟨a5,a6⟩
   ·by_cases hz:eD (nth l i).r=0
    ·simp (disch:=omega) [-getElem?_pos,wrap64,bb (l:=l),oZ,cN,kL,oF,a3,a5,vl (nth l i).r (hw i h5),vm (nth l i).r (hw i h5),hz]
     exact bL (i+1) (by simp) ⟨by omega,done hz⟩ (by omega)
    ·simp (disch:=omega) [-getElem?_pos,wrap64,bb (l:=l),oZ,cN,kL,oF,a3,a5,vl (nth l i).r (hw i h5),vm (nth l i).r (hw i h5),hz]
     exact stop hz
   ·by_cases hz:eD (nth l i).r=0
    ·simp (disch:=omega) [-getElem?_pos,wrap64,bb (l:=l),oZ,cN,kL,oF,a3,a5,a6,vl (nth l i).r (hw i h5),vm (nth l i).r (hw i h5),hz]
     exact bL (i+1) (by simp) ⟨by omega,done hz⟩ (by omega)
    ·simp (disch:=omega) [-getElem?_pos,wrap64,bb (l:=l),oZ,cN,kL,oF,a3,a5,a6,vl (nth l i).r (hw i h5),vm (nth l i).r (hw i h5),hz]
     exact stop hz
  ·obtain rfl:i=l.length:=by omega
   rw[mI]at hq;exact hq)
theorem Hx(r:Rr)(hr:mO r)(G:List aP):a8 F 56 [rr r] G=some (i64 (iz r),G) :=
 bV rfl rfl (by
  obtain⟨n,l⟩:=r;generalize hW:iz ⟨n,l⟩=W;unfold iz at hW;simp only at hW;obtain⟨hl,hw⟩:=hr;simp only at hl hw;by_cases h1:n<1
  ·rw[if_pos (.inl h1)]at hW
   simp (disch:=omega) [-getElem?_pos,wrap64,Ge,h1];exact hW
  by_cases h2:40<n
  ·rw[if_pos (.inr h2)]at hW
   simp (disch:=omega) [-getElem?_pos,wrap64,Ge,h1,h2];exact hW
  rw[if_neg (by omega)]at hW
  have h1n:1≤n:=by omega
  have h2n:n≤40:=by omega
  simp (disch:=omega) [-getElem?_pos,wrap64,Ge,h1,h2];refine go_loop (fun i:Nat=>acL (lS l) l.length i (Rr.row ⟨n,l⟩) G) (fun i=>i≤l.length∧dK (lE ⟨n,l⟩) (l.length-i) i=W) (fun i=>l.length-i) 0 rfl (by simp) ⟨by omega,hW⟩ ?_
  rintro i ⟨hi,hq⟩;simp (disch:=omega) [-getElem?_pos,wrap64,RO];refine bK (fun h5=>?_) (fun h5=>?_)
  ·have h5:i<l.length:=by omega
   rw[ld h5]at hq;have hE:lE ⟨n,l⟩ i=if (0≤(nth l i).f∧(nth l i).f≤n-1)∧(0≤(nth l i).t∧(nth l i).t≤n-1) then (if (nth l i).t≤(nth l i).f then 12 else if 0<i∧(nth l i).f≤(nth l (i-1)).f then 4 else eD (nth l i).r) else 11:=rfl
   by_cases a1:0≤(nth l i).f∧(nth l i).f≤n-1
   case neg =>
    have kL:(decide (0≤(nth l i).f)&&decide ((nth l i).f≤n-1))=false:=by simp;omega
    rw[if_neg (fun g=>a1 g.1)]at hE;rw[hE,if_neg (by decide)]at hq
    simp (disch:=omega) [-getElem?_pos,wrap64,bb (l:=l),oZ,cN,kL];exact hq
   have kL:(decide (0≤(nth l i).f)&&decide ((nth l i).f≤n-1))=true:=by simp;exact a1
   by_cases a2:0≤(nth l i).t∧(nth l i).t≤n-1
   case neg =>
    have oF:(decide (0≤(nth l i).t)&&decide ((nth l i).t≤n-1))=false:=by simp;omega
    rw[if_neg (fun g=>a2 g.2)]at hE;rw[hE,if_neg (by decide)]at hq
    simp (disch:=omega) [-getElem?_pos,wrap64,bb (l:=l),oZ,cN,kL,oF];exact hq
   have oF:(decide (0≤(nth l i).t)&&decide ((nth l i).t≤n-1))=true:=by simp;exact a2
   rw[if_pos ⟨a1,a2⟩]at hE;by_cases a3:(nth l i).t≤(nth l i).f
   ·rw[if_pos a3]at hE
    rw[hE,if_neg (by decide)]at hq
    simp (disch:=omega) [-getElem?_pos,wrap64,bb (l:=l),oZ,cN,kL,oF,a3];exact hq
   rw[if_neg a3]at hE;by_cases a4:0<i∧(nth l i).f≤(nth l (i-1)).f
   ·rw[if_pos a4]at hE
    rw[hE,if_neg (by decide)]at hq
    simp (disch:=omega) [-getElem?_pos,wrap64,bb (l:=l),oZ,cN,kL,oF,a3,a4.1,a4.2];exact hq
   rw[if_neg a4]at hE;have done:eD (nth l i).r=0→dK (lE ⟨n,l⟩) (l.length-(i+1)) (i+1)=W:=fun h=>by rwa [hE,h,if_pos rfl]at hq
   have stop:eD (nth l i).r≠0→eD (nth l i).r=W:=fun h=>by rwa [hE,if_neg h]at hq
   rcases (by omega:¬ 0<i∨(0<i∧¬ (nth l i).f≤(nth l (i-1)).f)) with a5 | ⟨a5,a6⟩
   ·by_cases hz:eD (nth l i).r=0
    ·simp (disch:=omega) [-getElem?_pos,wrap64,bb (l:=l),oZ,cN,kL,oF,a3,a5,vl (nth l i).r (hw i h5),vm (nth l i).r (hw i h5),hz]
     exact bL (i+1) (by simp) ⟨by omega,done hz⟩ (by omega)
    ·simp (disch:=omega) [-getElem?_pos,wrap64,bb (l:=l),oZ,cN,kL,oF,a3,a5,vl (nth l i).r (hw i h5),vm (nth l i).r (hw i h5),hz]
     exact stop hz
   ·by_cases hz:eD (nth l i).r=0
    ·simp (disch:=omega) [-getElem?_pos,wrap64,bb (l:=l),oZ,cN,kL,oF,a3,a5,a6,vl (nth l i).r (hw i h5),vm (nth l i).r (hw i h5),hz]
     exact bL (i+1) (by simp) ⟨by omega,done hz⟩ (by omega)
    ·simp (disch:=omega) [-getElem?_pos,wrap64,bb (l:=l),oZ,cN,kL,oF,a3,a5,a6,vl (nth l i).r (hw i h5),vm (nth l i).r (hw i h5),hz]
     exact stop hz
  ·obtain rfl:i=l.length:=by omega
   rw[mI]at hq;exact hq)
instance:Inhabited Dm:=⟨⟨⟨[],0,0,0,0,0⟩,[],[],0⟩⟩
structure Si where
 n:Int
 d:Dm
 deriving Inhabited
abbrev Si.row(x:Si):List V:=i64 x.n::x.d.row
abbrev uq(l:List Si):V:=.slice none 10 (l.map Si.row)
structure Cs where
 r:Rr
 s:List Si
abbrev Cs.row(c:Cs):List V:=[i64 c.r.n,lS c.r.l,uq c.s]
abbrev cs(c:Cs):V:=.agg c.row
def wH(c:Cs)(i:Nat):Int :=
 let x:=nth c.s i
 if 0≤x.n∧x.n<c.r.n then (if 0<i∧x.n≤(nth c.s (i-1)).n then 4 else eZ x.d) else 41
noncomputable def e7(c:Cs):Int:=if iz c.r≠0 then iz c.r else if 12<c.r.n then 41 else if 6<c.s.length then 10 else dK (wH c) c.s.length 0
structure Fl where
 t:Int
 d:List Ds
 w:List (List Int)
abbrev tj(l:List Ds):V:=.slice none 4 (l.map Ds.row)
abbrev vp(l:List (List Int)):V:=.slice none 1 (l.map fun p=>[ints p])
abbrev Fl.row(f:Fl):List V:=[i64 f.t,tj f.d,vp f.w]
abbrev fl(f:Fl):V:=.agg f.row
def rA(f:Fl):Prop:=∀i,(nth f.w i).length≤17592186044416
def mr(c:Cs)(l:List Ds):Prop:=l.length=c.s.length∧∀i,i<c.s.length→eZ (nth c.s i).d=0∧gC (nth c.s i).d (nth l i)
noncomputable instance {c:Cs} {l:List Ds}:Decidable (mr c l):=Classical.propDecidable _
def xW(c:Cs)(l:List (List Int)):Prop:=l.length=c.r.l.length∧∀i,i<c.r.l.length→eD (nth c.r.l i).r=0∧gM (nth c.r.l i).r (nth l i)
noncomputable instance {c:Cs} {l:List (List Int)}:Decidable (xW c l):=Classical.propDecidable _
def fG(c:Cs)(f:Fl):Prop:=(0≤f.t∧f.t≤16777216)∧mr c f.d∧xW c f.w
noncomputable instance {c:Cs} {f:Fl}:Decidable (fG c f):=Classical.propDecidable _
theorem M0(c:Cs)(hr:mO c.r)(G:List aP):a8 F 26 [cs c] G=some (i64 (e7 c),G) :=
 bV rfl rfl (by
  obtain⟨⟨n,l⟩,s⟩:=c;generalize hW:e7 ⟨⟨n,l⟩,s⟩=W;unfold e7 at hW;simp only at hW hr;have hk:=Hw ⟨n,l⟩ hr;have jq:=Hx ⟨n,l⟩ hr;by_cases h1:iz ⟨n,l⟩=0
  case neg =>
   rw[if_pos h1]at hW;simp (disch:=omega) [-getElem?_pos,wrap64,C1,hk,jq,h1];exact hW
  rw[if_neg (by omega)]at hW
  by_cases h2:12<n
  ·rw[if_pos h2]at hW
   simp (disch:=omega) [-getElem?_pos,wrap64,C1,hk,jq,h1,h2];exact hW
  rw[if_neg h2]at hW;by_cases h3:6<s.length
  ·rw[if_pos h3]at hW
   have iZ:(6:Int)<s.length:=by omega
   simp (disch:=omega) [-getElem?_pos,wrap64,C1,hk,jq,h1,h2,iZ];exact hW
  rw[if_neg h3]at hW;have iZ:¬ (6:Int)<s.length:=by omega
  simp (disch:=omega) [-getElem?_pos,wrap64,C1,hk,jq,h1,h2,iZ];refine go_loop (fun i:Nat=>ab7 (uq s) s.length i (Cs.row ⟨⟨n,l⟩,s⟩) G) (fun i=>i≤s.length∧dK (wH ⟨⟨n,l⟩,s⟩) (s.length-i) i=W) (fun i=>s.length-i) 0 rfl (by simp) ⟨by omega,hW⟩ ?_
  rintro i ⟨hi,hq⟩;simp (disch:=omega) [-getElem?_pos,wrap64,Rx];refine bK (fun h5=>?_) (fun h5=>?_)
  ·have h5:i<s.length:=by omega
   rw[ld h5]at hq;have hE:wH ⟨⟨n,l⟩,s⟩ i=if 0≤(nth s i).n∧(nth s i).n<n then (if 0<i∧(nth s i).n≤(nth s (i-1)).n then 4 else eZ (nth s i).d) else 41:=rfl
   by_cases a1:(nth s i).n<0
   ·rw[if_neg (by omega)]at hE
    rw[hE,if_neg (by decide)]at hq
    simp (disch:=omega) [-getElem?_pos,wrap64,bb (l:=s),a1];exact hq
   by_cases a2:n≤(nth s i).n
   ·rw[if_neg (by omega)]at hE
    rw[hE,if_neg (by decide)]at hq
    simp (disch:=omega) [-getElem?_pos,wrap64,bb (l:=s),a1,a2];exact hq
   rw[if_pos (by omega)]at hE
   by_cases a4:0<i∧(nth s i).n≤(nth s (i-1)).n
   ·rw[if_pos a4]at hE
    rw[hE,if_neg (by decide)]at hq
    simp (disch:=omega) [-getElem?_pos,wrap64,bb (l:=s),a1,a2,a4.1,a4.2];exact hq
   rw[if_neg a4]at hE;have done:eZ (nth s i).d=0→dK (wH ⟨⟨n,l⟩,s⟩) (s.length-(i+1)) (i+1)=W:=fun h=>by rwa [hE,h,if_pos rfl]at hq
   have stop:eZ (nth s i).d≠0→eZ (nth s i).d=W:=fun h=>by rwa [hE,if_neg h]at hq
   have hd:=zF (nth s i).d;have tN:=zG (nth s i).d;rcases (by omega:¬ 0<i∨(0<i∧¬ (nth s i).n≤(nth s (i-1)).n)) with a5 | ⟨a5,a6⟩
   ·by_cases hz:eZ (nth s i).d=0
    ·simp (disch:=omega) [-getElem?_pos,wrap64,bb (l:=s),a1,a2,a5,hd,tN,hz]
     exact bL (i+1) (by simp) ⟨by omega,done hz⟩ (by omega)
    ·simp (disch:=omega) [-getElem?_pos,wrap64,bb (l:=s),a1,a2,a5,hd,tN,hz]
     exact stop hz
   ·by_cases hz:eZ (nth s i).d=0
    ·simp (disch:=omega) [-getElem?_pos,wrap64,bb (l:=s),a1,a2,a5,a6,hd,tN,hz]
     exact bL (i+1) (by simp) ⟨by omega,done hz⟩ (by omega)
    ·simp (disch:=omega) [-getElem?_pos,wrap64,bb (l:=s),a1,a2,a5,a6,hd,tN,hz]
     exact stop hz
  ·obtain rfl:i=s.length:=by omega
   rw[mI]at hq;exact hq)
theorem M1(c:Cs)(hr:mO c.r)(G:List aP):a8 F 27 [cs c] G=some (i64 (e7 c),G) :=
 bV rfl rfl (by
  obtain⟨⟨n,l⟩,s⟩:=c;generalize hW:e7 ⟨⟨n,l⟩,s⟩=W;unfold e7 at hW;simp only at hW hr;have hk:=Hw ⟨n,l⟩ hr;have jq:=Hx ⟨n,l⟩ hr;by_cases h1:iz ⟨n,l⟩=0
  case neg =>
   rw[if_pos h1]at hW;simp (disch:=omega) [-getElem?_pos,wrap64,C2,hk,jq,h1];exact hW
  rw[if_neg (by omega)]at hW
  by_cases h2:12<n
  ·rw[if_pos h2]at hW
   simp (disch:=omega) [-getElem?_pos,wrap64,C2,hk,jq,h1,h2];exact hW
  rw[if_neg h2]at hW;by_cases h3:6<s.length
  ·rw[if_pos h3]at hW
   have iZ:(6:Int)<s.length:=by omega
   simp (disch:=omega) [-getElem?_pos,wrap64,C2,hk,jq,h1,h2,iZ];exact hW
  rw[if_neg h3]at hW;have iZ:¬ (6:Int)<s.length:=by omega
  simp (disch:=omega) [-getElem?_pos,wrap64,C2,hk,jq,h1,h2,iZ];refine go_loop (fun i:Nat=>ab9 (uq s) s.length i (Cs.row ⟨⟨n,l⟩,s⟩) G) (fun i=>i≤s.length∧dK (wH ⟨⟨n,l⟩,s⟩) (s.length-i) i=W) (fun i=>s.length-i) 0 rfl (by simp) ⟨by omega,hW⟩ ?_
  rintro i ⟨hi,hq⟩;simp (disch:=omega) [-getElem?_pos,wrap64,Ry];refine bK (fun h5=>?_) (fun h5=>?_)
  ·have h5:i<s.length:=by omega
   rw[ld h5]at hq;have hE:wH ⟨⟨n,l⟩,s⟩ i=if 0≤(nth s i).n∧(nth s i).n<n then (if 0<i∧(nth s i).n≤(nth s (i-1)).n then 4 else eZ (nth s i).d) else 41:=rfl
   by_cases a1:(nth s i).n<0
   ·rw[if_neg (by omega)]at hE
    rw[hE,if_neg (by decide)]at hq
    simp (disch:=omega) [-getElem?_pos,wrap64,bb (l:=s),a1];exact hq
   by_cases a2:n≤(nth s i).n
   ·rw[if_neg (by omega)]at hE
    rw[hE,if_neg (by decide)]at hq
    simp (disch:=omega) [-getElem?_pos,wrap64,bb (l:=s),a1,a2];exact hq
   rw[if_pos (by omega)]at hE
   by_cases a4:0<i∧(nth s i).n≤(nth s (i-1)).n
   ·rw[if_pos a4]at hE
    rw[hE,if_neg (by decide)]at hq
    simp (disch:=omega) [-getElem?_pos,wrap64,bb (l:=s),a1,a2,a4.1,a4.2];exact hq
   rw[if_neg a4]at hE;have done:eZ (nth s i).d=0→dK (wH ⟨⟨n,l⟩,s⟩) (s.length-(i+1)) (i+1)=W:=fun h=>by rwa [hE,h,if_pos rfl]at hq
   have stop:eZ (nth s i).d≠0→eZ (nth s i).d=W:=fun h=>by rwa [hE,if_neg h]at hq
   have hd:=zF (nth s i).d;have tN:=zG (nth s i).d;rcases (by omega:¬ 0<i∨(0<i∧¬ (nth s i).n≤(nth s (i-1)).n)) with a5 | ⟨a5,a6⟩
   ·by_cases hz:eZ (nth s i).d=0
    ·simp (disch:=omega) [-getElem?_pos,wrap64,bb (l:=s),a1,a2,a5,hd,tN,hz]
     exact bL (i+1) (by simp) ⟨by omega,done hz⟩ (by omega)
    ·simp (disch:=omega) [-getElem?_pos,wrap64,bb (l:=s),a1,a2,a5,hd,tN,hz]
     exact stop hz
   ·by_cases hz:eZ (nth s i).d=0
    ·simp (disch:=omega) [-getElem?_pos,wrap64,bb (l:=s),a1,a2,a5,a6,hd,tN,hz]
     exact bL (i+1) (by simp) ⟨by omega,done hz⟩ (by omega)
    ·simp (disch:=omega) [-getElem?_pos,wrap64,bb (l:=s),a1,a2,a5,a6,hd,tN,hz]
     exact stop hz
  ·obtain rfl:i=s.length:=by omega
   rw[mI]at hq;exact hq)
structure ur(c:Cs):Prop where
 k:iz c.r=0
 n:c.r.n≤12
 s:c.s.length≤6
 site:∀i,i<c.s.length→wH c i=0
theorem kb{c:Cs}(h:e7 c=0):ur c:=by
 unfold e7 at h;split at h
 ·rename_i h1;exact absurd h h1
 split at h
 ·cases h
 split at h
 ·cases h
 rename_i h1 h2 h3;exact⟨Decidable.of_not_not h1,by omega,by omega,fun i hi=>rm h i (by omega) (by omega)⟩
theorem WG(c:Cs)(hs:c.s.length≤1000)(l:List Ds)(G:List aP):a8 F 74 [cs c,tj l] G=some (.bool (decide (mr c l)),G) :=
 bV rfl rfl (by
  obtain⟨r,s⟩:=c;simp only at hs;generalize hW:decide (mr ⟨r,s⟩ l)=W;have no:¬ mr ⟨r,s⟩ l→W=false:=fun h=>by rw[←hW];simp[h]
  have yes:mr ⟨r,s⟩ l→W=true:=fun h=>by rw[←hW];simp[h]
  unfold mr at no yes;simp only at no yes;by_cases h1:l.length=s.length
  case neg =>
   have lx:¬ (l.length:Int)=s.length:=by omega
   simp (disch:=omega) [-getElem?_pos,wrap64,KQ,lx];exact no (fun g=>h1 g.1)
  have lx:(l.length:Int)=s.length:=by omega
  simp (disch:=omega) [-getElem?_pos,wrap64,KQ,lx];refine go_loop (fun i:Nat=>adr (tj l) (uq s) s.length i G) (fun i=>i≤s.length∧∀j,j<i→eZ (nth s j).d=0∧gC (nth s j).d (nth l j)) (fun i=>s.length-i) 0 rfl (by simp) (by simp) ?_
  rintro i ⟨hi,hj⟩;simp (disch:=omega) [-getElem?_pos,wrap64,Sa];refine bK (fun h5=>?_) (fun h5=>?_)
  ·have h5:i<s.length:=by omega
   have h6:i<l.length:=by omega
   by_cases h7:eZ (nth s i).d=0∧gC (nth s i).d (nth l i)
   ·simp (disch:=omega) [-getElem?_pos,wrap64,bb (l:=s),bb (l:=l),Wc,h7.1,h7.2]
    refine bL (i+1) (by simp) ⟨by omega,fun j h8=>?_⟩ (by omega)
    rcases Nat.lt_or_ge j i with h9|h9
    ·exact hj j h9
    ·rwa [show j=i by omega]
   ·have h7':decide (eZ (nth s i).d=0∧gC (nth s i).d (nth l i))=false:=by simp only[h7,decide_false]
    have hv:=Wc (nth s i).d (nth l i);rw[h7']at hv;simp (disch:=omega) [-getElem?_pos,wrap64,bb (l:=s),bb (l:=l),hv];exact no (fun g=>h7 (g.2 i h5))
  ·obtain rfl:i=s.length:=by omega
   exact yes ⟨h1,hj⟩)
theorem WH(c:Cs)(hs:c.s.length≤1000)(hr:mO c.r)(f:Fl)(hf:rA f)(G:List aP):a8 F 70 [cs c,fl f] G=some (.bool (decide (fG c f)),G) :=
 bV rfl rfl (by
  have fA:=WG c hs f.d;obtain⟨⟨n,l⟩,s⟩:=c;obtain⟨t,d,w⟩:=f;generalize hW:decide (fG ⟨⟨n,l⟩,s⟩ ⟨t,d,w⟩)=W;have no:¬ fG ⟨⟨n,l⟩,s⟩ ⟨t,d,w⟩→W=false:=fun h=>by rw[←hW];simp[h]
  have yes:fG ⟨⟨n,l⟩,s⟩ ⟨t,d,w⟩→W=true:=fun h=>by rw[←hW];simp[h]
  unfold fG xW at no yes;simp only at no yes fA;unfold rA at hf;obtain⟨oM,oa⟩:=hr;simp only at hf oM oa;by_cases a1:t<0
  ·simp (disch:=omega) [-getElem?_pos,wrap64,A8,a1]
   exact no (by omega)
  by_cases a2:16777216<t
  ·simp (disch:=omega) [-getElem?_pos,wrap64,A8,a1,a2]
   exact no (by omega)
  by_cases a3:mr ⟨⟨n,l⟩,s⟩ d
  case neg =>
   simp (disch:=omega) [-getElem?_pos,wrap64,A8,a1,a2,fA,a3];exact no (fun g=>a3 g.2.1)
  by_cases a4:w.length=l.length
  case neg =>
   have zM:¬ (w.length:Int)=l.length:=by omega
   simp (disch:=omega) [-getElem?_pos,wrap64,A8,a1,a2,fA,a3,zM];exact no (fun g=>a4 g.2.2.1)
  have zM:(w.length:Int)=l.length:=by omega
  simp (disch:=omega) [-getElem?_pos,wrap64,A8,a1,a2,fA,a3,zM];refine go_loop (fun i:Nat=>ade (lS l) l.length i (Fl.row ⟨t,d,w⟩) G) (fun i=>i≤l.length∧∀j,j<i→eD (nth l j).r=0∧gM (nth l j).r (nth w j)) (fun i=>l.length-i) 0 rfl (by simp) (by simp) ?_
  rintro i ⟨hi,hj⟩;simp (disch:=omega) [-getElem?_pos,wrap64,R5];refine bK (fun h5=>?_) (fun h5=>?_)
  ·have h5:i<l.length:=by omega
   have h6:i<w.length:=by omega
   have hv:=ain (nth l i).r (oa i h5) (nth w i) (hf i);by_cases h7:eD (nth l i).r=0∧gM (nth l i).r (nth w i)
   ·rw[decide_eq_true h7]at hv
    simp (disch:=omega) [-getElem?_pos,wrap64,bb (l:=l),bb (l:=w),hv];refine bL (i+1) (by simp) ⟨by omega,fun j h8=>?_⟩ (by omega)
    rcases Nat.lt_or_ge j i with h9|h9
    ·exact hj j h9
    ·rwa [show j=i by omega]
   ·rw[decide_eq_false h7]at hv
    simp (disch:=omega) [-getElem?_pos,wrap64,bb (l:=l),bb (l:=w),hv];exact no (fun g=>h7 (g.2.2.2 i h5))
  ·obtain rfl:i=l.length:=by omega
   exact yes ⟨by omega,a3,a4,hj⟩)
theorem aiB(c:Cs)(hr:mO c.r)(f:Fl)(hf:rA f)(G:List aP):a8 F 28 [cs c,fl f] G=some (.bool (decide (e7 c=0∧fG c f)),G) :=
 bV rfl rfl (by
  have h1:=M0 c hr;by_cases hz:e7 c=0
  ·have h2:=WH c (by have:=(kb hz).s;omega) hr f hf
   simp[wrap64,KG,h1,h2,hz]
  ·simp[wrap64,KG,h1,hz])
noncomputable def jm(c:Cs)(f:Fl):Int:=if e7 c≠0 then e7 c else if fG c f then 0 else 50
theorem M3(c:Cs)(hr:mO c.r)(f:Fl)(hf:rA f)(G:List aP):a8 F 54 [cs c,fl f] G=some (i64 (jm c f),G) :=
 bV rfl rfl (by
  have h1:=M0 c hr;unfold jm;by_cases hz:e7 c=0
  ·have h2:=WH c (by have:=(kb hz).s;omega) hr f hf
   by_cases hf:fG c f
   ·simp[wrap64,Gd,h1,h2,hz,hf]
   ·simp[wrap64,Gd,h1,h2,hz,hf]
  ·simp[wrap64,Gd,h1,hz])
theorem BC(x m:Int)(G:List aP):a8 F 71 [i64 x,i64 m] G=some (.bool (decide (0≤x)&&decide (x≤m)),G) :=
 bV rfl rfl (by simp +contextual [wrap64,R6])
theorem WI(c:Cs)(hr:mO c.r)(f:Fl)(hf:rA f)(G:List aP):a8 F 29 [cs c,fl f] G=some (.bool (decide (e7 c=0∧fG c f)),G) :=
 bV rfl rfl (by
  have hc:=M1 c hr;obtain⟨⟨n,l⟩,s⟩:=c;obtain⟨t,d,w⟩:=f;generalize hW:decide (e7 ⟨⟨n,l⟩,s⟩=0∧fG ⟨⟨n,l⟩,s⟩ ⟨t,d,w⟩)=W;have no:¬ (e7 ⟨⟨n,l⟩,s⟩=0∧fG ⟨⟨n,l⟩,s⟩ ⟨t,d,w⟩)→W=false:=fun h=>by rw[←hW];simp[h]
  have yes:(e7 ⟨⟨n,l⟩,s⟩=0∧fG ⟨⟨n,l⟩,s⟩ ⟨t,d,w⟩)→W=true:=fun h=>by rw[←hW];simp[h]
  unfold fG xW mr at no yes;simp only at no yes;unfold rA at hf;obtain⟨oM,oa⟩:=hr;simp only at hf oM oa;by_cases a0:e7 ⟨⟨n,l⟩,s⟩=0
  case neg =>
   simp (disch:=omega) [-getElem?_pos,wrap64,A7,hc,a0];exact no (fun g=>a0 g.1)
  have M4:=(kb a0).s;simp only at M4;by_cases a1:0≤t∧t≤16777216
  case neg =>
   have kL:(decide (0≤t)&&decide (t≤16777216))=false:=by simp;omega
   simp (disch:=omega) [-getElem?_pos,wrap64,A7,hc,a0,BC,kL];exact no (fun g=>a1 g.2.1)
  have kL:(decide (0≤t)&&decide (t≤16777216))=true:=by simp;exact a1
  by_cases a3:d.length=s.length
  case neg =>
   have Hy:¬ (d.length:Int)=s.length:=by omega
   simp (disch:=omega) [-getElem?_pos,wrap64,A7,hc,a0,BC,kL,Hy];exact no (fun g=>a3 g.2.2.1.1)
  have Hy:(d.length:Int)=s.length:=by omega
  by_cases a4:w.length=l.length
  case neg =>
   have zM:¬ (w.length:Int)=l.length:=by omega
   simp (disch:=omega) [-getElem?_pos,wrap64,A7,hc,a0,BC,kL,Hy,zM];exact no (fun g=>a4 g.2.2.2.1)
  have zM:(w.length:Int)=l.length:=by omega
  simp (disch:=omega) [-getElem?_pos,wrap64,A7,hc,a0,BC,kL,Hy,zM];refine go_loop (fun i:Nat=>acb (uq s) s.length i (Cs.row ⟨⟨n,l⟩,s⟩) (Fl.row ⟨t,d,w⟩) G) (fun i=>i≤s.length∧∀j,j<i→eZ (nth s j).d=0∧gC (nth s j).d (nth d j)) (fun i=>s.length-i) 0 rfl (by simp) (by simp) ?_
  rintro i ⟨hi,hj⟩;simp (disch:=omega) [-getElem?_pos,wrap64,Rz];refine bK (fun h5=>?_) (fun h5=>?_)
  ·have h5:i<s.length:=by omega
   have h6:i<d.length:=by omega
   have hv:=MB (nth s i).d (nth d i);by_cases h7:eZ (nth s i).d=0∧gC (nth s i).d (nth d i)
   ·rw[decide_eq_true h7]at hv
    simp (disch:=omega) [-getElem?_pos,wrap64,bb (l:=s),bb (l:=d),hv];refine bL (i+1) (by simp) ⟨by omega,fun j h8=>?_⟩ (by omega)
    rcases Nat.lt_or_ge j i with h9|h9
    ·exact hj j h9
    ·rwa [show j=i by omega]
   ·rw[decide_eq_false h7]at hv
    simp (disch:=omega) [-getElem?_pos,wrap64,bb (l:=s),bb (l:=d),hv];exact no (fun g=>h7 (g.2.2.1.2 i h5))
  ·obtain rfl:i=s.length:=by omega
   have qW:=hj;refine go_loop (fun i:Nat=>ace (lS l) l.length i (Fl.row ⟨t,d,w⟩) G) (fun i=>i≤l.length∧∀j,j<i→eD (nth l j).r=0∧gM (nth l j).r (nth w j)) (fun i=>l.length-i) 0 rfl (by simp) (by simp) ?_
   rintro i ⟨hi,hj⟩;simp (disch:=omega) [-getElem?_pos,wrap64,RA];refine bK (fun h5=>?_) (fun h5=>?_)
   ·have h5:i<l.length:=by omega
    have h6:i<w.length:=by omega
    have hv:=Wy (nth l i).r (oa i h5) (nth w i) (hf i);by_cases h7:eD (nth l i).r=0∧gM (nth l i).r (nth w i)
    ·rw[decide_eq_true h7]at hv
     simp (disch:=omega) [-getElem?_pos,wrap64,bb (l:=l),bb (l:=w),hv];refine bL (i+1) (by simp) ⟨by omega,fun j h8=>?_⟩ (by omega)
     rcases Nat.lt_or_ge j i with h9|h9
     ·exact hj j h9
     ·rwa [show j=i by omega]
    ·rw[decide_eq_false h7]at hv
     simp (disch:=omega) [-getElem?_pos,wrap64,bb (l:=l),bb (l:=w),hv];exact no (fun g=>h7 (g.2.2.2.2 i h5))
   ·obtain rfl:i=l.length:=by omega
    exact yes ⟨a0,a1,⟨a3,qW⟩,a4,hj⟩)
end Go.Proofs.YtmpikpodpgnjhaaGreat
namespace Go.Proofs.YtmpikpodpgnjhaaGreat
set_option linter.all false
open Go.Vm
theorem Hz{α:Type}{row:α→List V}{k:Nat}(hk:∀a,(row a).length=k):∀l:List α,(l.map row).flatten.length=l.length*k
 |[]=>by simp
 |a::l=>by
  rw[List.map_cons,List.flatten_cons,List.length_append,hk,Hz hk l,List.length_cons,Nat.add_mul,Nat.one_mul,Nat.add_comm]
theorem M5{α:Type}[Inhabited α]{row:α→List V}{k:Nat}(hk:∀a,(row a).length=k):∀{l:List α} {i:Nat},i<l.length→((l.map row).flatten.drop (i*k)).take k=row (nth l i)
 |[],i,h=>by simp at h
 |a::l,0,_=>by
  rw[Nat.zero_mul,List.drop_zero,List.map_cons,List.flatten_cons,List.take_append_of_le_length (by rw[hk];exact Nat.le_refl _),List.take_of_length_le (by rw[hk];exact Nat.le_refl _)]
  rfl
 |a::l,i+1,h=>by
  have ih:=M5 hk (l:=l) (i:=i) (by simpa using h)
  rw[List.map_cons,List.flatten_cons,show(i+1)*k=k+i*k by rw[Nat.add_mul,Nat.one_mul,Nat.add_comm],← List.drop_drop,List.drop_left' (hk a),ih]
  rfl
theorem M6{x:V}:∀{vs cs:List V} {off:Nat},iC (x::cs) (off+1) vs=x::iC cs off vs
 |[],_,_=>rfl
 |v::vs,cs,off=>by
  simp only[iC,List.set_cons_succ];exact M6
theorem WJ:∀{p:List V} {cs vs:List V} {off:Nat},iC (p++cs) (p.length+off) vs=p++iC cs off vs
 |[],cs,vs,off=>by simp
 |a::p,cs,vs,off=>by
  rw[List.cons_append,List.length_cons,show p.length+1+off=(p.length+off)+1 by omega,M6,WJ,List.cons_append]
theorem WK:∀{vs p cs:List V},p.length=vs.length→iC (p++cs) 0 vs=vs++cs
 |[],p,cs,h=>by
  have:p=[]:=List.length_eq_zero_iff.1 (by simpa using h)
  subst this;rfl
 |v::vs,[],cs,h=>by simp at h
 |v::vs,a::p,cs,h=>by
  simp only[iC,List.cons_append,List.set_cons_zero];rw[M6,WK (by simpa using h)]
theorem HA{α:Type}{row:α→List V}{k:Nat}(hk:∀a,(row a).length=k){x:α}:∀{l:List α} {i:Nat},i<l.length→iC (l.map row).flatten (i*k) (row x)=((l.set i x).map row).flatten
 |[],i,h=>by simp at h
 |a::l,0,_=>by
  rw[Nat.zero_mul,List.map_cons,List.flatten_cons,WK (by rw[hk,hk])]
  rfl
 |a::l,i+1,h=>by
  have ih:=HA hk (x:=x) (l:=l) (i:=i) (by simpa using h)
  rw[List.map_cons,List.flatten_cons,show(i+1)*k=(row a).length+i*k by rw[hk,Nat.add_mul,Nat.one_mul,Nat.add_comm],WJ,ih]
  rfl
theorem qH{α:Type}[Inhabited α]{l:List α}{i j:Nat}{x:α}(h:i<l.length):nth (l.set i x) j=if j=i then x else nth l j:=by
 unfold nth;rw[List.getD_eq_getElem?_getD,List.getD_eq_getElem?_getD,List.getElem?_set];by_cases hj:j=i
 ·subst hj;simp[h]
 ·rw[if_neg hj,if_neg (fun e=>hj e.symm)]
end Go.Proofs.YtmpikpodpgnjhaaGreat
namespace Go.Proofs.YtmpikpodpgnjhaaGreat
set_option linter.all false
open Go.Vm
attribute [local simp] mc me ma mb
theorem HB{α:Type}{row:α→List V}{k:Nat}(hk:∀a,(row a).length=k):∀{l:List α} {cs:List V} {off:Nat},cs.drop off=(l.map row).flatten→chunks k cs off l.length=l.map row
 |[],cs,off,h=>by simp[chunks]
 |a::l,cs,off,h=>by
  rw[List.map_cons,List.flatten_cons]at h;have h2:cs.drop (off+k)=(l.map row).flatten:=by
   rw[←List.drop_drop,h,List.drop_left' (hk a)]
  rw[List.length_cons,chunks,HB hk h2,h,List.take_left' (hk a),List.map_cons]
theorem HC{α:Type}{row:α→List V}{sh:Sh}(h:∀a,lD sh (row a)=some (row a)):∀l:List α,kV sh (l.map row)=some (l.map row)
 |[]=>rfl
 |a::l=>by simp[kV,h,HC h l]
def iP(l:List Ds):List V:=(l.map Ds.row).flatten
theorem WL(l:List Ds):(l.map Ds.row).flatten=iP l:=rfl
@[simp] theorem ape{l:List Ds}:(iP l).length=l.length*4:=Hz (row:=Ds.row) (fun _=>rfl) l
theorem wI{l:List Ds}{n:Nat}(h:n=l.length):kV [none,none,some 3,some 2] (chunks 4 (iP l) 0 n)=some (l.map Ds.row):=by
 subst h;rw[HB (row:=Ds.row) (fun _=>rfl) rfl];exact HC (fun a=>by simp) l
theorem WM{l:List Ds}{a:Ds}:iP l++a.row=iP (l++[a]):=by simp[iP]
def kc(l:List (List Int)):List V:=(l.map fun p=>[ints p]).flatten
theorem WN(l:List (List Int)):(l.map fun p=>[ints p]).flatten=kc l:=rfl
@[simp] theorem apf{l:List (List Int)}:(kc l).length=l.length:=by
 have:=Hz (row:=fun p=>[ints p]) (k:=1) (fun _=>rfl) l
 rwa [Nat.mul_one]at this
theorem BD{l:List (List Int)}{n:Nat}(h:n=l.length):kV [some 1] (chunks 1 (kc l) 0 n)=some (l.map fun p=>[ints p]):=by
 subst h;rw[HB (row:=fun p=>[ints p]) (fun _=>rfl) rfl];exact HC (fun a=>by simp) l
theorem WO{l:List (List Int)}{a:List Int}:kc l++[ints a]=kc (l++[a]):=by simp[kc]
theorem HD{α:Type}{row:α→List V}{p:V→Bool}(h:∀a,(row a).all p=true):∀l:List α,(l.map row).flatten.all p=true
 |[]=>rfl
 |a::l=>by rw[List.map_cons,List.flatten_cons,List.all_append,h,HD h l];rfl
theorem Eh{α:Type}{row:α→List V}{f:V→V}(h:∀a,(row a).map f=row a):∀l:List α,(l.map row).flatten.map f=(l.map row).flatten
 |[]=>rfl
 |a::l=>by rw[List.map_cons,List.flatten_cons,List.map_append,h,Eh h l]
@[simp] theorem apg{l:List Ds}{d:Nat}:((iP l).all fun v => !V.cj d v)=true:=HD (row:=Ds.row) (fun a=>by simp) l
@[simp] theorem aph{l:List (List Int)}{d:Nat}:((kc l).all fun v => !V.cj d v)=true:=HD (row:=fun p=>[ints p]) (fun a=>by simp) l
@[simp] theorem api{l:List Ds}{a b:Nat}:(iP l).map (V.iS a b)=iP l:=Eh (row:=Ds.row) (fun a=>by simp) l
@[simp] theorem apj{l:List (List Int)}{a b:Nat}:(kc l).map (V.iS a b)=kc l:=Eh (row:=fun p=>[ints p]) (fun a=>by simp) l
@[simp] theorem apk{l:List Ds}:(iP l).map V.jF=iP l:=Eh (row:=Ds.row) (fun a=>by simp) l
@[simp] theorem apl{l:List (List Int)}:(kc l).map V.jF=kc l:=Eh (row:=fun p=>[ints p]) (fun a=>by simp) l
def Ei(l:List Ds):Prop:=l.length≤1000∧∀i,i<l.length→(nth l i).u.length≤1000∧(nth l i).g.length≤1000
def M7(l:List (List Int)):Prop:=l.length≤1000∧∀i,i<l.length→(nth l i).length≤17592186044416
theorem M8(l:List Ds)(h:Ei l)(G:List aP):a8 F 76 [tj l] G=some (.df G.length 4 l.length,G++[.cells (iP l)]) :=
 bV rfl rfl (by
  obtain⟨hl,hs⟩:=h;simp (disch:=omega) [-getElem?_pos,wrap64,Sc];refine go_loop (fun i:Nat=>adt i (tj l) l.length i (iP (l.take i)) G) (fun i=>i≤l.length) (fun i=>l.length-i) 0 rfl (by simp[iP]) (by simp) ?_
  rintro i hi;simp (disch:=omega) [-getElem?_pos,wrap64,Sb];refine bK (fun h5=>?_) (fun h5=>?_)
  ·have h5:i<l.length:=by omega
   have hu:=aij (nth l i).u (hs i h5).1;have hg:=aik (nth l i).g (hs i h5).2;have hm:Nat.min i l.length=i:=Nat.min_eq_left hi;simp (disch:=omega) [-getElem?_pos,wrap64,bb (l:=l),hu,hg];exact bL (i+1) (by simp[ji h5,← WM]) (by omega) (by omega)
  ·obtain rfl:i=l.length:=by omega
   simp (disch:=omega) [-getElem?_pos,wrap64,wI,WL,List.take_length])
theorem WQ(l:List Int)(hl:l.length≤17592186044416)(G:List aP):a8 F 91 [ints l] G=some (.slice (some 0) 1 (l.map fun n=>[i64 n]),G):=by
 cases l with
 |nil =>
  refine JM (p:=0) (m:=1) rfl rfl rfl rfl ?_ ?_
  ·simp (disch:=omega) [wrap64,Gk]
  ·simp (disch:=omega) [wrap64,Gk]
 |cons a l =>
  have hl:l.length+1≤17592186044416:=by simpa using hl
  show a8 F 91 [.slice none 1 ([i64 a]::l.map fun n=>[i64 n])] G=some (.slice (some 0) 1 ([i64 a]::l.map fun n=>[i64 n]),G);refine JN (p:=0) rfl rfl rfl (fun m=>by simp) ?_
  simp (disch:=omega) [wrap64,Gk]
theorem WR(l:List (List Int))(h:M7 l)(G:List aP):a8 F 79 [vp l] G=some (.df G.length 1 l.length,G++[.cells (kc l)]) :=
 bV rfl rfl (by
  obtain⟨hl,hs⟩:=h;simp (disch:=omega) [-getElem?_pos,wrap64,Se];refine go_loop (fun i:Nat=>adv i (vp l) l.length i (kc (l.take i)) G) (fun i=>i≤l.length) (fun i=>l.length-i) 0 rfl (by simp[kc]) (by simp) ?_
  rintro i hi;simp (disch:=omega) [-getElem?_pos,wrap64,Sd];refine bK (fun h5=>?_) (fun h5=>?_)
  ·have h5:i<l.length:=by omega
   have hu:=WQ (nth l i) (hs i h5);have hm:Nat.min i l.length=i:=Nat.min_eq_left hi;simp (disch:=omega) [-getElem?_pos,wrap64,bb (l:=l),hu];exact bL (i+1) (by simp[ji h5,← WO]) (by omega) (by omega)
  ·obtain rfl:i=l.length:=by omega
   simp (disch:=omega) [-getElem?_pos,wrap64,BD,WN,List.take_length])
theorem WS(l:List Ds)(h:Ei l)(G:List aP):a8 F 63 [tj l] G=some (.df G.length 4 l.length,G++[.cells (iP l)]) :=
 bV rfl rfl (by
  obtain⟨hl,hs⟩:=h;simp (disch:=omega) [-getElem?_pos,wrap64,RW];refine go_loop (fun i:Nat=>acY i (tj l) l.length i (iP (l.take i)) G) (fun i=>i≤l.length) (fun i=>l.length-i) 0 rfl (by simp[iP]) (by simp) ?_
  rintro i hi;simp (disch:=omega) [-getElem?_pos,wrap64,RV];refine bK (fun h5=>?_) (fun h5=>?_)
  ·have h5:i<l.length:=by omega
   have hu:=(hs i h5).1;have hg:=(hs i h5).2;have hm:Nat.min i l.length=i:=Nat.min_eq_left hi;simp (disch:=omega) [-getElem?_pos,wrap64,bb (l:=l)];exact bL (i+1) (by simp[ji h5,← WM]) (by omega) (by omega)
  ·obtain rfl:i=l.length:=by omega
   simp (disch:=omega) [-getElem?_pos,wrap64,wI,WL,List.take_length])
theorem aiC(f:Fl)(h:Ei f.d)(hw:M7 f.w)(G:List aP):a8 F 22 [fl f] G=some (.agg [i64 f.t,.df G.length 4 f.d.length,.df (G.length+1) 1 f.w.length],G++[.cells (iP f.d),.cells (kc f.w)]) :=
 bV rfl rfl (by
  obtain⟨t,d,l⟩:=f;simp only at h hw;have hd:=WS d h;obtain⟨hl,hs⟩:=hw;simp (disch:=omega) [-getElem?_pos,wrap64,Rq,hd];refine go_loop (fun i:Nat=>ab1 i (vp l) l.length i [i64 t,.df G.length 4 d.length,vp l] [i64 0,.bW,.bW] (kc (l.take i)) (G++[.cells (iP d)])) (fun i=>i≤l.length) (fun i=>l.length-i) 0 rfl (by simp[kc]) (by simp) ?_
  rintro i hi;simp (disch:=omega) [-getElem?_pos,wrap64,Rp];refine bK (fun h5=>?_) (fun h5=>?_)
  ·have h5:i<l.length:=by omega
   have hu:=hs i h5;have hm:Nat.min i l.length=i:=Nat.min_eq_left hi;simp (disch:=omega) [-getElem?_pos,wrap64,bb (l:=l)];exact bL (i+1) (by simp[ji h5,← WO]) (by omega) (by omega)
  ·obtain rfl:i=l.length:=by omega
   simp (disch:=omega) [-getElem?_pos,wrap64,BD,WN,List.take_length])
end Go.Proofs.YtmpikpodpgnjhaaGreat
