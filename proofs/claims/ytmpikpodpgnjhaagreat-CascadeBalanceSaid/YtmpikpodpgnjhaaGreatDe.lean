/- Parts of the proof, joined: Ref6, Dam8, Dst1, Dsm1, Drn1, Drn2, Rch1, Rch2, Rch3, Rch4, Rch5, Riv1, Cas1, Cas2, Fla1, Cas3. -/
import Derived.Test.YtmpikpodpgnjhaaGreatDd
import Derived.Test.YtmpikpodpgnjhaaGreatDa
namespace Go.Proofs.YtmpikpodpgnjhaaGreat
set_option linter.all false
open Go.Vm
attribute [local simp] eU eV eS eT
theorem U6(d:Dm)(s:Ds)(inf los rel:Int):∃G',bt F 19 [dm d,dst s,i64 inf,i64 los,i64 rel] []=some (qi d s inf los rel,G'):=by
 suffices h:∀Q:V→List aW→Prop,(∀G',Q (qi d s inf los rel) G')→jq (bt F) 19 [dm d,dst s,i64 inf,i64 los,i64 rel] [] Q by
  obtain⟨_,G',h,rfl⟩:=h (fun v G'=>v=qi d s inf los rel) fun _=>rfl;exact⟨G',h⟩
 intro Q hQ;refine jV rfl rfl ?_;by_cases hd:dE d s=0
 ·obtain⟨pA,hf⟩:=Es hd
  have uj:lvl d s=jt d.r s.v:=by simp[lvl,hd]
  by_cases ho:[inf,los,rel].any uS=false
  ·have he:mZ d s inf los rel=0:=by unfold mZ;rw[if_neg (fun g=>g hd),ho];rfl
   unfold qi at hQ;rw[if_pos he]at hQ;have hx:=ho;simp only[uS,List.any_cons,List.any_nil,Bool.or_false,Bool.or_eq_false_iff,Bool.not_eq_false',decide_eq_true_eq]at hx;obtain⟨x1,x2,x3⟩:=hx;have i1:(decide (0≤inf)&&decide (inf≤1073741824))=true:=by simp;omega
   have i2:(decide (0≤los)&&decide (los≤1073741824))=true:=by simp;omega
   have i3:(decide (0≤rel)&&decide (rel≤1073741824))=true:=by simp;omega
   have p:=M8 pA hf x1 x2 x3;have hv:=hf.1;have hC:=HB pA.r;have hD:=HA pA.r;have U7:=Ea d.r d.r.d [];rw[aif pA.r,if_pos rfl,show ia d.r.c d.r.d=BI d from rfl]at U7;have U8:=Ea d.r d.r.t [];rw[Hx pA.r,if_pos rfl,show ia d.r.c d.r.t=jH d from rfl]at U8;have hL:s.v+inf-min los (s.v+inf)=eB s inf los:=rfl;have qz:max 0 (eB s inf los-BI d)=jI d (eB s inf los):=by unfold jI;omega
   have hLr:0≤eB s inf los∧eB s inf los≤4611686018427387904:=by unfold eB;omega
   have NR:0≤jI d (eB s inf los)∧jI d (eB s inf los)≤4611686018427387904:=by unfold jI;omega
   have hU:=aiY pA hf (q:=min rel (jI d (eB s inf los))) (by omega) []
   rw[show min (min rel (jI d (eB s inf los))) (200*d.gr)=kA d rel (eB s inf los) from rfl]at hU;rw[show gB (gL d s (kA d rel (eB s inf los))) d.u.length=fT d s inf los rel from rfl]at hU;have hT:=p.T0;have hTr:=p.Tr;have hW:min rel (jI d (eB s inf los))-fT d s inf los rel=mE d rel (eB s inf los) (fT d s inf los rel):=rfl;have hS:=ah9 d.g s.g (jt d.r s.v) (mE d rel (eB s inf los) (fT d s inf los rel)) [];have hF:=HG d.g s.g (jt d.r s.v) (mE d rel (eB s inf los) (fT d s inf los rel))
   have hP:min (mX d.g s.g (jt d.r s.v) (mE d rel (eB s inf los) (fT d s inf los rel))) (jI d (eB s inf los)-fT d s inf los rel)=kZ d s inf los rel:=rfl;have hP0:=p.P0;have hP1:=p.P1;have hO:max 0 (eB s inf los-(fT d s inf los rel+kZ d s inf los rel)-jH d)=qT d s inf los rel:=by unfold qT;omega
   have hO0:0≤qT d s inf los rel∧qT d s inf los rel≤4611686018427387904:=by unfold qT;omega
   have hmn:min 1073741824 (fT d s inf los rel+kZ d s inf los rel)=min (fT d s inf los rel+kZ d s inf los rel) 1073741824:=Int.min_comm _ _;unfold lr la at hQ;generalize qT d s inf los rel=O at *;generalize kZ d s inf los rel=P at *;generalize mE d rel (eB s inf los) (fT d s inf los rel)=W at *;generalize fT d s inf los rel=T at *;generalize hLL:eB s inf los=L at *;simp (config:={ maxSteps:=2000000 }) +contextual (disch:=omega) [-getElem?_pos,-List.length_eq_zero_iff,-Int.natCast_eq_zero,wrap64,yI,Ey,hd,uj,c5,i1,i2,i3,U7,U8]
   simp (config:={ maxSteps:=2000000 }) +contextual (disch:=omega) [-getElem?_pos,-List.length_eq_zero_iff,-Int.natCast_eq_zero,wrap64,hL,qz,hU];simp (config:={ maxSteps:=2000000 }) +contextual (disch:=omega) [-getElem?_pos,-List.length_eq_zero_iff,-Int.natCast_eq_zero,wrap64,hW,hS,hP,hO,hmn];exact hQ _
  ·have ho:[inf,los,rel].any uS=true:=(Bool.eq_false_or_eq_true _).resolve_right ho
   have he:mZ d s inf los rel=1:=by unfold mZ;rw[if_neg (fun g=>g hd),ho];rfl
   unfold qi at hQ;rw[he,if_neg (by omega)]at hQ
   simp only[uS,List.any_cons,List.any_nil,Bool.or_false]at ho;by_cases i1:0≤inf∧inf≤1073741824
   ·by_cases i2:0≤los∧los≤1073741824
    ·by_cases i3:0≤rel∧rel≤1073741824
     ·simp[i1,i2,i3]at ho
     ·have j1:(decide (0≤inf)&&decide (inf≤1073741824))=true:=by simp;omega
      have j2:(decide (0≤los)&&decide (los≤1073741824))=true:=by simp;omega
      have j3:(decide (0≤rel)&&decide (rel≤1073741824))=false:=by simp;omega
      simp (config:={ maxSteps:=2000000 }) +contextual (disch:=omega) [-getElem?_pos,-List.length_eq_zero_iff,-Int.natCast_eq_zero,wrap64,yI,Ey,hd,uj,c5,j1,j2,j3];exact hQ _
    ·have j1:(decide (0≤inf)&&decide (inf≤1073741824))=true:=by simp;omega
     have j2:(decide (0≤los)&&decide (los≤1073741824))=false:=by simp;omega
     simp (config:={ maxSteps:=2000000 }) +contextual (disch:=omega) [-getElem?_pos,-List.length_eq_zero_iff,-Int.natCast_eq_zero,wrap64,yI,Ey,hd,uj,c5,j1,j2];exact hQ _
   ·have j1:(decide (0≤inf)&&decide (inf≤1073741824))=false:=by simp;omega
    simp (config:={ maxSteps:=2000000 }) +contextual (disch:=omega) [-getElem?_pos,-List.length_eq_zero_iff,-Int.natCast_eq_zero,wrap64,yI,Ey,hd,uj,c5,j1];exact hQ _
 ·have he:mZ d s inf los rel=dE d s:=by unfold mZ;rw[if_pos hd]
  unfold qi at hQ;rw[he,if_neg hd]at hQ;simp[wrap64,yI,Ey,hd];exact hQ _
theorem ai5(s:List Us)(hs:s.length≤1000)(G:List aW):bt F 138 [jD s] G=some (D4 s,G):=by
 cases s with
 |nil =>
  refine JV (p:=0) (m:=3) rfl rfl rfl rfl ?_ ?_
  ·simp (disch:=omega) [wrap64,DN]
  ·simp (disch:=omega) [wrap64,DN]
 |cons a s =>
  have hs:s.length+1≤1000:=by simpa using hs
  show bt F 138 [.slice none 3 (a.row::s.map Us.row)] G=some (.slice (some 0) 3 (a.row::s.map Us.row),G);refine JW (p:=0) rfl rfl rfl (fun m=>by simp) ?_
  simp (disch:=omega) [wrap64,DN]
theorem ai6(s:List Gs)(hs:s.length≤1000)(G:List aW):bt F 139 [ju s] G=some (HH s,G):=by
 cases s with
 |nil =>
  refine JV (p:=0) (m:=2) rfl rfl rfl rfl ?_ ?_
  ·simp (disch:=omega) [wrap64,DO]
  ·simp (disch:=omega) [wrap64,DO]
 |cons a s =>
  have hs:s.length+1≤1000:=by simpa using hs
  show bt F 139 [.slice none 2 (a.row::s.map Gs.row)] G=some (.slice (some 0) 2 (a.row::s.map Gs.row),G);refine JW (p:=0) rfl rfl rfl (fun m=>by simp) ?_
  simp (disch:=omega) [wrap64,DO]
noncomputable def zO(d:Dm)(s:Ds)(A B C:List Int):Nat→Ds
 |0=>s
 |i+1=>lr d (zO d s A B C i) (nth A i) (nth B i) (nth C i)
noncomputable def U9(d:Dm)(s:Ds)(A B C:List Int)(i:Nat):Dr:=la d (zO d s A B C i) (nth A i) (nth B i) (nth C i)
noncomputable def HK(d:Dm)(s:Ds)(A B C:List Int)(n:Nat):List Dr:=(List.range n).map (U9 d s A B C)
end Go.Proofs.YtmpikpodpgnjhaaGreat
namespace Go.Proofs.YtmpikpodpgnjhaaGreat
set_option linter.all false
open Go.Vm
end Go.Proofs.YtmpikpodpgnjhaaGreat
namespace Go.Proofs.YtmpikpodpgnjhaaGreat
set_option linter.all false
open Go.Vm
theorem BK{α:Type}[Inhabited α]{l:List α}{i k:Nat}:nth (l.drop k) i=nth l (k+i):=by simp[nth,List.getElem?_drop]
theorem Va{d:Dm}{s:Ds}{A B C:List Int}{m:Nat}:∀i,zO d (zO d s A B C m) (A.drop m) (B.drop m) (C.drop m) i=zO d s A B C (m+i)
 |0=>rfl
 |i+1=>by
  rw[←Nat.add_assoc];simp only[zO];rw[Va i,BK,BK,BK]
theorem apD{d:Dm}{s:Ds}{A B C:List Int}{m n:Nat}:HK d s A B C m++HK d (zO d s A B C m) (A.drop m) (B.drop m) (C.drop m) n=HK d s A B C (m+n):=by
 unfold HK;rw[List.range_add,List.map_append,List.map_map];congr 1;refine List.map_congr_left fun i _=>?_;unfold U9;rw[Va,BK,BK,BK];rfl
end Go.Proofs.YtmpikpodpgnjhaaGreat
namespace Go.Proofs.YtmpikpodpgnjhaaGreat
set_option linter.all false
open Go.Vm
def okF(A B C:List Int)(i:Nat):Prop:=(0≤nth A i∧nth A i≤1073741824)∧(0≤nth B i∧nth B i≤1073741824)∧(0≤nth C i∧nth C i≤1073741824)
instance {A B C:List Int} {i:Nat}:Decidable (okF A B C i):=inferInstanceAs (Decidable (_∧_∧_))
def okA(A B C:List Int):Prop:=∀i,i<A.length→okF A B C i
noncomputable instance {A B C:List Int}:Decidable (okA A B C):=Classical.propDecidable _
end Go.Proofs.YtmpikpodpgnjhaaGreat
namespace Go.Proofs.YtmpikpodpgnjhaaGreat
set_option linter.all false
open Go.Vm
attribute [local simp] eU eV eS eT
theorem aja(r:Dr)(ht:0≤r.tur∧r.tur≤1099511627776)(hs:0≤r.spi∧r.spi≤1099511627776)(ho:0≤r.ovr∧r.ovr≤1099511627776)(G:List aW):bt F 95 [dr r] G=some (i64 (r.tur+r.spi+r.ovr),G) :=
 cg rfl rfl (by
  simp (disch:=omega) [wrap64,KZ])
theorem arV(a b:Ds)(r:Dr)(G:List aW):bt F 96 [dst a,dst b,dr r] G=some (.bool (decide (aiT a b r)),G) :=
 cg rfl rfl (by
  generalize hW:decide (aiT a b r)=W;simp (disch:=omega) [-getElem?_pos,wrap64,akt];refine go_loop (fun i:Nat=>aqY (ints (aiS a b r)) 7 i a.row b.row r.row G) (fun i=>i≤7∧∀j,j<i→UW (nth (aiS a b r) j)) (fun i=>7-i) 0 rfl (by simp[aiS]) ⟨by omega,by omega⟩ ?_
  rintro i ⟨hi,hj⟩;have hlen:(aiS a b r).length=7:=rfl;simp (disch:=omega) [-getElem?_pos,wrap64,ao4];refine b9 (fun h1=>?_) (fun h1=>?_)
  ·have h1:i<(aiS a b r).length:=by omega
   by_cases h2:UW (nth (aiS a b r) i)
   ·have h3:(decide (0≤nth (aiS a b r) i)&&decide (nth (aiS a b r) i≤274877906944))=true:=by simp;exact h2
    simp (disch:=omega) [-getElem?_pos,wrap64,eA (l:=aiS a b r),c5,h3];refine cc (i+1) (by simp) ⟨by omega,fun j EZ=>?_⟩ (by omega)
    rcases Nat.lt_or_ge j i with h4|h4
    ·exact hj j h4
    ·rwa [show j=i by omega]
   ·have h3:(decide (0≤nth (aiS a b r) i)&&decide (nth (aiS a b r) i≤274877906944))=false:=by
     have h2:¬ (0≤nth (aiS a b r) i∧nth (aiS a b r) i≤274877906944):=h2;simp;omega
    simp (disch:=omega) [-getElem?_pos,wrap64,eA (l:=aiS a b r),c5,h3];rw[←hW,decide_eq_false (fun h:aiT a b r=>h2 (h.1 i (by omega)))]
  ·have hj:∀j,j<7→UW (nth (aiS a b r) j):=fun j h=>hj j (by omega)
   have b0:0≤a.v∧a.v≤274877906944:=hj 0 (by omega)
   have b1:0≤b.v∧b.v≤274877906944:=hj 1 (by omega)
   have b2:0≤r.inf∧r.inf≤274877906944:=hj 2 (by omega)
   have b3:0≤r.los∧r.los≤274877906944:=hj 3 (by omega)
   have b4:0≤r.tur∧r.tur≤274877906944:=hj 4 (by omega)
   have b5:0≤r.spi∧r.spi≤274877906944:=hj 5 (by omega)
   have b6:0≤r.ovr∧r.ovr≤274877906944:=hj 6 (by omega)
   simp (disch:=omega) only[wrap64];rw[←hW];refine decide_eq_decide.2 ⟨fun h=>⟨hj,h⟩,fun h=>h.2⟩)
def fN(l:List Int)(b:Int):Prop:=∀i,i<l.length→0≤nth l i∧nth l i≤b
noncomputable instance {l:List Int} {b:Int}:Decidable (fN l b):=Classical.propDecidable _
def sm(l:List Int):Nat→Int
 |0=>0
 |i+1=>sm l i+nth l i
theorem BL{l:List Int}{b:Int}:∀{i:Nat},(∀j,j<i→0≤nth l j∧nth l j≤b)→0≤sm l i∧sm l i≤b*i
 |0,_=>by simp[sm]
 |i+1,h=>by
  have:=BL fun j hj=>h j (Nat.lt_succ_of_lt hj);have:=h i (by omega)
  have:b*((i+1:Nat):Int)=b*i+b:=by simp[Int.mul_add]
  simp only[sm];omega
structure Rc where
 w:List Int
 den:Int
 deriving Inhabited
abbrev Rc.row(r:Rc):List V:=[ints r.w,i64 r.den]
abbrev rc(r:Rc):V:=.agg r.row
abbrev wv(p:List Int):V:=.agg [ints p]
noncomputable def e8(r:Rc):Int :=
 if r.w.length=0∨nth r.w (r.w.length-1)=0 then 3 else if 24<r.w.length then 10 else if fN r.w 10000 then (if sm r.w r.w.length=r.den then 0 else 2) else 1
theorem uT(r:Rc)(hl:r.w.length≤17592186044416)(G:List aW):bt F 127 [rc r] G=some (i64 (e8 r),G) :=
 cg rfl rfl (by
  obtain⟨w,den⟩:=r;simp only at hl;generalize hW:e8 ⟨w,den⟩=W;unfold e8 at hW;simp only at hW;by_cases h1:w.length=0
  ·rw[if_pos (.inl h1)]at hW
   have nL:(w.length:Int)=0:=by omega
   simp (disch:=omega) [-getElem?_pos,-Int.natCast_eq_zero,wrap64,Bh,nL];exact hW
  have nL:¬ (w.length:Int)=0:=by omega
  by_cases h2:nth w (w.length-1)=0
  ·rw[if_pos (.inr h2)]at hW
   simp (disch:=omega) [-getElem?_pos,-Int.natCast_eq_zero,wrap64,Bh,nL,eA (l:=w),h2];exact hW
  rw[if_neg (by omega)]at hW
  by_cases h3:24<w.length
  ·rw[if_pos h3]at hW
   have jw:(24:Int)<w.length:=by omega
   simp (disch:=omega) [-getElem?_pos,-Int.natCast_eq_zero,wrap64,Bh,nL,eA (l:=w),h2,jw];exact hW
  rw[if_neg h3]at hW;have jw:¬ (24:Int)<w.length:=by omega
  simp (disch:=omega) [-getElem?_pos,-Int.natCast_eq_zero,wrap64,Bh,nL,eA (l:=w),h2,jw];refine go_loop (fun i:Nat=>abS (sm w i) (ints w) w.length i (Rc.row ⟨w,den⟩) G) (fun i=>i≤w.length∧∀j,j<i→0≤nth w j∧nth w j≤10000) (fun i=>w.length-i) 0 rfl (by simp[sm]) (by simp) ?_
  rintro i ⟨hi,hj⟩;have hs:=BL hj;simp (disch:=omega) [-getElem?_pos,-Int.natCast_eq_zero,wrap64,R9];refine b9 (fun h5=>?_) (fun h5=>?_)
  ·have h5:i<w.length:=by omega
   by_cases h6:0≤nth w i∧nth w i≤10000
   ·have iE:(decide (0≤nth w i)&&decide (nth w i≤10000))=true:=by simp;exact h6
    simp (disch:=omega) [-getElem?_pos,-Int.natCast_eq_zero,wrap64,eA (l:=w),dG,c5,iE];refine cc (i+1) (by simp[sm]) ⟨by omega,fun j h7=>?_⟩ (by omega)
    rcases Nat.lt_or_ge j i with h8|h8
    ·exact hj j h8
    ·rwa [show j=i by omega]
   ·have iE:(decide (0≤nth w i)&&decide (nth w i≤10000))=false:=by simp;omega
    rw[if_neg (fun g:fN w 10000=>h6 (g i h5))]at hW;simp (disch:=omega) [-getElem?_pos,-Int.natCast_eq_zero,wrap64,eA (l:=w),dG,c5,iE];exact hW
  ·obtain rfl:i=w.length:=by omega
   rw[if_pos (show fN w 10000 from hj)]at hW;by_cases h7:sm w w.length=den
   ·rw[if_pos h7]at hW
    simp (disch:=omega) [-getElem?_pos,-Int.natCast_eq_zero,wrap64,h7];exact hW
   ·rw[if_neg h7]at hW
    simp (disch:=omega) [-getElem?_pos,-Int.natCast_eq_zero,wrap64,h7];exact hW)
theorem uU(r:Rc)(hl:r.w.length≤17592186044416)(G:List aW):bt F 114 [rc r] G=some (i64 (e8 r),G) :=
 cg rfl rfl (by
  obtain⟨w,den⟩:=r;simp only at hl;generalize hW:e8 ⟨w,den⟩=W;unfold e8 at hW;simp only at hW;by_cases h1:w.length=0
  ·rw[if_pos (.inl h1)]at hW
   have nL:(w.length:Int)=0:=by omega
   simp (disch:=omega) [-getElem?_pos,-Int.natCast_eq_zero,wrap64,Be,nL];exact hW
  have nL:¬ (w.length:Int)=0:=by omega
  by_cases h2:nth w (w.length-1)=0
  ·rw[if_pos (.inr h2)]at hW
   simp (disch:=omega) [-getElem?_pos,-Int.natCast_eq_zero,wrap64,Be,nL,eA (l:=w),h2];exact hW
  rw[if_neg (by omega)]at hW
  by_cases h3:24<w.length
  ·rw[if_pos h3]at hW
   have jw:(24:Int)<w.length:=by omega
   simp (disch:=omega) [-getElem?_pos,-Int.natCast_eq_zero,wrap64,Be,nL,eA (l:=w),h2,jw];exact hW
  rw[if_neg h3]at hW;have jw:¬ (24:Int)<w.length:=by omega
  simp (disch:=omega) [-getElem?_pos,-Int.natCast_eq_zero,wrap64,Be,nL,eA (l:=w),h2,jw];refine go_loop (fun i:Nat=>aby (sm w i) (ints w) w.length i (Rc.row ⟨w,den⟩) G) (fun i=>i≤w.length∧∀j,j<i→0≤nth w j∧nth w j≤10000) (fun i=>w.length-i) 0 rfl (by simp[sm]) (by simp) ?_
  rintro i ⟨hi,hj⟩;have hs:=BL hj;simp (disch:=omega) [-getElem?_pos,-Int.natCast_eq_zero,wrap64,RX];refine b9 (fun h5=>?_) (fun h5=>?_)
  ·have h5:i<w.length:=by omega
   by_cases h6:0≤nth w i∧nth w i≤10000
   ·have iE:(decide (0≤nth w i)&&decide (nth w i≤10000))=true:=by simp;exact h6
    simp (disch:=omega) [-getElem?_pos,-Int.natCast_eq_zero,wrap64,eA (l:=w),dG,c5,iE];refine cc (i+1) (by simp[sm]) ⟨by omega,fun j h7=>?_⟩ (by omega)
    rcases Nat.lt_or_ge j i with h8|h8
    ·exact hj j h8
    ·rwa [show j=i by omega]
   ·have iE:(decide (0≤nth w i)&&decide (nth w i≤10000))=false:=by simp;omega
    rw[if_neg (fun g:fN w 10000=>h6 (g i h5))]at hW;simp (disch:=omega) [-getElem?_pos,-Int.natCast_eq_zero,wrap64,eA (l:=w),dG,c5,iE];exact hW
  ·obtain rfl:i=w.length:=by omega
   rw[if_pos (show fN w 10000 from hj)]at hW;by_cases h7:sm w w.length=den
   ·rw[if_pos h7]at hW
    simp (disch:=omega) [-getElem?_pos,-Int.natCast_eq_zero,wrap64,h7];exact hW
   ·rw[if_neg h7]at hW
    simp (disch:=omega) [-getElem?_pos,-Int.natCast_eq_zero,wrap64,h7];exact hW)
def iv(r:Rc)(p:List Int):Prop:=p.length≤r.w.length∧(0<p.length→nth p (p.length-1)≠0)∧fN p 2251799813685248
noncomputable instance {r:Rc} {p:List Int}:Decidable (iv r p):=Classical.propDecidable _
theorem Vb(r:Rc)(p:List Int)(hl:p.length≤17592186044416)(G:List aW):bt F 174 [rc r,wv p] G=some (.bool (decide (iv r p)),G) :=
 cg rfl rfl (by
  obtain⟨w,den⟩:=r;generalize hW:decide (iv ⟨w,den⟩ p)=W;have no:¬ iv ⟨w,den⟩ p→W=false:=fun h=>by rw[←hW];simp[h]
  unfold iv at no;simp only at no;by_cases h1:(w.length:Int)<p.length
  ·simp +contextual (disch:=omega) [-getElem?_pos,wrap64,Bj,h1]
   exact no (by omega)
  by_cases h2:0<p.length∧nth p (p.length-1)=0
  ·have lM:(0:Int)<p.length:=by omega
   simp +contextual (disch:=omega) [-getElem?_pos,wrap64,Bj,h1,lM,eA (l:=p),h2.2];exact no (fun h=>h.2.1 h2.1 h2.2)
  rcases (by omega:(0:Int)<p.length∧nth p (p.length-1)≠0∨¬ (0:Int)<p.length) with⟨h3,h4⟩ | h3
  ·simp +contextual (disch:=omega) [-getElem?_pos,wrap64,Bj,h1,h3,eA (l:=p),h4]
   refine go_loop (fun i:Nat=>acN (ints p) p.length i G) (fun i=>i≤p.length∧∀j,j<i→0≤nth p j∧nth p j≤2251799813685248) (fun i=>p.length-i) 0 rfl (by simp) (by simp) ?_
   rintro i ⟨hi,hj⟩;simp +contextual (disch:=omega) [-getElem?_pos,wrap64,LA];refine b9 (fun h5=>?_) (fun h5=>?_)
   ·have h5:i<p.length:=by omega
    by_cases h6:0≤nth p i∧nth p i≤2251799813685248
    ·have iE:(decide (0≤nth p i)&&decide (nth p i≤2251799813685248))=true:=by simp;exact h6
     simp +contextual (disch:=omega) [-getElem?_pos,wrap64,eA (l:=p),dG,c5,iE];refine cc (i+1) (by simp) ⟨by omega,fun j h7=>?_⟩ (by omega)
     rcases Nat.lt_or_ge j i with h8|h8
     ·exact hj j h8
     ·rwa [show j=i by omega]
    ·have iE:(decide (0≤nth p i)&&decide (nth p i≤2251799813685248))=false:=by simp;omega
     simp +contextual (disch:=omega) [-getElem?_pos,wrap64,eA (l:=p),dG,c5,iE];exact no (fun h=>h6 (h.2.2 i h5))
   ·obtain rfl:i=p.length:=by omega
    rw[←hW,decide_eq_true (show iv ⟨w,den⟩ p from⟨by simp only;omega,fun h6 h7=>h2 ⟨h6,h7⟩,hj⟩)]
  ·obtain rfl:p=[]:=List.length_eq_zero_iff.1 (by omega)
   have nL:¬ (w.length:Int)<0:=by omega
   simp +contextual (disch:=omega) [-getElem?_pos,wrap64,Bj,nL];unfold SG;rw[yH];simp +contextual (disch:=omega) [-getElem?_pos,wrap64,LA];rw[←hW,decide_eq_true (show iv ⟨w,den⟩ [] from⟨by simp,by simp,fun i hi=>by simp at hi⟩)])
theorem Ve(r:Rc)(hr:r.w.length≤17592186044416)(p:List Int)(hl:p.length≤17592186044416)(G:List aW):bt F 73 [rc r,wv p] G=some (.bool (decide (e8 r=0∧iv r p)),G) :=
 cg rfl rfl (by
  have hc:=uU r hr;by_cases hz:e8 r=0
  ·rw[hz]at hc
   obtain⟨w,den⟩:=r;rw[show decide (e8 ⟨w,den⟩=0∧iv ⟨w,den⟩ p)=decide (iv ⟨w,den⟩ p) by simp[hz]]
   generalize hW:decide (iv ⟨w,den⟩ p)=W;have no:¬ iv ⟨w,den⟩ p→W=false:=fun h=>by rw[←hW];simp[h]
   unfold iv at no;simp only at no;by_cases h1:(w.length:Int)<p.length
   ·simp +contextual (disch:=omega) [-getElem?_pos,wrap64,yU,hc,h1]
    exact no (by omega)
   by_cases h2:0<p.length∧nth p (p.length-1)=0
   ·have lM:(0:Int)<p.length:=by omega
    simp +contextual (disch:=omega) [-getElem?_pos,wrap64,yU,hc,h1,lM,eA (l:=p),h2.2];exact no (fun h=>h.2.1 h2.1 h2.2)
   rcases (by omega:(0:Int)<p.length∧nth p (p.length-1)≠0∨¬ (0:Int)<p.length) with⟨h3,h4⟩ | h3
   ·simp +contextual (disch:=omega) [-getElem?_pos,wrap64,yU,hc,h1,h3,eA (l:=p),h4]
    refine go_loop (fun i:Nat=>abj (ints p) p.length i G) (fun i=>i≤p.length∧∀j,j<i→0≤nth p j∧nth p j≤2251799813685248) (fun i=>p.length-i) 0 rfl (by simp) (by simp) ?_
    rintro i ⟨hi,hj⟩;simp +contextual (disch:=omega) [-getElem?_pos,wrap64,KS];refine b9 (fun h5=>?_) (fun h5=>?_)
    ·have h5:i<p.length:=by omega
     by_cases h6:0≤nth p i∧nth p i≤2251799813685248
     ·have iE:(decide (0≤nth p i)&&decide (nth p i≤2251799813685248))=true:=by simp;exact h6
      simp +contextual (disch:=omega) [-getElem?_pos,wrap64,eA (l:=p),dG,c5,iE];refine cc (i+1) (by simp) ⟨by omega,fun j h7=>?_⟩ (by omega)
      rcases Nat.lt_or_ge j i with h8|h8
      ·exact hj j h8
      ·rwa [show j=i by omega]
     ·have iE:(decide (0≤nth p i)&&decide (nth p i≤2251799813685248))=false:=by simp;omega
      simp +contextual (disch:=omega) [-getElem?_pos,wrap64,eA (l:=p),dG,c5,iE];exact no (fun h=>h6 (h.2.2 i h5))
    ·obtain rfl:i=p.length:=by omega
     rw[←hW,decide_eq_true (show iv ⟨w,den⟩ p from⟨by simp only;omega,fun h6 h7=>h2 ⟨h6,h7⟩,hj⟩)]
   ·obtain rfl:p=[]:=List.length_eq_zero_iff.1 (by omega)
    have nL:¬ (w.length:Int)<0:=by omega
    simp +contextual (disch:=omega) [-getElem?_pos,wrap64,yU,hc,nL];unfold RN;rw[yH];simp +contextual (disch:=omega) [-getElem?_pos,wrap64,KS];rw[←hW,decide_eq_true (show iv ⟨w,den⟩ [] from⟨by simp,by simp,fun i hi=>by simp at hi⟩)]
  ·generalize hW:decide (e8 r=0∧iv r p)=W
   simp +contextual (disch:=omega) [-getElem?_pos,wrap64,yU,hc,hz];rw[←hW];simp[hz])
theorem ajb(r:Rc)(hr:r.w.length≤17592186044416)(p:List Int)(hl:p.length≤17592186044416)(G:List aW):bt F 134 [rc r,wv p] G=some (.bool (decide (e8 r=0∧iv r p)),G) :=
 cg rfl rfl (by
  have hc:=uT r hr;have hf:=Vb r p hl;by_cases hz:e8 r=0
  ·simp[wrap64,Gq,hc,hf,hz]
  ·simp[wrap64,Gq,hc,hf,hz])
theorem apr(p:List Int)(hl:p.length≤40)(h:fN p 2251799813685248)(G:List aW):bt F 65 [wv p] G=some (i64 (sm p p.length),G) :=
 cg rfl rfl (by
  generalize hW:sm p p.length=W;simp (disch:=omega) [-getElem?_pos,wrap64,akj];refine go_loop (fun i:Nat=>aqN (sm p i) (ints p) p.length i G) (fun i=>i≤p.length) (fun i=>p.length-i) 0 rfl (by simp[sm]) (by omega) ?_
  rintro i hi;have hs:=BL (l:=p) (b:=2251799813685248) (i:=i) fun j hj=>h j (by omega)
  simp (disch:=omega) [-getElem?_pos,wrap64,ao0];refine b9 (fun h5=>?_) (fun h5=>?_)
  ·have h5:i<p.length:=by omega
   have:=h i h5;simp (disch:=omega) [-getElem?_pos,wrap64,eA (l:=p)];exact cc (i+1) (by simp[sm]) (by omega) (by omega)
  ·obtain rfl:i=p.length:=by omega
   rw[hW])
theorem aps(p:List Int)(hl:p.length≤40)(h:fN p 2251799813685248)(G:List aW):bt F 66 [wv p] G=some (i64 (sm p p.length),G) :=
 cg rfl rfl (by
  generalize hW:sm p p.length=W;simp (disch:=omega) [-getElem?_pos,wrap64,akm];refine go_loop (fun i:Nat=>aqP (sm p i) (ints p) p.length i G) (fun i=>i≤p.length) (fun i=>p.length-i) 0 rfl (by simp[sm]) (by omega) ?_
  rintro i hi;have hs:=BL (l:=p) (b:=2251799813685248) (i:=i) fun j hj=>h j (by omega)
  simp (disch:=omega) [-getElem?_pos,wrap64,ao1];refine b9 (fun h5=>?_) (fun h5=>?_)
  ·have h5:i<p.length:=by omega
   have:=h i h5;simp (disch:=omega) [-getElem?_pos,wrap64,eA (l:=p)];exact cc (i+1) (by simp[sm]) (by omega) (by omega)
  ·obtain rfl:i=p.length:=by omega
   rw[hW])
structure Rv(r:Rc):Prop where
 pos:1≤r.w.length
 len:r.w.length≤24
 last:nth r.w (r.w.length-1)≠0
 w:∀i,i<r.w.length→0≤nth r.w i∧nth r.w i≤10000
 sum:sm r.w r.w.length=r.den
 den:1≤r.den∧r.den≤240000
theorem wa{r:Rc}(h:e8 r=0):Rv r:=by
 unfold e8 at h;split at h
 ·cases h
 split at h
 ·cases h
 split at h
 ·rename_i h1 h2 h3
  split at h
  ·rename_i h4
   have h0:1≤r.w.length:=by omega
   have s1:=BL (l:=r.w) (b:=10000) (i:=r.w.length) h3;have s2:=BL (l:=r.w) (b:=10000) (i:=r.w.length-1) fun j hj=>h3 j (by omega)
   have s3:sm r.w r.w.length=sm r.w (r.w.length-1)+nth r.w (r.w.length-1):=by
    conv=>lhs;rw[show r.w.length=r.w.length-1+1 by omega]
    rfl
   have h5:=h3 (r.w.length-1) (by omega)
   exact⟨h0,by omega,by omega,h3,h4,by omega⟩
  ·cases h
 ·cases h
def rq(r:Rc)(p:List Int)(x:Int)(k:Nat):Int:=nth p k+x*nth r.w k
def sV(r:Rc)(p:List Int)(x:Int):Prop:=∀k,k<r.w.length→rq r p x k≤1125899906842624
noncomputable instance {r:Rc} {p:List Int} {x:Int}:Decidable (sV r p x):=Classical.propDecidable _
def m5(r:Rc)(p:List Int)(x:Int):Int:=rq r p x 0 / r.den
def rN(r:Rc)(p:List Int)(x:Int)(k:Nat):Int:=if k=0 then rq r p x 1+rq r p x 0 % r.den else rq r p x (k+1)
def oj(f:Nat→Int):Nat→Nat
 |0=>0
 |n+1=>if f n=0 then oj f n else n+1
def m7(r:Rc)(p:List Int)(x:Int):List Int:=(List.range (oj (rN r p x) r.w.length)).map (rN r p x)
theorem wb{l:List Int}{i:Nat}(h:l.length≤i):nth l i=0:=by
 simp[nth,List.getD,List.getElem?_eq_none h]
theorem wc{r:Rc}(hr:Rv r){p:List Int}(hp:iv r p){x:Int}(hx:0≤x∧x≤1073741824)(k:Nat):0≤rq r p x k∧rq r p x k≤2262537232089088:=by
 have h1:0≤nth p k∧nth p k≤2251799813685248:=by
  rcases Nat.lt_or_ge k p.length with h|h
  ·exact hp.2.2 k h
  ·rw[wb h];omega
 have h2:0≤nth r.w k∧nth r.w k≤10000:=by
  rcases Nat.lt_or_ge k r.w.length with h|h
  ·exact hr.w k h
  ·rw[wb h];omega
 have h3:0≤x*nth r.w k:=Int.mul_nonneg hx.1 h2.1;have h4:x*nth r.w k≤1073741824*10000:=Int.mul_le_mul hx.2 h2.2 h2.1 (by omega)
 unfold rq;omega
theorem Vg{p:List Int}:(dS p).all V.sc=true:=by simp[dS,V.sc]
theorem Vh{p:List Int}{n:Nat}(h:p.length≤n):(dS p).take n++(eW n fun _=>0).drop p.length=eW n (nth p):=by
 rw[List.take_of_length_le (by simpa using h)]
 apply List.ext_getElem?;intro i;rcases Nat.lt_or_ge i p.length with h1|h1
 ·rw[List.getElem?_append_left (by simpa using h1),kT h1,oc (by omega)]
 ·rw[List.getElem?_append_right (by simpa using h1),Zo,List.getElem?_drop,show p.length+(i-p.length)=i by omega]
  rcases Nat.lt_or_ge i n with h2|h2
  ·rw[oc h2,oc h2,wb h1]
  ·rw[List.getElem?_eq_none (by simpa using h2),List.getElem?_eq_none (by simpa using h2)]
theorem ajc{n:Nat}{f:Nat→Int}:(List.take n (eW (n+1) f).tail).all V.sc=true:=by
 rw[List.all_eq_true];intro v hv;have:=List.mem_of_mem_tail (List.mem_of_mem_take hv);simp only[eW,List.mem_map]at this;obtain⟨j,_,rfl⟩:=this;rfl
theorem ajd{n:Nat}{f:Nat→Int}:List.take (n+1) (List.take n (eW (n+1) f).tail)++List.drop n (eW (n+1) f)=eW (n+1) fun k=>if k<n then f (k+1) else f k:=by
 apply List.ext_getElem?;intro i;have hl:(List.take n (eW (n+1) f).tail).length=n:=by simp
 rw[List.take_of_length_le (by rw[hl];omega)]
 rcases Nat.lt_or_ge i n with h|h
 ·rw[List.getElem?_append_left (by rw[hl];exact h),List.getElem?_take_of_lt h,List.getElem?_tail,oc (by omega),oc (by omega),if_pos h]
 ·rw[List.getElem?_append_right (by rw[hl];exact h),hl,List.getElem?_drop,show n+(i-n)=i by omega]
  rcases Nat.lt_or_ge i (n+1) with h2|h2
  ·rw[oc h2,oc h2,if_neg (by omega)]
  ·rw[List.getElem?_eq_none (by simpa using h2),List.getElem?_eq_none (by simpa using h2)]
theorem Vi{n m:Nat}{f:Nat→Int}(h:m≤n):ly [none] (chunks 1 (eW n f) 0 m)=some ((List.range m).map fun j=>[V.int .i64 (f j)]):=by
 have e:(eW n f).take m=eW m f:=by
  apply List.ext_getElem?;intro i;rcases Nat.lt_or_ge i m with h1|h1
  ·rw[List.getElem?_take_of_lt h1,oc (by omega),oc h1]
  ·rw[List.getElem?_eq_none (by simp;omega),List.getElem?_eq_none (by simpa using h1)]
 rw[C5 _ _ _ rfl (by simpa using h),List.drop_zero,e,eW,List.map_map]
 exact FR f _
theorem aje(r:Rc)(hr:Rv r)(p:List Int)(hp:iv r p)(x:Int)(hx:0≤x∧x≤1073741824)(G:List aW) :
  bt F 200 [rc r,wv p,i64 x] G=some (.tuple (if sV r p x then [wv (m7 r p x),i64 (m5 r p x),.bool true] else [.agg [.slice (some 0) 1 []],i64 0,.bool false]),G) :=
 cg rfl rfl (by
  obtain⟨w,den⟩:=r;generalize hW:(V.tuple (if sV ⟨w,den⟩ p x then [wv (m7 ⟨w,den⟩ p x),i64 (m5 ⟨w,den⟩ p x),.bool true] else [.agg [.slice (some 0) 1 []],i64 0,.bool false]))=W
  have hlen:=hr.len;have hH:=hr.pos;have mn:=hp.1;simp only at hlen hH mn;have Nk:p.length≤w.length+1:=by omega
  have Nl:∀k,k<w.length→0≤x*nth w k∧x*nth w k≤10737418240000:=fun k hk=>by
   have h2:=hr.w k hk;simp only at h2;have h3:0≤x*nth w k:=Int.mul_nonneg hx.1 h2.1;have h4:x*nth w k≤1073741824*10000:=Int.mul_le_mul hx.2 h2.2 h2.1 (by omega)
   omega
  have Nm:∀k,0≤nth p k∧nth p k≤2251799813685248:=fun k=>by
   rcases Nat.lt_or_ge k p.length with h|h
   ·exact hp.2.2 k h
   ·rw[wb h];omega
  simp (disch:=omega) [-getElem?_pos,wrap64,LQ,Qo,Vg,Vh Nk];refine go_loop (fun i:Nat=>adh x (w.length+1) (ints w) w.length i (Rc.row ⟨w,den⟩) [.aK] (eW (w.length+1) fun k=>if k<i then rq ⟨w,den⟩ p x k else nth p k) G) (fun i=>i≤w.length∧∀k,k<i→rq ⟨w,den⟩ p x k≤1125899906842624) (fun i=>w.length-i) 0 rfl (by simp) (by simp) ?_
  rintro i ⟨hi,hj⟩;simp (disch:=omega) [-getElem?_pos,wrap64,SV];refine b9 (fun h5=>?_) (fun h5=>?_)
  ·have h5:i<w.length:=by omega
   have hq:=wc hr hp hx i;have ha:=Nl i h5;have hb:=Nm i;have hf:(fun j=>if j=i then nth p i+x*nth w i else if j<i then rq ⟨w,den⟩ p x j else nth p j)=fun j=>if j<i+1 then rq ⟨w,den⟩ p x j else nth p j:=by
    funext j;by_cases h6:j=i
    ·subst h6;simp[rq]
    ·by_cases h7:j<i
     ·rw[if_neg h6,if_pos h7,if_pos (by omega)]
     ·rw[if_neg h6,if_neg h7,if_neg (by omega)]
   simp (disch:=omega) [-getElem?_pos,wrap64,eA (l:=w),oc,hf];refine b9 (fun h7=>?_) (fun h7=>?_)
   ·rw[←hW,if_neg (fun g:sV ⟨w,den⟩ p x=>absurd (g i h5) (by omega))]
   ·refine cc (i+1) (by simp) ⟨by omega,fun k hk=>?_⟩ (by omega)
    rcases Nat.lt_or_ge k i with h8|h8
    ·exact hj k h8
    ·rw[show k=i by omega];omega
  ·obtain rfl:i=w.length:=by omega
   rw[if_pos (show sV ⟨w,den⟩ p x from hj)]at hW;have hf:(eW (w.length+1) fun k=>if k<w.length then rq ⟨w,den⟩ p x k else nth p k)=eW (w.length+1) (rq ⟨w,den⟩ p x):=JX fun k hk=>by
    by_cases h6:k<w.length
    ·rw[if_pos h6]
    ·rw[if_neg h6,show k=w.length by omega];simp[rq,wb (Nat.le_refl w.length)]
   have hd:=hr.den;simp only at hd;have EA:¬ den=0:=by omega
   have q0:=wc hr hp hx 0;have q1:=wc hr hp hx 1;have d1:(rq ⟨w,den⟩ p x 0).tdiv den=rq ⟨w,den⟩ p x 0 / den:=Int.tdiv_eq_ediv_of_nonneg q0.1;have d2:(rq ⟨w,den⟩ p x 0).tmod den=rq ⟨w,den⟩ p x 0 % den:=Int.tmod_eq_emod_of_nonneg q0.1;have d3:0≤rq ⟨w,den⟩ p x 0 / den:=Int.ediv_nonneg q0.1 (by omega)
   have d4:rq ⟨w,den⟩ p x 0 / den≤rq ⟨w,den⟩ p x 0:=Int.ediv_le_self _ q0.1;have d5:0≤rq ⟨w,den⟩ p x 0 % den:=Int.emod_nonneg _ EA;have d6:rq ⟨w,den⟩ p x 0 % den<den:=Int.emod_lt_of_pos _ (by omega)
   have hg:(eW (w.length+1) fun k=>if k<w.length then (if k=0 then rq ⟨w,den⟩ p x 1+rq ⟨w,den⟩ p x 0 % den else rq ⟨w,den⟩ p x (k+1)) else (if k=1 then rq ⟨w,den⟩ p x 1+rq ⟨w,den⟩ p x 0 % den else rq ⟨w,den⟩ p x k)) =
     eW (w.length+1) fun k=>if k<w.length then rN ⟨w,den⟩ p x k else (if k=1 then rq ⟨w,den⟩ p x 1+rq ⟨w,den⟩ p x 0 % den else rq ⟨w,den⟩ p x k):=JX fun k hk=>by
    by_cases h6:k<w.length
    ·rw[if_pos h6,if_pos h6];rfl
    ·rw[if_neg h6,if_neg h6]
   simp (disch:=omega) [-getElem?_pos,wrap64,hf,oc,EA,d1,d2,ajc,ajd,hg];generalize hh:(fun k=>if k<w.length then rN ⟨w,den⟩ p x k else (if k=1 then rq ⟨w,den⟩ p x 1+rq ⟨w,den⟩ p x 0 % den else rq ⟨w,den⟩ p x k))=h
   have Nn:∀k,k<w.length→h k=rN ⟨w,den⟩ p x k:=fun k hk=>by rw[←hh];exact if_pos hk
   refine go_loop (fun m:Nat=>adj m (rq ⟨w,den⟩ p x 0 / den) [.aK] (eW (w.length+1) h) G) (fun m=>m≤w.length∧oj (rN ⟨w,den⟩ p x) m=oj (rN ⟨w,den⟩ p x) w.length) (fun m=>m) w.length rfl (by simp) (by simp) ?_
   rintro m ⟨hm,ht⟩;cases m with
   |zero =>
    simp (disch:=omega) [-getElem?_pos,wrap64,GN,Vi];rw[←hW,wv,m7,← ht];rfl
   |succ m =>
    by_cases h8:rN ⟨w,den⟩ p x m=0
    ·simp (disch:=omega) [-getElem?_pos,wrap64,GN,oc,Nn m hm,h8]
     exact cc m (by simp) ⟨by omega,by rw[←ht,oj,if_pos h8]⟩ (by omega)
    ·simp (disch:=omega) [-getElem?_pos,wrap64,GN,oc,Nn m hm,h8,Vi]
     rw[←hW,wv,m7,← ht,oj,if_neg h8,ints,List.map_map];have e:(List.range (m+1)).map (fun j=>[V.int .i64 (h j)])=(List.range (m+1)).map ((fun n=>[i64 n])∘rN ⟨w,den⟩ p x) :=
      List.map_congr_left fun j hj=>by rw[Nn j (by have:=List.mem_range.1 hj;omega)];rfl
     rw[e];rfl)
theorem ajf{n:Nat}{f g:Nat→Int}(h:∀k,k<n→f (k+1)=g k):(List.take (n+1) ((List.range (n+1)).map fun j=>[V.int .i64 (f j)])).tail=(List.range n).map fun k=>[V.int .i64 (g k)]:=by
 rw[List.take_of_length_le (by simp)]
 apply List.ext_getElem?;intro i;rw[List.getElem?_tail];rcases Nat.lt_or_ge i n with h1|h1
 ·simp[h1,h i h1]
 ·rw[List.getElem?_eq_none (by simp;omega),List.getElem?_eq_none (by simpa using h1)]
theorem Vj{n i:Nat}(h:i<n):(List.range n)[i]?=some i:=by simp[h]
theorem ajg{n:Nat}{g:Nat→Int}:List.take n ((List.range (n+1)).map fun k=>[V.int .i64 (g k)])=(List.range n).map fun k=>[V.int .i64 (g k)]:=by
 rw[←List.map_take,List.take_range,Nat.min_eq_left (by omega)]
theorem ajh(r:Rc)(hr:Rv r)(p:List Int)(hp:iv r p)(x:Int)(G:List aW) :
  bt F 144 [rc r,wv p,i64 x] G=some (.tuple (if (0≤x∧x≤1073741824)∧sV r p x then [wv (m7 r p x),i64 (m5 r p x),i64 0] else [.agg [.slice (some 0) 1 []],i64 0,i64 1]),G) :=
 cg rfl rfl (by
  obtain⟨w,den⟩:=r;generalize hW:(V.tuple (if (0≤x∧x≤1073741824)∧sV ⟨w,den⟩ p x then [wv (m7 ⟨w,den⟩ p x),i64 (m5 ⟨w,den⟩ p x),i64 0] else [.agg [.slice (some 0) 1 []],i64 0,i64 1]))=W
  have hlen:=hr.len;have hH:=hr.pos;have mn:=hp.1;simp only at hlen hH mn;by_cases hx:0≤x∧x≤1073741824
  case neg =>
   have pV:(decide (0≤x)&&decide (x≤1073741824))=false:=by simp;omega
   simp (disch:=omega) [-getElem?_pos,wrap64,Gy,c5,pV];rw[←hW,if_neg (fun g=>hx g.1)]
  have pV:(decide (0≤x)&&decide (x≤1073741824))=true:=by simp;exact hx
  have Nk:p.length≤w.length+1:=by omega
  have Nl:∀k,k<w.length→0≤x*nth w k∧x*nth w k≤10737418240000:=fun k hk=>by
   have h2:=hr.w k hk;simp only at h2;have h3:0≤x*nth w k:=Int.mul_nonneg hx.1 h2.1;have h4:x*nth w k≤1073741824*10000:=Int.mul_le_mul hx.2 h2.2 h2.1 (by omega)
   omega
  have Nm:∀k,0≤nth p k∧nth p k≤2251799813685248:=fun k=>by
   rcases Nat.lt_or_ge k p.length with h|h
   ·exact hp.2.2 k h
   ·rw[wb h];omega
  simp (disch:=omega) [-getElem?_pos,wrap64,Gy,c5,pV,Qo,Vg,Vh Nk];refine go_loop (fun i:Nat=>ace x (w.length+1) (ints w) w.length i (Rc.row ⟨w,den⟩) [.aK] (eW (w.length+1) fun k=>if k<i then rq ⟨w,den⟩ p x k else nth p k) G) (fun i=>i≤w.length∧∀k,k<i→rq ⟨w,den⟩ p x k≤1125899906842624) (fun i=>w.length-i) 0 rfl (by simp) (by simp) ?_
  rintro i ⟨hi,hj⟩;simp (disch:=omega) [-getElem?_pos,wrap64,Sl];refine b9 (fun h5=>?_) (fun h5=>?_)
  ·have h5:i<w.length:=by omega
   have hq:=wc hr hp hx i;have ha:=Nl i h5;have hb:=Nm i;have hf:(fun j=>if j=i then nth p i+x*nth w i else if j<i then rq ⟨w,den⟩ p x j else nth p j)=fun j=>if j<i+1 then rq ⟨w,den⟩ p x j else nth p j:=by
    funext j;by_cases h6:j=i
    ·subst h6;simp[rq]
    ·by_cases h7:j<i
     ·rw[if_neg h6,if_pos h7,if_pos (by omega)]
     ·rw[if_neg h6,if_neg h7,if_neg (by omega)]
   simp (disch:=omega) [-getElem?_pos,wrap64,eA (l:=w),oc,hf];refine b9 (fun h7=>?_) (fun h7=>?_)
   ·rw[←hW,if_neg (fun g=>absurd (g.2 i h5) (by omega))]
   ·refine cc (i+1) (by simp) ⟨by omega,fun k hk=>?_⟩ (by omega)
    rcases Nat.lt_or_ge k i with h8|h8
    ·exact hj k h8
    ·rw[show k=i by omega];omega
  ·obtain rfl:i=w.length:=by omega
   rw[if_pos ⟨hx,show sV ⟨w,den⟩ p x from hj⟩]at hW;have hf:(eW (w.length+1) fun k=>if k<w.length then rq ⟨w,den⟩ p x k else nth p k)=eW (w.length+1) (rq ⟨w,den⟩ p x):=JX fun k hk=>by
    by_cases h6:k<w.length
    ·rw[if_pos h6]
    ·rw[if_neg h6,show k=w.length by omega];simp[rq,wb (Nat.le_refl w.length)]
   have hd:=hr.den;simp only at hd;have EA:¬ den=0:=by omega
   have q0:=wc hr hp hx 0;have q1:=wc hr hp hx 1;have d1:(rq ⟨w,den⟩ p x 0).tdiv den=rq ⟨w,den⟩ p x 0 / den:=Int.tdiv_eq_ediv_of_nonneg q0.1;have d2:(rq ⟨w,den⟩ p x 0).tmod den=rq ⟨w,den⟩ p x 0 % den:=Int.tmod_eq_emod_of_nonneg q0.1;have d3:0≤rq ⟨w,den⟩ p x 0 / den:=Int.ediv_nonneg q0.1 (by omega)
   have d4:rq ⟨w,den⟩ p x 0 / den≤rq ⟨w,den⟩ p x 0:=Int.ediv_le_self _ q0.1;have d5:0≤rq ⟨w,den⟩ p x 0 % den:=Int.emod_nonneg _ EA;have d6:rq ⟨w,den⟩ p x 0 % den<den:=Int.emod_lt_of_pos _ (by omega)
   have hg:∀k,k<w.length→(if k+1=1 then rq ⟨w,den⟩ p x 1+rq ⟨w,den⟩ p x 0 % den else rq ⟨w,den⟩ p x (k+1))=rN ⟨w,den⟩ p x k:=fun k hk=>by
    unfold rN;by_cases h7:k=0
    ·rw[if_pos h7,if_pos (by omega)]
    ·rw[if_neg h7,if_neg (by omega)]
   simp (disch:=omega) [-getElem?_pos,wrap64,hf,oc,EA,d1,d2];rw[ajf (f:=fun j=>if j=1 then rq ⟨w,den⟩ p x 1+rq ⟨w,den⟩ p x 0 % den else rq ⟨w,den⟩ p x j) hg]
   refine go_loop (fun m:Nat=>⟨[(6,.bK 6 0),(9,.slice none 1 ((List.range m).map fun k=>[V.int .i64 (rN ⟨w,den⟩ p x k)])),(12,i64 (rq ⟨w,den⟩ p x 0 / den))],[(6,[.aK])],[],G⟩) (fun m=>m≤w.length∧oj (rN ⟨w,den⟩ p x) m=oj (rN ⟨w,den⟩ p x) w.length) (fun m=>m) w.length rfl (by simp) (by simp) ?_
   rintro m ⟨hm,ht⟩;cases m with
   |zero =>
    simp (disch:=omega) [-getElem?_pos,wrap64,Gx];rw[←hW,wv,m7,← ht];rfl
   |succ m =>
    by_cases h8:rN ⟨w,den⟩ p x m=0
    ·simp (disch:=omega) [-getElem?_pos,wrap64,Gx,Vj,h8,ajg]
     exact cc m (by simp) ⟨by omega,by rw[←ht,oj,if_pos h8]⟩ (by omega)
    ·simp (disch:=omega) [-getElem?_pos,wrap64,Gx,Vj,h8]
     rw[←hW,wv,m7,← ht,oj,if_neg h8,ints,List.map_map];rfl)
noncomputable def gD(r:Rc)(p:List Int)(x:Int):Int:=if e8 r≠0 then e8 r else if iv r p then (if (0≤x∧x≤1073741824)∧sV r p x then 0 else 1) else 3
abbrev Vk(t:Option Nat)(e:Int):V:=.tuple [.agg [.slice t 1 []],i64 0,i64 e]
noncomputable def BM(t:Option Nat)(r:Rc)(p:List Int)(x:Int):V:=if gD r p x=0 then .tuple [wv (m7 r p x),i64 (m5 r p x),i64 0] else Vk t (gD r p x)
theorem zP{t:Option Nat}{r:Rc}{p:List Int}{x e:Int}(h:gD r p x=e)(he:e≠0):BM t r p x=Vk t e:=by
 unfold BM;rw[h,if_neg he]
theorem EB{t:Option Nat}{r:Rc}{p:List Int}{x:Int}(h:gD r p x=0):BM t r p x=.tuple [wv (m7 r p x),i64 (m5 r p x),i64 0]:=by
 unfold BM;rw[if_pos h]
theorem aji(r:Rc)(hr:r.w.length≤17592186044416)(p:List Int)(hl:p.length≤17592186044416)(G:List aW):bt F 143 [rc r,wv p] G=some (i64 (if e8 r≠0 then e8 r else if iv r p then 0 else 3),G) :=
 cg rfl rfl (by
  have hc:=uU r hr;have hv:=Ve r hr p hl;generalize hW:(if e8 r≠0 then e8 r else if iv r p then (0:Int) else 3)=W
  by_cases hz:e8 r=0
  ·rw[if_neg (by omega)]at hW
   by_cases hf:iv r p
   ·rw[if_pos hf]at hW
    simp[wrap64,DP,hc,hv,hz,hf];exact hW
   ·rw[if_neg hf]at hW
    simp[wrap64,DP,hc,hv,hz,hf];exact hW
  ·rw[if_pos hz]at hW
   simp[wrap64,DP,hc,hv,hz];exact hW)
theorem ajj(r:Rc)(hr:r.w.length≤17592186044416)(p:List Int)(hl:p.length≤17592186044416)(x:Int):∃t,∀(G:List aW),bt F 86 [rc r,wv p,i64 x] G=some (BM t r p x,G):=by
 refine⟨if e8 r=0∧iv r p then none else some 0,fun G=>cg rfl rfl ?_⟩
 have hw:=aji r hr p hl;by_cases hz:e8 r=0
 ·rw[if_neg (by omega)]at hw
  by_cases hf:iv r p
  ·rw[if_pos hf]at hw
   rw[if_pos ⟨hz,hf⟩];have hs:=ajh r (wa hz) p hf x;by_cases hp:(0≤x∧x≤1073741824)∧sV r p x
   ·rw[if_pos hp]at hs
    rw[EB (by unfold gD;rw[if_neg (by omega),if_pos hf,if_pos hp])]
    simp[wrap64,Bb,hw,hs]
   ·rw[if_neg hp]at hs
    rw[zP (e:=1) (by unfold gD;rw[if_neg (by omega),if_pos hf,if_neg hp]) (by decide)]
    simp[wrap64,Bb,hw,hs]
  ·rw[if_neg hf]at hw
   rw[if_neg (fun g=>hf g.2),zP (e:=3) (by unfold gD;rw[if_neg (by omega),if_neg hf]) (by decide)]
   simp[wrap64,Bb,hw]
 ·rw[if_pos hz]at hw
  rw[if_neg (fun g=>hz g.1),zP (e:=e8 r) (by unfold gD;rw[if_pos hz]) hz]
  simp[wrap64,Bb,hw,hz]
theorem ajk(r:Rc)(hr:r.w.length≤17592186044416)(p:List Int)(hl:p.length≤17592186044416)(x:Int)(G:List aW) :
  bt F 186 [rc r,wv p,.slice none 1 [[i64 x]]] G=some (.tuple (if gD r p x=0 then [wv (m7 r p x),.slice (some 0) 1 [[i64 (m5 r p x)]],i64 0] else [.agg [.slice (some 0) 1 []],.slice (some 0) 1 [],i64 (gD r p x)]),G) :=
 cg rfl rfl (by
  have hc:=uT r hr;have tX:=Vb r p hl;generalize hW:(V.tuple (if gD r p x=0 then [wv (m7 r p x),.slice (some 0) 1 [[i64 (m5 r p x)]],i64 0] else [.agg [.slice (some 0) 1 []],.slice (some 0) 1 [],i64 (gD r p x)]))=W
  by_cases hz:e8 r=0
  ·by_cases hf:iv r p
   ·have hs:=aje r (wa hz) p hf x
    have mn:p.length≤24:=by have:=hf.1;have:=(wa hz).len;omega
    by_cases hx:0≤x∧x≤1073741824
    ·have pV:(decide (0≤x)&&decide (x≤1073741824))=true:=by simp;exact hx
     replace hs:=fun G=>hs hx G;by_cases hp:sV r p x
     ·rw[if_pos (show gD r p x=0 by unfold gD;rw[if_neg (by omega),if_pos hf,if_pos ⟨hx,hp⟩])]at hW
      rw[if_pos hp]at hs;simp (disch:=omega) [wrap64,yZ,GI,GH,hc,tX,hz,hf,dG,pV,hs,yH];exact hW
     ·rw[show gD r p x=1 by unfold gD;rw[if_neg (by omega),if_pos hf,if_neg (fun g=>hp g.2)],if_neg (by decide)]at hW
      rw[if_neg hp]at hs;simp (disch:=omega) [wrap64,yZ,GI,GH,hc,tX,hz,hf,dG,pV,hs,yH];exact hW
    ·have pV:(decide (0≤x)&&decide (x≤1073741824))=false:=by simp;omega
     simp (disch:=omega) [wrap64,yZ,GI,GH,hc,tX,hz,hf,dG,pV,yH];rw[show gD r p x=1 by unfold gD;rw[if_neg (by omega),if_pos hf,if_neg (fun g=>hx g.1)],if_neg (by decide)]at hW
     exact hW
   ·rw[show gD r p x=3 by unfold gD;rw[if_neg (by omega),if_neg hf],if_neg (by decide)]at hW
    simp (disch:=omega) [wrap64,yZ,hc,tX,hz,hf];exact hW
  ·rw[show gD r p x=e8 r by unfold gD;rw[if_pos hz],if_neg hz]at hW
   simp (disch:=omega) [wrap64,yZ,hc,tX,hz];exact hW)
theorem Vl(r:Rc)(hr:r.w.length≤17592186044416)(p:List Int)(hl:p.length≤17592186044416)(x:Int)(G:List aW):bt F 162 [rc r,wv p,i64 x] G=some (BM (some 0) r p x,G) :=
 cg rfl rfl (by
  have hs:=ajk r hr p hl x;by_cases he:gD r p x=0
  ·rw[if_pos he]at hs
   rw[EB he];simp[wrap64,Gz,hs]
  ·rw[if_neg he]at hs
   rw[zP rfl he];simp[wrap64,Gz,hs,he])
structure Lk where
 f:Int
 t:Int
 r:Rc
 deriving Inhabited
abbrev Lk.row(l:Lk):List V:=[i64 l.f,i64 l.t,ints l.r.w,i64 l.r.den]
structure Rr where
 n:Int
 l:List Lk
abbrev nN(l:List Lk):V:=.slice none 4 (l.map Lk.row)
abbrev Rr.row(r:Rr):List V:=[i64 r.n,nN r.l]
abbrev rr(r:Rr):V:=.agg r.row
noncomputable def lE(r:Rr)(i:Nat):Int :=
 let l:=nth r.l i
 if (0≤l.f∧l.f≤r.n-1)∧(0≤l.t∧l.t≤r.n-1) then (if l.t≤l.f then 12 else if 0<i∧l.f≤(nth r.l (i-1)).f then 4 else e8 l.r) else 11
noncomputable def jJ(r:Rr):Int:=if r.n<1∨40<r.n then 3 else ed (lE r) r.l.length 0
def oo(r:Rr):Prop:=r.l.length≤17592186044416∧∀i,i<r.l.length→(nth r.l i).r.w.length≤17592186044416
theorem pB{n:Int}{l:List Lk}(h:1≤n)(h2:n≤40)(x:Int)(G:List aW):bt F 126 [.agg [i64 n,nN l],i64 x] G=some (.bool (decide (0≤x)&&decide (x≤n-1)),G) :=
 cg rfl rfl (by simp (disch:=omega) [wrap64,K7,dG])
theorem HN(r:Rr)(hr:oo r)(G:List aW):bt F 67 [rr r] G=some (i64 (jJ r),G) :=
 cg rfl rfl (by
  obtain⟨n,l⟩:=r;generalize hW:jJ ⟨n,l⟩=W;unfold jJ at hW;simp only at hW;obtain⟨hl,hw⟩:=hr;simp only at hl hw;by_cases h1:n<1
  ·rw[if_pos (.inl h1)]at hW
   simp (disch:=omega) [-getElem?_pos,wrap64,DD,h1];exact hW
  by_cases h2:40<n
  ·rw[if_pos (.inr h2)]at hW
   simp (disch:=omega) [-getElem?_pos,wrap64,DD,h1,h2];exact hW
  rw[if_neg (by omega)]at hW
  have h1n:1≤n:=by omega
  have h2n:n≤40:=by omega
  simp (disch:=omega) [-getElem?_pos,wrap64,DD,h1,h2];refine go_loop (fun i:Nat=>aa1 (nN l) l.length i (Rr.row ⟨n,l⟩) G) (fun i=>i≤l.length∧ed (lE ⟨n,l⟩) (l.length-i) i=W) (fun i=>l.length-i) 0 rfl (by simp) ⟨by omega,hW⟩ ?_
  rintro i ⟨hi,hq⟩;simp (disch:=omega) [-getElem?_pos,wrap64,RF];refine b9 (fun h5=>?_) (fun h5=>?_)
  ·have h5:i<l.length:=by omega
   rw[l7 h5]at hq;have hE:lE ⟨n,l⟩ i=if (0≤(nth l i).f∧(nth l i).f≤n-1)∧(0≤(nth l i).t∧(nth l i).t≤n-1) then (if (nth l i).t≤(nth l i).f then 12 else if 0<i∧(nth l i).f≤(nth l (i-1)).f then 4 else e8 (nth l i).r) else 11:=rfl
   by_cases a1:0≤(nth l i).f∧(nth l i).f≤n-1
   case neg =>
    have ld:(decide (0≤(nth l i).f)&&decide ((nth l i).f≤n-1))=false:=by simp;omega
    rw[if_neg (fun g=>a1 g.1)]at hE;rw[hE,if_neg (by decide)]at hq
    simp (disch:=omega) [-getElem?_pos,wrap64,bo (l:=l),pB,c5,ld];exact hq
   have ld:(decide (0≤(nth l i).f)&&decide ((nth l i).f≤n-1))=true:=by simp;exact a1
   by_cases a2:0≤(nth l i).t∧(nth l i).t≤n-1
   case neg =>
    have oY:(decide (0≤(nth l i).t)&&decide ((nth l i).t≤n-1))=false:=by simp;omega
    rw[if_neg (fun g=>a2 g.2)]at hE;rw[hE,if_neg (by decide)]at hq
    simp (disch:=omega) [-getElem?_pos,wrap64,bo (l:=l),pB,c5,ld,oY];exact hq
   have oY:(decide (0≤(nth l i).t)&&decide ((nth l i).t≤n-1))=true:=by simp;exact a2
   rw[if_pos ⟨a1,a2⟩]at hE;by_cases a3:(nth l i).t≤(nth l i).f
   ·rw[if_pos a3]at hE
    rw[hE,if_neg (by decide)]at hq
    simp (disch:=omega) [-getElem?_pos,wrap64,bo (l:=l),pB,c5,ld,oY,a3];exact hq
   rw[if_neg a3]at hE;by_cases a4:0<i∧(nth l i).f≤(nth l (i-1)).f
   ·rw[if_pos a4]at hE
    rw[hE,if_neg (by decide)]at hq
    simp (disch:=omega) [-getElem?_pos,wrap64,bo (l:=l),pB,c5,ld,oY,a3,a4.1,a4.2];exact hq
   rw[if_neg a4]at hE;have done:e8 (nth l i).r=0→ed (lE ⟨n,l⟩) (l.length-(i+1)) (i+1)=W:=fun h=>by rwa [hE,h,if_pos rfl]at hq
   have stop:e8 (nth l i).r≠0→e8 (nth l i).r=W:=fun h=>by rwa [hE,if_neg h]at hq
   rcases (by omega:¬ 0<i∨(0<i∧¬ (nth l i).f≤(nth l (i-1)).f)) with a5 | ⟨a5,a6⟩
   ·by_cases hz:e8 (nth l i).r=0
    ·simp (disch:=omega) [-getElem?_pos,wrap64,bo (l:=l),pB,c5,ld,oY,a3,a5,uT (nth l i).r (hw i h5),uU (nth l i).r (hw i h5),hz]
     exact cc (i+1) (by simp) ⟨by omega,done hz⟩ (by omega)
    ·simp (disch:=omega) [-getElem?_pos,wrap64,bo (l:=l),pB,c5,ld,oY,a3,a5,uT (nth l i).r (hw i h5),uU (nth l i).r (hw i h5),hz]
     exact stop hz
   ·by_cases hz:e8 (nth l i).r=0
    ·simp (disch:=omega) [-getElem?_pos,wrap64,bo (l:=l),pB,c5,ld,oY,a3,a5,a6,uT (nth l i).r (hw i h5),uU (nth l i).r (hw i h5),hz]
     exact cc (i+1) (by simp) ⟨by omega,done hz⟩ (by omega)
    ·simp (disch:=omega) [-getElem?_pos,wrap64,bo (l:=l),pB,c5,ld,oY,a3,a5,a6,uT (nth l i).r (hw i h5),uU (nth l i).r (hw i h5),hz]
     exact stop hz
  ·obtain rfl:i=l.length:=by omega
   rw[mR]at hq;exact hq)
theorem HO(r:Rr)(hr:oo r)(G:List aW):bt F 56 [rr r] G=some (i64 (jJ r),G) :=
 cg rfl rfl (by
  obtain⟨n,l⟩:=r;generalize hW:jJ ⟨n,l⟩=W;unfold jJ at hW;simp only at hW;obtain⟨hl,hw⟩:=hr;simp only at hl hw;by_cases h1:n<1
  ·rw[if_pos (.inl h1)]at hW
   simp (disch:=omega) [-getElem?_pos,wrap64,DA,h1];exact hW
  by_cases h2:40<n
  ·rw[if_pos (.inr h2)]at hW
   simp (disch:=omega) [-getElem?_pos,wrap64,DA,h1,h2];exact hW
  rw[if_neg (by omega)]at hW
  have h1n:1≤n:=by omega
  have h2n:n≤40:=by omega
  simp (disch:=omega) [-getElem?_pos,wrap64,DA,h1,h2];refine go_loop (fun i:Nat=>aaI (nN l) l.length i (Rr.row ⟨n,l⟩) G) (fun i=>i≤l.length∧ed (lE ⟨n,l⟩) (l.length-i) i=W) (fun i=>l.length-i) 0 rfl (by simp) ⟨by omega,hW⟩ ?_
  rintro i ⟨hi,hq⟩;simp (disch:=omega) [-getElem?_pos,wrap64,Rx];refine b9 (fun h5=>?_) (fun h5=>?_)
  ·have h5:i<l.length:=by omega
   rw[l7 h5]at hq;have hE:lE ⟨n,l⟩ i=if (0≤(nth l i).f∧(nth l i).f≤n-1)∧(0≤(nth l i).t∧(nth l i).t≤n-1) then (if (nth l i).t≤(nth l i).f then 12 else if 0<i∧(nth l i).f≤(nth l (i-1)).f then 4 else e8 (nth l i).r) else 11:=rfl
   by_cases a1:0≤(nth l i).f∧(nth l i).f≤n-1
   case neg =>
    have ld:(decide (0≤(nth l i).f)&&decide ((nth l i).f≤n-1))=false:=by simp;omega
    rw[if_neg (fun g=>a1 g.1)]at hE;rw[hE,if_neg (by decide)]at hq
    simp (disch:=omega) [-getElem?_pos,wrap64,bo (l:=l),pB,c5,ld];exact hq
   have ld:(decide (0≤(nth l i).f)&&decide ((nth l i).f≤n-1))=true:=by simp;exact a1
   by_cases a2:0≤(nth l i).t∧(nth l i).t≤n-1
   case neg =>
    have oY:(decide (0≤(nth l i).t)&&decide ((nth l i).t≤n-1))=false:=by simp;omega
    rw[if_neg (fun g=>a2 g.2)]at hE;rw[hE,if_neg (by decide)]at hq
    simp (disch:=omega) [-getElem?_pos,wrap64,bo (l:=l),pB,c5,ld,oY];exact hq
   have oY:(decide (0≤(nth l i).t)&&decide ((nth l i).t≤n-1))=true:=by simp;exact a2
   rw[if_pos ⟨a1,a2⟩]at hE;by_cases a3:(nth l i).t≤(nth l i).f
   ·rw[if_pos a3]at hE
    rw[hE,if_neg (by decide)]at hq
    simp (disch:=omega) [-getElem?_pos,wrap64,bo (l:=l),pB,c5,ld,oY,a3];exact hq
   rw[if_neg a3]at hE;by_cases a4:0<i∧(nth l i).f≤(nth l (i-1)).f
   ·rw[if_pos a4]at hE
    rw[hE,if_neg (by decide)]at hq
    simp (disch:=omega) [-getElem?_pos,wrap64,bo (l:=l),pB,c5,ld,oY,a3,a4.1,a4.2];exact hq
   rw[if_neg a4]at hE;have done:e8 (nth l i).r=0→ed (lE ⟨n,l⟩) (l.length-(i+1)) (i+1)=W:=fun h=>by rwa [hE,h,if_pos rfl]at hq
   have stop:e8 (nth l i).r≠0→e8 (nth l i).r=W:=fun h=>by rwa [hE,if_neg h]at hq
   rcases (by omega:¬ 0<i∨(0<i∧¬ (nth l i).f≤(nth l (i-1)).f)) with a5 | ⟨a5,a6⟩
   ·by_cases hz:e8 (nth l i).r=0
    ·simp (disch:=omega) [-getElem?_pos,wrap64,bo (l:=l),pB,c5,ld,oY,a3,a5,uT (nth l i).r (hw i h5),uU (nth l i).r (hw i h5),hz]
     exact cc (i+1) (by simp) ⟨by omega,done hz⟩ (by omega)
    ·simp (disch:=omega) [-getElem?_pos,wrap64,bo (l:=l),pB,c5,ld,oY,a3,a5,uT (nth l i).r (hw i h5),uU (nth l i).r (hw i h5),hz]
     exact stop hz
   ·by_cases hz:e8 (nth l i).r=0
    ·simp (disch:=omega) [-getElem?_pos,wrap64,bo (l:=l),pB,c5,ld,oY,a3,a5,a6,uT (nth l i).r (hw i h5),uU (nth l i).r (hw i h5),hz]
     exact cc (i+1) (by simp) ⟨by omega,done hz⟩ (by omega)
    ·simp (disch:=omega) [-getElem?_pos,wrap64,bo (l:=l),pB,c5,ld,oY,a3,a5,a6,uT (nth l i).r (hw i h5),uU (nth l i).r (hw i h5),hz]
     exact stop hz
  ·obtain rfl:i=l.length:=by omega
   rw[mR]at hq;exact hq)
instance:Inhabited Dm:=⟨⟨⟨[],0,0,0,0,0⟩,[],[],0⟩⟩
structure Si where
 n:Int
 d:Dm
 deriving Inhabited
abbrev Si.row(x:Si):List V:=i64 x.n::x.d.row
abbrev rJ(l:List Si):V:=.slice none 10 (l.map Si.row)
structure Cs where
 r:Rr
 s:List Si
abbrev Cs.row(c:Cs):List V:=[i64 c.r.n,nN c.r.l,rJ c.s]
abbrev cs(c:Cs):V:=.agg c.row
def we(c:Cs)(i:Nat):Int :=
 let x:=nth c.s i
 if 0≤x.n∧x.n<c.r.n then (if 0<i∧x.n≤(nth c.s (i-1)).n then 4 else fB x.d) else 41
noncomputable def gu(c:Cs):Int:=if jJ c.r≠0 then jJ c.r else if 12<c.r.n then 41 else if 6<c.s.length then 10 else ed (we c) c.s.length 0
structure Fl where
 t:Int
 d:List Ds
 w:List (List Int)
abbrev tY(l:List Ds):V:=.slice none 4 (l.map Ds.row)
abbrev tZ(l:List (List Int)):V:=.slice none 1 (l.map fun p=>[ints p])
abbrev Fl.row(f:Fl):List V:=[i64 f.t,tY f.d,tZ f.w]
abbrev fl(f:Fl):V:=.agg f.row
def ua(f:Fl):Prop:=∀i,(nth f.w i).length≤17592186044416
def m8(c:Cs)(l:List Ds):Prop:=l.length=c.s.length∧∀i,i<c.s.length→fB (nth c.s i).d=0∧g8 (nth c.s i).d (nth l i)
noncomputable instance {c:Cs} {l:List Ds}:Decidable (m8 c l):=Classical.propDecidable _
def BN(c:Cs)(l:List (List Int)):Prop:=l.length=c.r.l.length∧∀i,i<c.r.l.length→e8 (nth c.r.l i).r=0∧iv (nth c.r.l i).r (nth l i)
noncomputable instance {c:Cs} {l:List (List Int)}:Decidable (BN c l):=Classical.propDecidable _
def kB(c:Cs)(f:Fl):Prop:=(0≤f.t∧f.t≤16777216)∧m8 c f.d∧BN c f.w
noncomputable instance {c:Cs} {f:Fl}:Decidable (kB c f):=Classical.propDecidable _
theorem No(c:Cs)(hr:oo c.r)(G:List aW):bt F 26 [cs c] G=some (i64 (gu c),G) :=
 cg rfl rfl (by
  obtain⟨⟨n,l⟩,s⟩:=c;generalize hW:gu ⟨⟨n,l⟩,s⟩=W;unfold gu at hW;simp only at hW hr;have hk:=HN ⟨n,l⟩ hr;have jO:=HO ⟨n,l⟩ hr;by_cases h1:jJ ⟨n,l⟩=0
  case neg =>
   rw[if_pos h1]at hW;simp (disch:=omega) [-getElem?_pos,wrap64,A5,hk,jO,h1];exact hW
  rw[if_neg (by omega)]at hW
  by_cases h2:12<n
  ·rw[if_pos h2]at hW
   simp (disch:=omega) [-getElem?_pos,wrap64,A5,hk,jO,h1,h2];exact hW
  rw[if_neg h2]at hW;by_cases h3:6<s.length
  ·rw[if_pos h3]at hW
   have jw:(6:Int)<s.length:=by omega
   simp (disch:=omega) [-getElem?_pos,wrap64,A5,hk,jO,h1,h2,jw];exact hW
  rw[if_neg h3]at hW;have jw:¬ (6:Int)<s.length:=by omega
  simp (disch:=omega) [-getElem?_pos,wrap64,A5,hk,jO,h1,h2,jw];refine go_loop (fun i:Nat=>aag (rJ s) s.length i (Cs.row ⟨⟨n,l⟩,s⟩) G) (fun i=>i≤s.length∧ed (we ⟨⟨n,l⟩,s⟩) (s.length-i) i=W) (fun i=>s.length-i) 0 rfl (by simp) ⟨by omega,hW⟩ ?_
  rintro i ⟨hi,hq⟩;simp (disch:=omega) [-getElem?_pos,wrap64,Rj];refine b9 (fun h5=>?_) (fun h5=>?_)
  ·have h5:i<s.length:=by omega
   rw[l7 h5]at hq;have hE:we ⟨⟨n,l⟩,s⟩ i=if 0≤(nth s i).n∧(nth s i).n<n then (if 0<i∧(nth s i).n≤(nth s (i-1)).n then 4 else fB (nth s i).d) else 41:=rfl
   by_cases a1:(nth s i).n<0
   ·rw[if_neg (by omega)]at hE
    rw[hE,if_neg (by decide)]at hq
    simp (disch:=omega) [-getElem?_pos,wrap64,bo (l:=s),a1];exact hq
   by_cases a2:n≤(nth s i).n
   ·rw[if_neg (by omega)]at hE
    rw[hE,if_neg (by decide)]at hq
    simp (disch:=omega) [-getElem?_pos,wrap64,bo (l:=s),a1,a2];exact hq
   rw[if_pos (by omega)]at hE
   by_cases a4:0<i∧(nth s i).n≤(nth s (i-1)).n
   ·rw[if_pos a4]at hE
    rw[hE,if_neg (by decide)]at hq
    simp (disch:=omega) [-getElem?_pos,wrap64,bo (l:=s),a1,a2,a4.1,a4.2];exact hq
   rw[if_neg a4]at hE;have done:fB (nth s i).d=0→ed (we ⟨⟨n,l⟩,s⟩) (s.length-(i+1)) (i+1)=W:=fun h=>by rwa [hE,h,if_pos rfl]at hq
   have stop:fB (nth s i).d≠0→fB (nth s i).d=W:=fun h=>by rwa [hE,if_neg h]at hq
   have hd:=zK (nth s i).d;have tq:=zL (nth s i).d;rcases (by omega:¬ 0<i∨(0<i∧¬ (nth s i).n≤(nth s (i-1)).n)) with a5 | ⟨a5,a6⟩
   ·by_cases hz:fB (nth s i).d=0
    ·simp (disch:=omega) [-getElem?_pos,wrap64,bo (l:=s),a1,a2,a5,hd,tq,hz]
     exact cc (i+1) (by simp) ⟨by omega,done hz⟩ (by omega)
    ·simp (disch:=omega) [-getElem?_pos,wrap64,bo (l:=s),a1,a2,a5,hd,tq,hz]
     exact stop hz
   ·by_cases hz:fB (nth s i).d=0
    ·simp (disch:=omega) [-getElem?_pos,wrap64,bo (l:=s),a1,a2,a5,a6,hd,tq,hz]
     exact cc (i+1) (by simp) ⟨by omega,done hz⟩ (by omega)
    ·simp (disch:=omega) [-getElem?_pos,wrap64,bo (l:=s),a1,a2,a5,a6,hd,tq,hz]
     exact stop hz
  ·obtain rfl:i=s.length:=by omega
   rw[mR]at hq;exact hq)
theorem Np(c:Cs)(hr:oo c.r)(G:List aW):bt F 27 [cs c] G=some (i64 (gu c),G) :=
 cg rfl rfl (by
  obtain⟨⟨n,l⟩,s⟩:=c;generalize hW:gu ⟨⟨n,l⟩,s⟩=W;unfold gu at hW;simp only at hW hr;have hk:=HN ⟨n,l⟩ hr;have jO:=HO ⟨n,l⟩ hr;by_cases h1:jJ ⟨n,l⟩=0
  case neg =>
   rw[if_pos h1]at hW;simp (disch:=omega) [-getElem?_pos,wrap64,A6,hk,jO,h1];exact hW
  rw[if_neg (by omega)]at hW
  by_cases h2:12<n
  ·rw[if_pos h2]at hW
   simp (disch:=omega) [-getElem?_pos,wrap64,A6,hk,jO,h1,h2];exact hW
  rw[if_neg h2]at hW;by_cases h3:6<s.length
  ·rw[if_pos h3]at hW
   have jw:(6:Int)<s.length:=by omega
   simp (disch:=omega) [-getElem?_pos,wrap64,A6,hk,jO,h1,h2,jw];exact hW
  rw[if_neg h3]at hW;have jw:¬ (6:Int)<s.length:=by omega
  simp (disch:=omega) [-getElem?_pos,wrap64,A6,hk,jO,h1,h2,jw];refine go_loop (fun i:Nat=>aai (rJ s) s.length i (Cs.row ⟨⟨n,l⟩,s⟩) G) (fun i=>i≤s.length∧ed (we ⟨⟨n,l⟩,s⟩) (s.length-i) i=W) (fun i=>s.length-i) 0 rfl (by simp) ⟨by omega,hW⟩ ?_
  rintro i ⟨hi,hq⟩;simp (disch:=omega) [-getElem?_pos,wrap64,Rk];refine b9 (fun h5=>?_) (fun h5=>?_)
  ·have h5:i<s.length:=by omega
   rw[l7 h5]at hq;have hE:we ⟨⟨n,l⟩,s⟩ i=if 0≤(nth s i).n∧(nth s i).n<n then (if 0<i∧(nth s i).n≤(nth s (i-1)).n then 4 else fB (nth s i).d) else 41:=rfl
   by_cases a1:(nth s i).n<0
   ·rw[if_neg (by omega)]at hE
    rw[hE,if_neg (by decide)]at hq
    simp (disch:=omega) [-getElem?_pos,wrap64,bo (l:=s),a1];exact hq
   by_cases a2:n≤(nth s i).n
   ·rw[if_neg (by omega)]at hE
    rw[hE,if_neg (by decide)]at hq
    simp (disch:=omega) [-getElem?_pos,wrap64,bo (l:=s),a1,a2];exact hq
   rw[if_pos (by omega)]at hE
   by_cases a4:0<i∧(nth s i).n≤(nth s (i-1)).n
   ·rw[if_pos a4]at hE
    rw[hE,if_neg (by decide)]at hq
    simp (disch:=omega) [-getElem?_pos,wrap64,bo (l:=s),a1,a2,a4.1,a4.2];exact hq
   rw[if_neg a4]at hE;have done:fB (nth s i).d=0→ed (we ⟨⟨n,l⟩,s⟩) (s.length-(i+1)) (i+1)=W:=fun h=>by rwa [hE,h,if_pos rfl]at hq
   have stop:fB (nth s i).d≠0→fB (nth s i).d=W:=fun h=>by rwa [hE,if_neg h]at hq
   have hd:=zK (nth s i).d;have tq:=zL (nth s i).d;rcases (by omega:¬ 0<i∨(0<i∧¬ (nth s i).n≤(nth s (i-1)).n)) with a5 | ⟨a5,a6⟩
   ·by_cases hz:fB (nth s i).d=0
    ·simp (disch:=omega) [-getElem?_pos,wrap64,bo (l:=s),a1,a2,a5,hd,tq,hz]
     exact cc (i+1) (by simp) ⟨by omega,done hz⟩ (by omega)
    ·simp (disch:=omega) [-getElem?_pos,wrap64,bo (l:=s),a1,a2,a5,hd,tq,hz]
     exact stop hz
   ·by_cases hz:fB (nth s i).d=0
    ·simp (disch:=omega) [-getElem?_pos,wrap64,bo (l:=s),a1,a2,a5,a6,hd,tq,hz]
     exact cc (i+1) (by simp) ⟨by omega,done hz⟩ (by omega)
    ·simp (disch:=omega) [-getElem?_pos,wrap64,bo (l:=s),a1,a2,a5,a6,hd,tq,hz]
     exact stop hz
  ·obtain rfl:i=s.length:=by omega
   rw[mR]at hq;exact hq)
structure xu(c:Cs):Prop where
 k:jJ c.r=0
 n:c.r.n≤12
 s:c.s.length≤6
 site:∀i,i<c.s.length→we c i=0
theorem oZ{c:Cs}(h:gu c=0):xu c:=by
 unfold gu at h;split at h
 ·rename_i h1;exact absurd h h1
 split at h
 ·cases h
 split at h
 ·cases h
 rename_i h1 h2 h3;exact⟨Decidable.of_not_not h1,by omega,by omega,fun i hi=>sE h i (by omega) (by omega)⟩
theorem Vn(c:Cs)(hs:c.s.length≤1000)(l:List Ds)(G:List aW):bt F 74 [cs c,tY l] G=some (.bool (decide (m8 c l)),G) :=
 cg rfl rfl (by
  obtain⟨r,s⟩:=c;simp only at hs;generalize hW:decide (m8 ⟨r,s⟩ l)=W;have no:¬ m8 ⟨r,s⟩ l→W=false:=fun h=>by rw[←hW];simp[h]
  have yes:m8 ⟨r,s⟩ l→W=true:=fun h=>by rw[←hW];simp[h]
  unfold m8 at no yes;simp only at no yes;by_cases h1:l.length=s.length
  case neg =>
   have nL:¬ (l.length:Int)=s.length:=by omega
   simp (disch:=omega) [-getElem?_pos,wrap64,Gf,nL];exact no (fun g=>h1 g.1)
  have nL:(l.length:Int)=s.length:=by omega
  simp (disch:=omega) [-getElem?_pos,wrap64,Gf,nL];refine go_loop (fun i:Nat=>abl (tY l) (rJ s) s.length i G) (fun i=>i≤s.length∧∀j,j<i→fB (nth s j).d=0∧g8 (nth s j).d (nth l j)) (fun i=>s.length-i) 0 rfl (by simp) (by simp) ?_
  rintro i ⟨hi,hj⟩;simp (disch:=omega) [-getElem?_pos,wrap64,RO];refine b9 (fun h5=>?_) (fun h5=>?_)
  ·have h5:i<s.length:=by omega
   have h6:i<l.length:=by omega
   by_cases h7:fB (nth s i).d=0∧g8 (nth s i).d (nth l i)
   ·simp (disch:=omega) [-getElem?_pos,wrap64,bo (l:=s),bo (l:=l),UJ,h7.1,h7.2]
    refine cc (i+1) (by simp) ⟨by omega,fun j h8=>?_⟩ (by omega)
    rcases Nat.lt_or_ge j i with h9|h9
    ·exact hj j h9
    ·rwa [show j=i by omega]
   ·have yB:decide (fB (nth s i).d=0∧g8 (nth s i).d (nth l i))=false:=by simp only[h7,decide_false]
    have hv:=UJ (nth s i).d (nth l i);rw[yB]at hv;simp (disch:=omega) [-getElem?_pos,wrap64,bo (l:=s),bo (l:=l),hv];exact no (fun g=>h7 (g.2 i h5))
  ·obtain rfl:i=s.length:=by omega
   exact yes ⟨h1,hj⟩)
theorem Vp(c:Cs)(hs:c.s.length≤1000)(hr:oo c.r)(f:Fl)(hf:ua f)(G:List aW):bt F 70 [cs c,fl f] G=some (.bool (decide (kB c f)),G) :=
 cg rfl rfl (by
  have j8:=Vn c hs f.d;obtain⟨⟨n,l⟩,s⟩:=c;obtain⟨t,d,w⟩:=f;generalize hW:decide (kB ⟨⟨n,l⟩,s⟩ ⟨t,d,w⟩)=W;have no:¬ kB ⟨⟨n,l⟩,s⟩ ⟨t,d,w⟩→W=false:=fun h=>by rw[←hW];simp[h]
  have yes:kB ⟨⟨n,l⟩,s⟩ ⟨t,d,w⟩→W=true:=fun h=>by rw[←hW];simp[h]
  unfold kB BN at no yes;simp only at no yes j8;unfold ua at hf;obtain⟨rA,oF⟩:=hr;simp only at hf rA oF;by_cases a1:t<0
  ·simp (disch:=omega) [-getElem?_pos,wrap64,yT,a1]
   exact no (by omega)
  by_cases a2:16777216<t
  ·simp (disch:=omega) [-getElem?_pos,wrap64,yT,a1,a2]
   exact no (by omega)
  by_cases a3:m8 ⟨⟨n,l⟩,s⟩ d
  case neg =>
   simp (disch:=omega) [-getElem?_pos,wrap64,yT,a1,a2,j8,a3];exact no (fun g=>a3 g.2.1)
  by_cases a4:w.length=l.length
  case neg =>
   have zQ:¬ (w.length:Int)=l.length:=by omega
   simp (disch:=omega) [-getElem?_pos,wrap64,yT,a1,a2,j8,a3,zQ];exact no (fun g=>a4 g.2.2.1)
  have zQ:(w.length:Int)=l.length:=by omega
  simp (disch:=omega) [-getElem?_pos,wrap64,yT,a1,a2,j8,a3,zQ];refine go_loop (fun i:Nat=>abb (nN l) l.length i (Fl.row ⟨t,d,w⟩) G) (fun i=>i≤l.length∧∀j,j<i→e8 (nth l j).r=0∧iv (nth l j).r (nth w j)) (fun i=>l.length-i) 0 rfl (by simp) (by simp) ?_
  rintro i ⟨hi,hj⟩;simp (disch:=omega) [-getElem?_pos,wrap64,RK];refine b9 (fun h5=>?_) (fun h5=>?_)
  ·have h5:i<l.length:=by omega
   have h6:i<w.length:=by omega
   have hv:=ajb (nth l i).r (oF i h5) (nth w i) (hf i);by_cases h7:e8 (nth l i).r=0∧iv (nth l i).r (nth w i)
   ·rw[decide_eq_true h7]at hv
    simp (disch:=omega) [-getElem?_pos,wrap64,bo (l:=l),bo (l:=w),hv];refine cc (i+1) (by simp) ⟨by omega,fun j h8=>?_⟩ (by omega)
    rcases Nat.lt_or_ge j i with h9|h9
    ·exact hj j h9
    ·rwa [show j=i by omega]
   ·rw[decide_eq_false h7]at hv
    simp (disch:=omega) [-getElem?_pos,wrap64,bo (l:=l),bo (l:=w),hv];exact no (fun g=>h7 (g.2.2.2 i h5))
  ·obtain rfl:i=l.length:=by omega
   exact yes ⟨by omega,a3,a4,hj⟩)
theorem ajo(c:Cs)(hr:oo c.r)(f:Fl)(hf:ua f)(G:List aW):bt F 28 [cs c,fl f] G=some (.bool (decide (gu c=0∧kB c f)),G) :=
 cg rfl rfl (by
  have h1:=No c hr;by_cases hz:gu c=0
  ·have h2:=Vp c (by have:=(oZ hz).s;omega) hr f hf
   simp[wrap64,F6,h1,h2,hz]
  ·simp[wrap64,F6,h1,hz])
noncomputable def o0(c:Cs)(f:Fl):Int:=if gu c≠0 then gu c else if kB c f then 0 else 50
theorem ajp(c:Cs)(hr:oo c.r)(f:Fl)(hf:ua f)(G:List aW):bt F 54 [cs c,fl f] G=some (i64 (o0 c f),G) :=
 cg rfl rfl (by
  have h1:=No c hr;unfold o0;by_cases hz:gu c=0
  ·have h2:=Vp c (by have:=(oZ hz).s;omega) hr f hf
   by_cases hf:kB c f
   ·simp[wrap64,Dz,h1,h2,hz,hf]
   ·simp[wrap64,Dz,h1,h2,hz,hf]
  ·simp[wrap64,Dz,h1,hz])
theorem BO(x m:Int)(G:List aW):bt F 71 [i64 x,i64 m] G=some (.bool (decide (0≤x)&&decide (x≤m)),G) :=
 cg rfl rfl (by simp +contextual [wrap64,KR])
theorem Vq(c:Cs)(hr:oo c.r)(f:Fl)(hf:ua f)(G:List aW):bt F 29 [cs c,fl f] G=some (.bool (decide (gu c=0∧kB c f)),G) :=
 cg rfl rfl (by
  have hc:=Np c hr;obtain⟨⟨n,l⟩,s⟩:=c;obtain⟨t,d,w⟩:=f;generalize hW:decide (gu ⟨⟨n,l⟩,s⟩=0∧kB ⟨⟨n,l⟩,s⟩ ⟨t,d,w⟩)=W;have no:¬ (gu ⟨⟨n,l⟩,s⟩=0∧kB ⟨⟨n,l⟩,s⟩ ⟨t,d,w⟩)→W=false:=fun h=>by rw[←hW];simp[h]
  have yes:(gu ⟨⟨n,l⟩,s⟩=0∧kB ⟨⟨n,l⟩,s⟩ ⟨t,d,w⟩)→W=true:=fun h=>by rw[←hW];simp[h]
  unfold kB BN m8 at no yes;simp only at no yes;unfold ua at hf;obtain⟨rA,oF⟩:=hr;simp only at hf rA oF;by_cases a0:gu ⟨⟨n,l⟩,s⟩=0
  case neg =>
   simp (disch:=omega) [-getElem?_pos,wrap64,yO,hc,a0];exact no (fun g=>a0 g.1)
  have Xj:=(oZ a0).s;simp only at Xj;by_cases a1:0≤t∧t≤16777216
  case neg =>
   have ld:(decide (0≤t)&&decide (t≤16777216))=false:=by simp;omega
   simp (disch:=omega) [-getElem?_pos,wrap64,yO,hc,a0,BO,ld];exact no (fun g=>a1 g.2.1)
  have ld:(decide (0≤t)&&decide (t≤16777216))=true:=by simp;exact a1
  by_cases a3:d.length=s.length
  case neg =>
   have HP:¬ (d.length:Int)=s.length:=by omega
   simp (disch:=omega) [-getElem?_pos,wrap64,yO,hc,a0,BO,ld,HP];exact no (fun g=>a3 g.2.2.1.1)
  have HP:(d.length:Int)=s.length:=by omega
  by_cases a4:w.length=l.length
  case neg =>
   have zQ:¬ (w.length:Int)=l.length:=by omega
   simp (disch:=omega) [-getElem?_pos,wrap64,yO,hc,a0,BO,ld,HP,zQ];exact no (fun g=>a4 g.2.2.2.1)
  have zQ:(w.length:Int)=l.length:=by omega
  simp (disch:=omega) [-getElem?_pos,wrap64,yO,hc,a0,BO,ld,HP,zQ];refine go_loop (fun i:Nat=>aak (rJ s) s.length i (Cs.row ⟨⟨n,l⟩,s⟩) (Fl.row ⟨t,d,w⟩) G) (fun i=>i≤s.length∧∀j,j<i→fB (nth s j).d=0∧g8 (nth s j).d (nth d j)) (fun i=>s.length-i) 0 rfl (by simp) (by simp) ?_
  rintro i ⟨hi,hj⟩;simp (disch:=omega) [-getElem?_pos,wrap64,Rl];refine b9 (fun h5=>?_) (fun h5=>?_)
  ·have h5:i<s.length:=by omega
   have h6:i<d.length:=by omega
   have hv:=MY (nth s i).d (nth d i);by_cases h7:fB (nth s i).d=0∧g8 (nth s i).d (nth d i)
   ·rw[decide_eq_true h7]at hv
    simp (disch:=omega) [-getElem?_pos,wrap64,bo (l:=s),bo (l:=d),hv];refine cc (i+1) (by simp) ⟨by omega,fun j h8=>?_⟩ (by omega)
    rcases Nat.lt_or_ge j i with h9|h9
    ·exact hj j h9
    ·rwa [show j=i by omega]
   ·rw[decide_eq_false h7]at hv
    simp (disch:=omega) [-getElem?_pos,wrap64,bo (l:=s),bo (l:=d),hv];exact no (fun g=>h7 (g.2.2.1.2 i h5))
  ·obtain rfl:i=s.length:=by omega
   have rp:=hj;refine go_loop (fun i:Nat=>aam (nN l) l.length i (Fl.row ⟨t,d,w⟩) G) (fun i=>i≤l.length∧∀j,j<i→e8 (nth l j).r=0∧iv (nth l j).r (nth w j)) (fun i=>l.length-i) 0 rfl (by simp) (by simp) ?_
   rintro i ⟨hi,hj⟩;simp (disch:=omega) [-getElem?_pos,wrap64,Rn];refine b9 (fun h5=>?_) (fun h5=>?_)
   ·have h5:i<l.length:=by omega
    have h6:i<w.length:=by omega
    have hv:=Ve (nth l i).r (oF i h5) (nth w i) (hf i);by_cases h7:e8 (nth l i).r=0∧iv (nth l i).r (nth w i)
    ·rw[decide_eq_true h7]at hv
     simp (disch:=omega) [-getElem?_pos,wrap64,bo (l:=l),bo (l:=w),hv];refine cc (i+1) (by simp) ⟨by omega,fun j h8=>?_⟩ (by omega)
     rcases Nat.lt_or_ge j i with h9|h9
     ·exact hj j h9
     ·rwa [show j=i by omega]
    ·rw[decide_eq_false h7]at hv
     simp (disch:=omega) [-getElem?_pos,wrap64,bo (l:=l),bo (l:=w),hv];exact no (fun g=>h7 (g.2.2.2.2 i h5))
   ·obtain rfl:i=l.length:=by omega
    exact yes ⟨a0,a1,⟨a3,rp⟩,a4,hj⟩)
end Go.Proofs.YtmpikpodpgnjhaaGreat
namespace Go.Proofs.YtmpikpodpgnjhaaGreat
set_option linter.all false
open Go.Vm
theorem HQ{α:Type}{row:α→List V}{k:Nat}(hk:∀a,(row a).length=k):∀l:List α,(l.map row).flatten.length=l.length*k
 |[]=>by simp
 |a::l=>by
  rw[List.map_cons,List.flatten_cons,List.length_append,hk,HQ hk l,List.length_cons,Nat.add_mul,Nat.one_mul,Nat.add_comm]
theorem Nq{α:Type}[Inhabited α]{row:α→List V}{k:Nat}(hk:∀a,(row a).length=k):∀{l:List α} {i:Nat},i<l.length→((l.map row).flatten.drop (i*k)).take k=row (nth l i)
 |[],i,h=>by simp at h
 |a::l,0,_=>by
  rw[Nat.zero_mul,List.drop_zero,List.map_cons,List.flatten_cons,List.take_append_of_le_length (by rw[hk];exact Nat.le_refl _),List.take_of_length_le (by rw[hk];exact Nat.le_refl _)]
  rfl
 |a::l,i+1,h=>by
  have ih:=Nq hk (l:=l) (i:=i) (by simpa using h)
  rw[List.map_cons,List.flatten_cons,show(i+1)*k=k+i*k by rw[Nat.add_mul,Nat.one_mul,Nat.add_comm],← List.drop_drop,List.drop_left' (hk a),ih]
  rfl
theorem Nr{x:V}:∀{vs cs:List V} {off:Nat},iZ (x::cs) (off+1) vs=x::iZ cs off vs
 |[],_,_=>rfl
 |v::vs,cs,off=>by
  simp only[iZ,List.set_cons_succ];exact Nr
theorem Vr:∀{p:List V} {cs vs:List V} {off:Nat},iZ (p++cs) (p.length+off) vs=p++iZ cs off vs
 |[],cs,vs,off=>by simp
 |a::p,cs,vs,off=>by
  rw[List.cons_append,List.length_cons,show p.length+1+off=(p.length+off)+1 by omega,Nr,Vr,List.cons_append]
theorem Vs:∀{vs p cs:List V},p.length=vs.length→iZ (p++cs) 0 vs=vs++cs
 |[],p,cs,h=>by
  have:p=[]:=List.length_eq_zero_iff.1 (by simpa using h)
  subst this;rfl
 |v::vs,[],cs,h=>by simp at h
 |v::vs,a::p,cs,h=>by
  simp only[iZ,List.cons_append,List.set_cons_zero];rw[Nr,Vs (by simpa using h)]
theorem HR{α:Type}{row:α→List V}{k:Nat}(hk:∀a,(row a).length=k){x:α}:∀{l:List α} {i:Nat},i<l.length→iZ (l.map row).flatten (i*k) (row x)=((l.set i x).map row).flatten
 |[],i,h=>by simp at h
 |a::l,0,_=>by
  rw[Nat.zero_mul,List.map_cons,List.flatten_cons,Vs (by rw[hk,hk])]
  rfl
 |a::l,i+1,h=>by
  have ih:=HR hk (x:=x) (l:=l) (i:=i) (by simpa using h)
  rw[List.map_cons,List.flatten_cons,show(i+1)*k=(row a).length+i*k by rw[hk,Nat.add_mul,Nat.one_mul,Nat.add_comm],Vr,ih]
  rfl
theorem xv{α:Type}[Inhabited α]{l:List α}{i j:Nat}{x:α}(h:i<l.length):nth (l.set i x) j=if j=i then x else nth l j:=by
 unfold nth;rw[List.getD_eq_getElem?_getD,List.getD_eq_getElem?_getD,List.getElem?_set];by_cases hj:j=i
 ·subst hj;simp[h]
 ·rw[if_neg hj,if_neg (fun e=>hj e.symm)]
end Go.Proofs.YtmpikpodpgnjhaaGreat
namespace Go.Proofs.YtmpikpodpgnjhaaGreat
set_option linter.all false
open Go.Vm
attribute [local simp] eU eV eS eT
theorem HS{α:Type}{row:α→List V}{k:Nat}(hk:∀a,(row a).length=k):∀{l:List α} {cs:List V} {off:Nat},cs.drop off=(l.map row).flatten→chunks k cs off l.length=l.map row
 |[],cs,off,h=>by simp[chunks]
 |a::l,cs,off,h=>by
  rw[List.map_cons,List.flatten_cons]at h;have h2:cs.drop (off+k)=(l.map row).flatten:=by
   rw[←List.drop_drop,h,List.drop_left' (hk a)]
  rw[List.length_cons,chunks,HS hk h2,h,List.take_left' (hk a),List.map_cons]
theorem HT{α:Type}{row:α→List V}{sh:Sh}(h:∀a,lP sh (row a)=some (row a)):∀l:List α,ly sh (l.map row)=some (l.map row)
 |[]=>rfl
 |a::l=>by simp[ly,h,HT h l]
def jj(l:List Ds):List V:=(l.map Ds.row).flatten
theorem Vt(l:List Ds):(l.map Ds.row).flatten=jj l:=rfl
@[simp] theorem apE{l:List Ds}:(jj l).length=l.length*4:=HQ (row:=Ds.row) (fun _=>rfl) l
theorem zR{l:List Ds}{n:Nat}(h:n=l.length):ly fL (chunks 4 (jj l) 0 n)=some (l.map Ds.row):=by
 subst h;rw[HS (row:=Ds.row) (fun _=>rfl) rfl];exact HT (fun a=>by simp) l
theorem Vu{l:List Ds}{a:Ds}:jj l++a.row=jj (l++[a]):=by simp[jj]
def kC(l:List (List Int)):List V:=(l.map fun p=>[ints p]).flatten
theorem Vv(l:List (List Int)):(l.map fun p=>[ints p]).flatten=kC l:=rfl
@[simp] theorem apF{l:List (List Int)}:(kC l).length=l.length:=by
 have:=HQ (row:=fun p=>[ints p]) (k:=1) (fun _=>rfl) l
 rwa [Nat.mul_one]at this
theorem HU{l:List (List Int)}{n:Nat}(h:n=l.length):ly [some 1] (chunks 1 (kC l) 0 n)=some (l.map fun p=>[ints p]):=by
 subst h;rw[HS (row:=fun p=>[ints p]) (fun _=>rfl) rfl];exact HT (fun a=>by simp) l
theorem Vw{l:List (List Int)}{a:List Int}:kC l++[ints a]=kC (l++[a]):=by simp[kC]
theorem HV{α:Type}{row:α→List V}{p:V→Bool}(h:∀a,(row a).all p=true):∀l:List α,(l.map row).flatten.all p=true
 |[]=>rfl
 |a::l=>by rw[List.map_cons,List.flatten_cons,List.all_append,h,HV h l];rfl
theorem EC{α:Type}{row:α→List V}{f:V→V}(h:∀a,(row a).map f=row a):∀l:List α,(l.map row).flatten.map f=(l.map row).flatten
 |[]=>rfl
 |a::l=>by rw[List.map_cons,List.flatten_cons,List.map_append,h,EC h l]
@[simp] theorem apG{l:List Ds}{d:Nat}:((jj l).all fun v => !V.cI d v)=true:=HV (row:=Ds.row) (fun a=>by simp) l
@[simp] theorem apH{l:List (List Int)}{d:Nat}:((kC l).all fun v => !V.cI d v)=true:=HV (row:=fun p=>[ints p]) (fun a=>by simp) l
@[simp] theorem apI{l:List Ds}{a b:Nat}:(jj l).map (V.ic a b)=jj l:=EC (row:=Ds.row) (fun a=>by simp) l
@[simp] theorem apJ{l:List (List Int)}{a b:Nat}:(kC l).map (V.ic a b)=kC l:=EC (row:=fun p=>[ints p]) (fun a=>by simp) l
@[simp] theorem apK{l:List Ds}:(jj l).map V.j7=jj l:=EC (row:=Ds.row) (fun a=>by simp) l
@[simp] theorem apL{l:List (List Int)}:(kC l).map V.j7=kC l:=EC (row:=fun p=>[ints p]) (fun a=>by simp) l
def ED(l:List Ds):Prop:=l.length≤1000∧∀i,i<l.length→(nth l i).u.length≤1000∧(nth l i).g.length≤1000
def Ns(l:List (List Int)):Prop:=l.length≤1000∧∀i,i<l.length→(nth l i).length≤17592186044416
theorem Vx(l:List Ds)(h:ED l)(G:List aW):bt F 76 [tY l] G=some (.dB G.length 4 l.length,G++[.cells (jj l)]) :=
 cg rfl rfl (by
  obtain⟨hl,hs⟩:=h;simp (disch:=omega) [-getElem?_pos,wrap64,KT];refine go_loop (fun i:Nat=>abn i (tY l) l.length i (jj (l.take i)) G) (fun i=>i≤l.length) (fun i=>l.length-i) 0 rfl (by simp[jj]) (by simp) ?_
  rintro i hi;simp (disch:=omega) [-getElem?_pos,wrap64,RP];refine b9 (fun h5=>?_) (fun h5=>?_)
  ·have h5:i<l.length:=by omega
   have hu:=ai5 (nth l i).u (hs i h5).1;have hg:=ai6 (nth l i).g (hs i h5).2;have hm:Nat.min i l.length=i:=Nat.min_eq_left hi;simp (disch:=omega) [-getElem?_pos,wrap64,bo (l:=l),hu,hg];exact cc (i+1) (by simp[jF h5,← Vu]) (by omega) (by omega)
  ·obtain rfl:i=l.length:=by omega
   simp (disch:=omega) [-getElem?_pos,wrap64,zR,Vt,List.take_length])
theorem Vy(l:List Int)(hl:l.length≤17592186044416)(G:List aW):bt F 91 [ints l] G=some (.slice (some 0) 1 (l.map fun n=>[i64 n]),G):=by
 cases l with
 |nil =>
  refine JV (p:=0) (m:=1) rfl rfl rfl rfl ?_ ?_
  ·simp (disch:=omega) [wrap64,DI]
  ·simp (disch:=omega) [wrap64,DI]
 |cons a l =>
  have hl:l.length+1≤17592186044416:=by simpa using hl
  show bt F 91 [.slice none 1 ([i64 a]::l.map fun n=>[i64 n])] G=some (.slice (some 0) 1 ([i64 a]::l.map fun n=>[i64 n]),G);refine JW (p:=0) rfl rfl rfl (fun m=>by simp) ?_
  simp (disch:=omega) [wrap64,DI]
theorem ajr(l:List (List Int))(h:Ns l)(G:List aW):bt F 79 [tZ l] G=some (.dB G.length 1 l.length,G++[.cells (kC l)]) :=
 cg rfl rfl (by
  obtain⟨hl,hs⟩:=h;simp (disch:=omega) [-getElem?_pos,wrap64,KU];refine go_loop (fun i:Nat=>abp i (tZ l) l.length i (kC (l.take i)) G) (fun i=>i≤l.length) (fun i=>l.length-i) 0 rfl (by simp[kC]) (by simp) ?_
  rintro i hi;simp (disch:=omega) [-getElem?_pos,wrap64,RQ];refine b9 (fun h5=>?_) (fun h5=>?_)
  ·have h5:i<l.length:=by omega
   have hu:=Vy (nth l i) (hs i h5);have hm:Nat.min i l.length=i:=Nat.min_eq_left hi;simp (disch:=omega) [-getElem?_pos,wrap64,bo (l:=l),hu];exact cc (i+1) (by simp[jF h5,← Vw]) (by omega) (by omega)
  ·obtain rfl:i=l.length:=by omega
   simp (disch:=omega) [-getElem?_pos,wrap64,HU,Vv,List.take_length])
theorem Vz(l:List Ds)(h:ED l)(G:List aW):bt F 63 [tY l] G=some (.dB G.length 4 l.length,G++[.cells (jj l)]) :=
 cg rfl rfl (by
  obtain⟨hl,hs⟩:=h;simp (disch:=omega) [-getElem?_pos,wrap64,KP];refine go_loop (fun i:Nat=>aaZ i (tY l) l.length i (jj (l.take i)) G) (fun i=>i≤l.length) (fun i=>l.length-i) 0 rfl (by simp[jj]) (by simp) ?_
  rintro i hi;simp (disch:=omega) [-getElem?_pos,wrap64,RE];refine b9 (fun h5=>?_) (fun h5=>?_)
  ·have h5:i<l.length:=by omega
   have hu:=(hs i h5).1;have hg:=(hs i h5).2;have hm:Nat.min i l.length=i:=Nat.min_eq_left hi;simp (disch:=omega) [-getElem?_pos,wrap64,bo (l:=l)];exact cc (i+1) (by simp[jF h5,← Vu]) (by omega) (by omega)
  ·obtain rfl:i=l.length:=by omega
   simp (disch:=omega) [-getElem?_pos,wrap64,zR,Vt,List.take_length])
theorem ajs(f:Fl)(h:ED f.d)(hw:Ns f.w)(G:List aW):bt F 22 [fl f] G=some (.agg [i64 f.t,.dB G.length 4 f.d.length,.dB (G.length+1) 1 f.w.length],G++[.cells (jj f.d),.cells (kC f.w)]) :=
 cg rfl rfl (by
  obtain⟨t,d,l⟩:=f;simp only at h hw;have hd:=Vz d h;obtain⟨hl,hs⟩:=hw;simp (disch:=omega) [-getElem?_pos,wrap64,KG,hd];refine go_loop (fun i:Nat=>aae i (tZ l) l.length i [i64 t,.dB G.length 4 d.length,tZ l] [i64 0,.aK,.aK] (kC (l.take i)) (G++[.cells (jj d)])) (fun i=>i≤l.length) (fun i=>l.length-i) 0 rfl (by simp[kC]) (by simp) ?_
  rintro i hi;simp (disch:=omega) [-getElem?_pos,wrap64,Ri];refine b9 (fun h5=>?_) (fun h5=>?_)
  ·have h5:i<l.length:=by omega
   have hu:=hs i h5;have hm:Nat.min i l.length=i:=Nat.min_eq_left hi;simp (disch:=omega) [-getElem?_pos,wrap64,bo (l:=l)];exact cc (i+1) (by simp[jF h5,← Vw]) (by omega) (by omega)
  ·obtain rfl:i=l.length:=by omega
   simp (disch:=omega) [-getElem?_pos,wrap64,HU,Vv,List.take_length])
end Go.Proofs.YtmpikpodpgnjhaaGreat
