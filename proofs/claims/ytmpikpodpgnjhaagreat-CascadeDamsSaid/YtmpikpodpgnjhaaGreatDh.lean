/- Parts of the proof, joined: Rch1, Rch2, Rch3, Rch4, Rch5, Riv1, Cas1, Cas2, Fla1, Cas3, Cas4, Cas5, Mk5, Flo1. -/
import Derived.Test.YtmpikpodpgnjhaaGreatDg
import Derived.Test.YtmpikpodpgnjhaaGreatDa
import Derived.Test.YtmpikpodpgnjhaaGreatDe
namespace Go.Proofs.YtmpikpodpgnjhaaGreat
set_option linter.all false
open Go.Vm
attribute [local simp] eS eT eQ eR
def fN(l:List Int)(b:Int):Prop:=∀i,i<l.length→0≤nth l i∧nth l i≤b
noncomputable instance {l:List Int} {b:Int}:Decidable (fN l b):=Classical.propDecidable _
def sm(l:List Int):Nat→Int
 |0=>0
 |i+1=>sm l i+nth l i
theorem BI{l:List Int}{b:Int}:∀{i:Nat},(∀j,j<i→0≤nth l j∧nth l j≤b)→0≤sm l i∧sm l i≤b*i
 |0,_=>by simp[sm]
 |i+1,h=>by
  have:=BI fun j hj=>h j (Nat.lt_succ_of_lt hj);have:=h i (by omega)
  have:b*((i+1:Nat):Int)=b*i+b:=by simp[Int.mul_add]
  simp only[sm];omega
structure Rc where
 w:List Int
 den:Int
 deriving Inhabited
abbrev Rc.row(r:Rc):List V:=[ints r.w,i64 r.den]
abbrev rc(r:Rc):V:=.agg r.row
abbrev wv(p:List Int):V:=.agg [ints p]
noncomputable def e9(r:Rc):Int :=
 if r.w.length=0∨nth r.w (r.w.length-1)=0 then 3 else if 24<r.w.length then 10 else if fN r.w 10000 then (if sm r.w r.w.length=r.den then 0 else 2) else 1
theorem uT(r:Rc)(hl:r.w.length≤17592186044416)(G:List aV):bo F 127 [rc r] G=some (i64 (e9 r),G) :=
 cg rfl rfl (by
  obtain⟨w,den⟩:=r;simp only at hl;generalize hW:e9 ⟨w,den⟩=W;unfold e9 at hW;simp only at hW;by_cases h1:w.length=0
  ·rw[if_pos (.inl h1)]at hW
   have nL:(w.length:Int)=0:=by omega
   simp (disch:=omega) [-getElem?_pos,-Int.natCast_eq_zero,wrap64,Bf,nL];exact hW
  have nL:¬ (w.length:Int)=0:=by omega
  by_cases h2:nth w (w.length-1)=0
  ·rw[if_pos (.inr h2)]at hW
   simp (disch:=omega) [-getElem?_pos,-Int.natCast_eq_zero,wrap64,Bf,nL,eB (l:=w),h2];exact hW
  rw[if_neg (by omega)]at hW
  by_cases h3:24<w.length
  ·rw[if_pos h3]at hW
   have jz:(24:Int)<w.length:=by omega
   simp (disch:=omega) [-getElem?_pos,-Int.natCast_eq_zero,wrap64,Bf,nL,eB (l:=w),h2,jz];exact hW
  rw[if_neg h3]at hW;have jz:¬ (24:Int)<w.length:=by omega
  simp (disch:=omega) [-getElem?_pos,-Int.natCast_eq_zero,wrap64,Bf,nL,eB (l:=w),h2,jz];refine go_loop (fun i:Nat=>abQ (sm w i) (ints w) w.length i (Rc.row ⟨w,den⟩) G) (fun i=>i≤w.length∧∀j,j<i→0≤nth w j∧nth w j≤10000) (fun i=>w.length-i) 0 rfl (by simp[sm]) (by simp) ?_
  rintro i ⟨hi,hj⟩;have hs:=BI hj;simp (disch:=omega) [-getElem?_pos,-Int.natCast_eq_zero,wrap64,R8];refine b9 (fun h5=>?_) (fun h5=>?_)
  ·have h5:i<w.length:=by omega
   by_cases h6:0≤nth w i∧nth w i≤10000
   ·have iH:(decide (0≤nth w i)&&decide (nth w i≤10000))=true:=by simp;exact h6
    simp (disch:=omega) [-getElem?_pos,-Int.natCast_eq_zero,wrap64,eB (l:=w),dG,c5,iH];refine cc (i+1) (by simp[sm]) ⟨by omega,fun j h7=>?_⟩ (by omega)
    rcases Nat.lt_or_ge j i with h8|h8
    ·exact hj j h8
    ·rwa [show j=i by omega]
   ·have iH:(decide (0≤nth w i)&&decide (nth w i≤10000))=false:=by simp;omega
    rw[if_neg (fun g:fN w 10000=>h6 (g i h5))]at hW;simp (disch:=omega) [-getElem?_pos,-Int.natCast_eq_zero,wrap64,eB (l:=w),dG,c5,iH];exact hW
  ·obtain rfl:i=w.length:=by omega
   rw[if_pos (show fN w 10000 from hj)]at hW;by_cases h7:sm w w.length=den
   ·rw[if_pos h7]at hW
    simp (disch:=omega) [-getElem?_pos,-Int.natCast_eq_zero,wrap64,h7];exact hW
   ·rw[if_neg h7]at hW
    simp (disch:=omega) [-getElem?_pos,-Int.natCast_eq_zero,wrap64,h7];exact hW)
theorem uU(r:Rc)(hl:r.w.length≤17592186044416)(G:List aV):bo F 114 [rc r] G=some (i64 (e9 r),G) :=
 cg rfl rfl (by
  obtain⟨w,den⟩:=r;simp only at hl;generalize hW:e9 ⟨w,den⟩=W;unfold e9 at hW;simp only at hW;by_cases h1:w.length=0
  ·rw[if_pos (.inl h1)]at hW
   have nL:(w.length:Int)=0:=by omega
   simp (disch:=omega) [-getElem?_pos,-Int.natCast_eq_zero,wrap64,Bb,nL];exact hW
  have nL:¬ (w.length:Int)=0:=by omega
  by_cases h2:nth w (w.length-1)=0
  ·rw[if_pos (.inr h2)]at hW
   simp (disch:=omega) [-getElem?_pos,-Int.natCast_eq_zero,wrap64,Bb,nL,eB (l:=w),h2];exact hW
  rw[if_neg (by omega)]at hW
  by_cases h3:24<w.length
  ·rw[if_pos h3]at hW
   have jz:(24:Int)<w.length:=by omega
   simp (disch:=omega) [-getElem?_pos,-Int.natCast_eq_zero,wrap64,Bb,nL,eB (l:=w),h2,jz];exact hW
  rw[if_neg h3]at hW;have jz:¬ (24:Int)<w.length:=by omega
  simp (disch:=omega) [-getElem?_pos,-Int.natCast_eq_zero,wrap64,Bb,nL,eB (l:=w),h2,jz];refine go_loop (fun i:Nat=>abw (sm w i) (ints w) w.length i (Rc.row ⟨w,den⟩) G) (fun i=>i≤w.length∧∀j,j<i→0≤nth w j∧nth w j≤10000) (fun i=>w.length-i) 0 rfl (by simp[sm]) (by simp) ?_
  rintro i ⟨hi,hj⟩;have hs:=BI hj;simp (disch:=omega) [-getElem?_pos,-Int.natCast_eq_zero,wrap64,RW];refine b9 (fun h5=>?_) (fun h5=>?_)
  ·have h5:i<w.length:=by omega
   by_cases h6:0≤nth w i∧nth w i≤10000
   ·have iH:(decide (0≤nth w i)&&decide (nth w i≤10000))=true:=by simp;exact h6
    simp (disch:=omega) [-getElem?_pos,-Int.natCast_eq_zero,wrap64,eB (l:=w),dG,c5,iH];refine cc (i+1) (by simp[sm]) ⟨by omega,fun j h7=>?_⟩ (by omega)
    rcases Nat.lt_or_ge j i with h8|h8
    ·exact hj j h8
    ·rwa [show j=i by omega]
   ·have iH:(decide (0≤nth w i)&&decide (nth w i≤10000))=false:=by simp;omega
    rw[if_neg (fun g:fN w 10000=>h6 (g i h5))]at hW;simp (disch:=omega) [-getElem?_pos,-Int.natCast_eq_zero,wrap64,eB (l:=w),dG,c5,iH];exact hW
  ·obtain rfl:i=w.length:=by omega
   rw[if_pos (show fN w 10000 from hj)]at hW;by_cases h7:sm w w.length=den
   ·rw[if_pos h7]at hW
    simp (disch:=omega) [-getElem?_pos,-Int.natCast_eq_zero,wrap64,h7];exact hW
   ·rw[if_neg h7]at hW
    simp (disch:=omega) [-getElem?_pos,-Int.natCast_eq_zero,wrap64,h7];exact hW)
end Go.Proofs.YtmpikpodpgnjhaaGreat
namespace Go.Proofs.YtmpikpodpgnjhaaGreat
set_option linter.all false
open Go.Vm
attribute [local simp] eS eT eQ eR
def iy(r:Rc)(p:List Int):Prop:=p.length≤r.w.length∧(0<p.length→nth p (p.length-1)≠0)∧fN p 2251799813685248
noncomputable instance {r:Rc} {p:List Int}:Decidable (iy r p):=Classical.propDecidable _
theorem U8(r:Rc)(p:List Int)(hl:p.length≤17592186044416)(G:List aV):bo F 174 [rc r,wv p] G=some (.bool (decide (iy r p)),G) :=
 cg rfl rfl (by
  obtain⟨w,den⟩:=r;generalize hW:decide (iy ⟨w,den⟩ p)=W;have no:¬ iy ⟨w,den⟩ p→W=false:=fun h=>by rw[←hW];simp[h]
  unfold iy at no;simp only at no;by_cases h1:(w.length:Int)<p.length
  ·simp +contextual (disch:=omega) [-getElem?_pos,wrap64,Bh,h1]
   exact no (by omega)
  by_cases h2:0<p.length∧nth p (p.length-1)=0
  ·have lO:(0:Int)<p.length:=by omega
   simp +contextual (disch:=omega) [-getElem?_pos,wrap64,Bh,h1,lO,eB (l:=p),h2.2];exact no (fun h=>h.2.1 h2.1 h2.2)
  rcases (by omega:(0:Int)<p.length∧nth p (p.length-1)≠0∨¬ (0:Int)<p.length) with⟨h3,h4⟩ | h3
  ·simp +contextual (disch:=omega) [-getElem?_pos,wrap64,Bh,h1,h3,eB (l:=p),h4]
   refine go_loop (fun i:Nat=>acL (ints p) p.length i G) (fun i=>i≤p.length∧∀j,j<i→0≤nth p j∧nth p j≤2251799813685248) (fun i=>p.length-i) 0 rfl (by simp) (by simp) ?_
   rintro i ⟨hi,hj⟩;simp +contextual (disch:=omega) [-getElem?_pos,wrap64,LB];refine b9 (fun h5=>?_) (fun h5=>?_)
   ·have h5:i<p.length:=by omega
    by_cases h6:0≤nth p i∧nth p i≤2251799813685248
    ·have iH:(decide (0≤nth p i)&&decide (nth p i≤2251799813685248))=true:=by simp;exact h6
     simp +contextual (disch:=omega) [-getElem?_pos,wrap64,eB (l:=p),dG,c5,iH];refine cc (i+1) (by simp) ⟨by omega,fun j h7=>?_⟩ (by omega)
     rcases Nat.lt_or_ge j i with h8|h8
     ·exact hj j h8
     ·rwa [show j=i by omega]
    ·have iH:(decide (0≤nth p i)&&decide (nth p i≤2251799813685248))=false:=by simp;omega
     simp +contextual (disch:=omega) [-getElem?_pos,wrap64,eB (l:=p),dG,c5,iH];exact no (fun h=>h6 (h.2.2 i h5))
   ·obtain rfl:i=p.length:=by omega
    rw[←hW,decide_eq_true (show iy ⟨w,den⟩ p from⟨by simp only;omega,fun h6 h7=>h2 ⟨h6,h7⟩,hj⟩)]
  ·obtain rfl:p=[]:=List.length_eq_zero_iff.1 (by omega)
   have nL:¬ (w.length:Int)<0:=by omega
   simp +contextual (disch:=omega) [-getElem?_pos,wrap64,Bh,nL];unfold SF;rw[yI];simp +contextual (disch:=omega) [-getElem?_pos,wrap64,LB];rw[←hW,decide_eq_true (show iy ⟨w,den⟩ [] from⟨by simp,by simp,fun i hi=>by simp at hi⟩)])
theorem U9(r:Rc)(hr:r.w.length≤17592186044416)(p:List Int)(hl:p.length≤17592186044416)(G:List aV):bo F 73 [rc r,wv p] G=some (.bool (decide (e9 r=0∧iy r p)),G) :=
 cg rfl rfl (by
  have hc:=uU r hr;by_cases hz:e9 r=0
  ·rw[hz]at hc
   obtain⟨w,den⟩:=r;rw[show decide (e9 ⟨w,den⟩=0∧iy ⟨w,den⟩ p)=decide (iy ⟨w,den⟩ p) by simp[hz]]
   generalize hW:decide (iy ⟨w,den⟩ p)=W;have no:¬ iy ⟨w,den⟩ p→W=false:=fun h=>by rw[←hW];simp[h]
   unfold iy at no;simp only at no;by_cases h1:(w.length:Int)<p.length
   ·simp +contextual (disch:=omega) [-getElem?_pos,wrap64,yV,hc,h1]
    exact no (by omega)
   by_cases h2:0<p.length∧nth p (p.length-1)=0
   ·have lO:(0:Int)<p.length:=by omega
    simp +contextual (disch:=omega) [-getElem?_pos,wrap64,yV,hc,h1,lO,eB (l:=p),h2.2];exact no (fun h=>h.2.1 h2.1 h2.2)
   rcases (by omega:(0:Int)<p.length∧nth p (p.length-1)≠0∨¬ (0:Int)<p.length) with⟨h3,h4⟩ | h3
   ·simp +contextual (disch:=omega) [-getElem?_pos,wrap64,yV,hc,h1,h3,eB (l:=p),h4]
    refine go_loop (fun i:Nat=>abh (ints p) p.length i G) (fun i=>i≤p.length∧∀j,j<i→0≤nth p j∧nth p j≤2251799813685248) (fun i=>p.length-i) 0 rfl (by simp) (by simp) ?_
    rintro i ⟨hi,hj⟩;simp +contextual (disch:=omega) [-getElem?_pos,wrap64,KT];refine b9 (fun h5=>?_) (fun h5=>?_)
    ·have h5:i<p.length:=by omega
     by_cases h6:0≤nth p i∧nth p i≤2251799813685248
     ·have iH:(decide (0≤nth p i)&&decide (nth p i≤2251799813685248))=true:=by simp;exact h6
      simp +contextual (disch:=omega) [-getElem?_pos,wrap64,eB (l:=p),dG,c5,iH];refine cc (i+1) (by simp) ⟨by omega,fun j h7=>?_⟩ (by omega)
      rcases Nat.lt_or_ge j i with h8|h8
      ·exact hj j h8
      ·rwa [show j=i by omega]
     ·have iH:(decide (0≤nth p i)&&decide (nth p i≤2251799813685248))=false:=by simp;omega
      simp +contextual (disch:=omega) [-getElem?_pos,wrap64,eB (l:=p),dG,c5,iH];exact no (fun h=>h6 (h.2.2 i h5))
    ·obtain rfl:i=p.length:=by omega
     rw[←hW,decide_eq_true (show iy ⟨w,den⟩ p from⟨by simp only;omega,fun h6 h7=>h2 ⟨h6,h7⟩,hj⟩)]
   ·obtain rfl:p=[]:=List.length_eq_zero_iff.1 (by omega)
    have nL:¬ (w.length:Int)<0:=by omega
    simp +contextual (disch:=omega) [-getElem?_pos,wrap64,yV,hc,nL];unfold RM;rw[yI];simp +contextual (disch:=omega) [-getElem?_pos,wrap64,KT];rw[←hW,decide_eq_true (show iy ⟨w,den⟩ [] from⟨by simp,by simp,fun i hi=>by simp at hi⟩)]
  ·generalize hW:decide (e9 r=0∧iy r p)=W
   simp +contextual (disch:=omega) [-getElem?_pos,wrap64,yV,hc,hz];rw[←hW];simp[hz])
theorem ai9(r:Rc)(hr:r.w.length≤17592186044416)(p:List Int)(hl:p.length≤17592186044416)(G:List aV):bo F 134 [rc r,wv p] G=some (.bool (decide (e9 r=0∧iy r p)),G) :=
 cg rfl rfl (by
  have hc:=uT r hr;have hf:=U8 r p hl;by_cases hz:e9 r=0
  ·simp[wrap64,Gn,hc,hf,hz]
  ·simp[wrap64,Gn,hc,hf,hz])
end Go.Proofs.YtmpikpodpgnjhaaGreat
namespace Go.Proofs.YtmpikpodpgnjhaaGreat
set_option linter.all false
open Go.Vm
attribute [local simp] eS eT eQ eR
structure Rv(r:Rc):Prop where
 pos:1≤r.w.length
 len:r.w.length≤24
 last:nth r.w (r.w.length-1)≠0
 w:∀i,i<r.w.length→0≤nth r.w i∧nth r.w i≤10000
 sum:sm r.w r.w.length=r.den
 den:1≤r.den∧r.den≤240000
theorem wc{r:Rc}(h:e9 r=0):Rv r:=by
 unfold e9 at h;split at h
 ·cases h
 split at h
 ·cases h
 split at h
 ·rename_i h1 h2 h3
  split at h
  ·rename_i h4
   have h0:1≤r.w.length:=by omega
   have s1:=BI (l:=r.w) (b:=10000) (i:=r.w.length) h3;have s2:=BI (l:=r.w) (b:=10000) (i:=r.w.length-1) fun j hj=>h3 j (by omega)
   have s3:sm r.w r.w.length=sm r.w (r.w.length-1)+nth r.w (r.w.length-1):=by
    conv=>lhs;rw[show r.w.length=r.w.length-1+1 by omega]
    rfl
   have h5:=h3 (r.w.length-1) (by omega)
   exact⟨h0,by omega,by omega,h3,h4,by omega⟩
  ·cases h
 ·cases h
def rq(r:Rc)(p:List Int)(x:Int)(k:Nat):Int:=nth p k+x*nth r.w k
def sX(r:Rc)(p:List Int)(x:Int):Prop:=∀k,k<r.w.length→rq r p x k≤1125899906842624
noncomputable instance {r:Rc} {p:List Int} {x:Int}:Decidable (sX r p x):=Classical.propDecidable _
def m6(r:Rc)(p:List Int)(x:Int):Int:=rq r p x 0 / r.den
def rN(r:Rc)(p:List Int)(x:Int)(k:Nat):Int:=if k=0 then rq r p x 1+rq r p x 0 % r.den else rq r p x (k+1)
def om(f:Nat→Int):Nat→Nat
 |0=>0
 |n+1=>if f n=0 then om f n else n+1
def m8(r:Rc)(p:List Int)(x:Int):List Int:=(List.range (om (rN r p x) r.w.length)).map (rN r p x)
theorem we{l:List Int}{i:Nat}(h:l.length≤i):nth l i=0:=by
 simp[nth,List.getD,List.getElem?_eq_none h]
theorem wg{r:Rc}(hr:Rv r){p:List Int}(hp:iy r p){x:Int}(hx:0≤x∧x≤1073741824)(k:Nat):0≤rq r p x k∧rq r p x k≤2262537232089088:=by
 have h1:0≤nth p k∧nth p k≤2251799813685248:=by
  rcases Nat.lt_or_ge k p.length with h|h
  ·exact hp.2.2 k h
  ·rw[we h];omega
 have h2:0≤nth r.w k∧nth r.w k≤10000:=by
  rcases Nat.lt_or_ge k r.w.length with h|h
  ·exact hr.w k h
  ·rw[we h];omega
 have h3:0≤x*nth r.w k:=Int.mul_nonneg hx.1 h2.1;have h4:x*nth r.w k≤1073741824*10000:=Int.mul_le_mul hx.2 h2.2 h2.1 (by omega)
 unfold rq;omega
theorem Va{p:List Int}:(dS p).all V.sc=true:=by simp[dS,V.sc]
theorem Vb{p:List Int}{n:Nat}(h:p.length≤n):(dS p).take n++(eX n fun _=>0).drop p.length=eX n (nth p):=by
 rw[List.take_of_length_le (by simpa using h)]
 apply List.ext_getElem?;intro i;rcases Nat.lt_or_ge i p.length with h1|h1
 ·rw[List.getElem?_append_left (by simpa using h1),kT h1,oc (by omega)]
 ·rw[List.getElem?_append_right (by simpa using h1),Zl,List.getElem?_drop,show p.length+(i-p.length)=i by omega]
  rcases Nat.lt_or_ge i n with h2|h2
  ·rw[oc h2,oc h2,we h1]
  ·rw[List.getElem?_eq_none (by simpa using h2),List.getElem?_eq_none (by simpa using h2)]
theorem aja{n:Nat}{f:Nat→Int}:(List.take n (eX (n+1) f).tail).all V.sc=true:=by
 rw[List.all_eq_true];intro v hv;have:=List.mem_of_mem_tail (List.mem_of_mem_take hv);simp only[eX,List.mem_map]at this;obtain⟨j,_,rfl⟩:=this;rfl
theorem ajb{n:Nat}{f:Nat→Int}:List.take (n+1) (List.take n (eX (n+1) f).tail)++List.drop n (eX (n+1) f)=eX (n+1) fun k=>if k<n then f (k+1) else f k:=by
 apply List.ext_getElem?;intro i;have hl:(List.take n (eX (n+1) f).tail).length=n:=by simp
 rw[List.take_of_length_le (by rw[hl];omega)]
 rcases Nat.lt_or_ge i n with h|h
 ·rw[List.getElem?_append_left (by rw[hl];exact h),List.getElem?_take_of_lt h,List.getElem?_tail,oc (by omega),oc (by omega),if_pos h]
 ·rw[List.getElem?_append_right (by rw[hl];exact h),hl,List.getElem?_drop,show n+(i-n)=i by omega]
  rcases Nat.lt_or_ge i (n+1) with h2|h2
  ·rw[oc h2,oc h2,if_neg (by omega)]
  ·rw[List.getElem?_eq_none (by simpa using h2),List.getElem?_eq_none (by simpa using h2)]
theorem Ve{n m:Nat}{f:Nat→Int}(h:m≤n):lz [none] (chunks 1 (eX n f) 0 m)=some ((List.range m).map fun j=>[V.int .i64 (f j)]):=by
 have e:(eX n f).take m=eX m f:=by
  apply List.ext_getElem?;intro i;rcases Nat.lt_or_ge i m with h1|h1
  ·rw[List.getElem?_take_of_lt h1,oc (by omega),oc h1]
  ·rw[List.getElem?_eq_none (by simp;omega),List.getElem?_eq_none (by simpa using h1)]
 rw[C2 _ _ _ rfl (by simpa using h),List.drop_zero,e,eX,List.map_map]
 exact FP f _
theorem ajc(r:Rc)(hr:Rv r)(p:List Int)(hp:iy r p)(x:Int)(hx:0≤x∧x≤1073741824)(G:List aV) :
  bo F 200 [rc r,wv p,i64 x] G=some (.tuple (if sX r p x then [wv (m8 r p x),i64 (m6 r p x),.bool true] else [.agg [.slice (some 0) 1 []],i64 0,.bool false]),G) :=
 cg rfl rfl (by
  obtain⟨w,den⟩:=r;generalize hW:(V.tuple (if sX ⟨w,den⟩ p x then [wv (m8 ⟨w,den⟩ p x),i64 (m6 ⟨w,den⟩ p x),.bool true] else [.agg [.slice (some 0) 1 []],i64 0,.bool false]))=W
  have hlen:=hr.len;have hZ:=hr.pos;have lD:=hp.1;simp only at hlen hZ lD;have Nm:p.length≤w.length+1:=by omega
  have Nn:∀k,k<w.length→0≤x*nth w k∧x*nth w k≤10737418240000:=fun k hk=>by
   have h2:=hr.w k hk;simp only at h2;have h3:0≤x*nth w k:=Int.mul_nonneg hx.1 h2.1;have h4:x*nth w k≤1073741824*10000:=Int.mul_le_mul hx.2 h2.2 h2.1 (by omega)
   omega
  have No:∀k,0≤nth p k∧nth p k≤2251799813685248:=fun k=>by
   rcases Nat.lt_or_ge k p.length with h|h
   ·exact hp.2.2 k h
   ·rw[we h];omega
  simp (disch:=omega) [-getElem?_pos,wrap64,LR,Qp,Va,Vb Nm];refine go_loop (fun i:Nat=>adf x (w.length+1) (ints w) w.length i (Rc.row ⟨w,den⟩) [.aK] (eX (w.length+1) fun k=>if k<i then rq ⟨w,den⟩ p x k else nth p k) G) (fun i=>i≤w.length∧∀k,k<i→rq ⟨w,den⟩ p x k≤1125899906842624) (fun i=>w.length-i) 0 rfl (by simp) (by simp) ?_
  rintro i ⟨hi,hj⟩;simp (disch:=omega) [-getElem?_pos,wrap64,SS];refine b9 (fun h5=>?_) (fun h5=>?_)
  ·have h5:i<w.length:=by omega
   have hq:=wg hr hp hx i;have ha:=Nn i h5;have hb:=No i;have hf:(fun j=>if j=i then nth p i+x*nth w i else if j<i then rq ⟨w,den⟩ p x j else nth p j)=fun j=>if j<i+1 then rq ⟨w,den⟩ p x j else nth p j:=by
    funext j;by_cases h6:j=i
    ·subst h6;simp[rq]
    ·by_cases h7:j<i
     ·rw[if_neg h6,if_pos h7,if_pos (by omega)]
     ·rw[if_neg h6,if_neg h7,if_neg (by omega)]
   simp (disch:=omega) [-getElem?_pos,wrap64,eB (l:=w),oc,hf];refine b9 (fun h7=>?_) (fun h7=>?_)
   ·rw[←hW,if_neg (fun g:sX ⟨w,den⟩ p x=>absurd (g i h5) (by omega))]
   ·refine cc (i+1) (by simp) ⟨by omega,fun k hk=>?_⟩ (by omega)
    rcases Nat.lt_or_ge k i with h8|h8
    ·exact hj k h8
    ·rw[show k=i by omega];omega
  ·obtain rfl:i=w.length:=by omega
   rw[if_pos (show sX ⟨w,den⟩ p x from hj)]at hW;have hf:(eX (w.length+1) fun k=>if k<w.length then rq ⟨w,den⟩ p x k else nth p k)=eX (w.length+1) (rq ⟨w,den⟩ p x):=JW fun k hk=>by
    by_cases h6:k<w.length
    ·rw[if_pos h6]
    ·rw[if_neg h6,show k=w.length by omega];simp[rq,we (Nat.le_refl w.length)]
   have hd:=hr.den;simp only at hd;have Ew:¬ den=0:=by omega
   have q0:=wg hr hp hx 0;have q1:=wg hr hp hx 1;have d1:(rq ⟨w,den⟩ p x 0).tdiv den=rq ⟨w,den⟩ p x 0 / den:=Int.tdiv_eq_ediv_of_nonneg q0.1;have d2:(rq ⟨w,den⟩ p x 0).tmod den=rq ⟨w,den⟩ p x 0 % den:=Int.tmod_eq_emod_of_nonneg q0.1;have d3:0≤rq ⟨w,den⟩ p x 0 / den:=Int.ediv_nonneg q0.1 (by omega)
   have d4:rq ⟨w,den⟩ p x 0 / den≤rq ⟨w,den⟩ p x 0:=Int.ediv_le_self _ q0.1;have d5:0≤rq ⟨w,den⟩ p x 0 % den:=Int.emod_nonneg _ Ew;have d6:rq ⟨w,den⟩ p x 0 % den<den:=Int.emod_lt_of_pos _ (by omega)
   have hg:(eX (w.length+1) fun k=>if k<w.length then (if k=0 then rq ⟨w,den⟩ p x 1+rq ⟨w,den⟩ p x 0 % den else rq ⟨w,den⟩ p x (k+1)) else (if k=1 then rq ⟨w,den⟩ p x 1+rq ⟨w,den⟩ p x 0 % den else rq ⟨w,den⟩ p x k)) =
     eX (w.length+1) fun k=>if k<w.length then rN ⟨w,den⟩ p x k else (if k=1 then rq ⟨w,den⟩ p x 1+rq ⟨w,den⟩ p x 0 % den else rq ⟨w,den⟩ p x k):=JW fun k hk=>by
    by_cases h6:k<w.length
    ·rw[if_pos h6,if_pos h6];rfl
    ·rw[if_neg h6,if_neg h6]
   simp (disch:=omega) [-getElem?_pos,wrap64,hf,oc,Ew,d1,d2,aja,ajb,hg];generalize hh:(fun k=>if k<w.length then rN ⟨w,den⟩ p x k else (if k=1 then rq ⟨w,den⟩ p x 1+rq ⟨w,den⟩ p x 0 % den else rq ⟨w,den⟩ p x k))=h
   have Np:∀k,k<w.length→h k=rN ⟨w,den⟩ p x k:=fun k hk=>by rw[←hh];exact if_pos hk
   refine go_loop (fun m:Nat=>adh m (rq ⟨w,den⟩ p x 0 / den) [.aK] (eX (w.length+1) h) G) (fun m=>m≤w.length∧om (rN ⟨w,den⟩ p x) m=om (rN ⟨w,den⟩ p x) w.length) (fun m=>m) w.length rfl (by simp) (by simp) ?_
   rintro m ⟨hm,ht⟩;cases m with
   |zero =>
    simp (disch:=omega) [-getElem?_pos,wrap64,GL,Ve];rw[←hW,wv,m8,← ht];rfl
   |succ m =>
    by_cases h8:rN ⟨w,den⟩ p x m=0
    ·simp (disch:=omega) [-getElem?_pos,wrap64,GL,oc,Np m hm,h8]
     exact cc m (by simp) ⟨by omega,by rw[←ht,om,if_pos h8]⟩ (by omega)
    ·simp (disch:=omega) [-getElem?_pos,wrap64,GL,oc,Np m hm,h8,Ve]
     rw[←hW,wv,m8,← ht,om,if_neg h8,ints,List.map_map];have e:(List.range (m+1)).map (fun j=>[V.int .i64 (h j)])=(List.range (m+1)).map ((fun n=>[i64 n])∘rN ⟨w,den⟩ p x) :=
      List.map_congr_left fun j hj=>by rw[Np j (by have:=List.mem_range.1 hj;omega)];rfl
     rw[e];rfl)
end Go.Proofs.YtmpikpodpgnjhaaGreat
namespace Go.Proofs.YtmpikpodpgnjhaaGreat
set_option linter.all false
open Go.Vm
attribute [local simp] eS eT eQ eR
theorem ajd{n:Nat}{f g:Nat→Int}(h:∀k,k<n→f (k+1)=g k):(List.take (n+1) ((List.range (n+1)).map fun j=>[V.int .i64 (f j)])).tail=(List.range n).map fun k=>[V.int .i64 (g k)]:=by
 rw[List.take_of_length_le (by simp)]
 apply List.ext_getElem?;intro i;rw[List.getElem?_tail];rcases Nat.lt_or_ge i n with h1|h1
 ·simp[h1,h i h1]
 ·rw[List.getElem?_eq_none (by simp;omega),List.getElem?_eq_none (by simpa using h1)]
theorem Vg{n i:Nat}(h:i<n):(List.range n)[i]?=some i:=by simp[h]
theorem aje{n:Nat}{g:Nat→Int}:List.take n ((List.range (n+1)).map fun k=>[V.int .i64 (g k)])=(List.range n).map fun k=>[V.int .i64 (g k)]:=by
 rw[←List.map_take,List.take_range,Nat.min_eq_left (by omega)]
theorem ajf(r:Rc)(hr:Rv r)(p:List Int)(hp:iy r p)(x:Int)(G:List aV) :
  bo F 144 [rc r,wv p,i64 x] G=some (.tuple (if (0≤x∧x≤1073741824)∧sX r p x then [wv (m8 r p x),i64 (m6 r p x),i64 0] else [.agg [.slice (some 0) 1 []],i64 0,i64 1]),G) :=
 cg rfl rfl (by
  obtain⟨w,den⟩:=r;generalize hW:(V.tuple (if (0≤x∧x≤1073741824)∧sX ⟨w,den⟩ p x then [wv (m8 ⟨w,den⟩ p x),i64 (m6 ⟨w,den⟩ p x),i64 0] else [.agg [.slice (some 0) 1 []],i64 0,i64 1]))=W
  have hlen:=hr.len;have hZ:=hr.pos;have lD:=hp.1;simp only at hlen hZ lD;by_cases hx:0≤x∧x≤1073741824
  case neg =>
   have pV:(decide (0≤x)&&decide (x≤1073741824))=false:=by simp;omega
   simp (disch:=omega) [-getElem?_pos,wrap64,Gu,c5,pV];rw[←hW,if_neg (fun g=>hx g.1)]
  have pV:(decide (0≤x)&&decide (x≤1073741824))=true:=by simp;exact hx
  have Nm:p.length≤w.length+1:=by omega
  have Nn:∀k,k<w.length→0≤x*nth w k∧x*nth w k≤10737418240000:=fun k hk=>by
   have h2:=hr.w k hk;simp only at h2;have h3:0≤x*nth w k:=Int.mul_nonneg hx.1 h2.1;have h4:x*nth w k≤1073741824*10000:=Int.mul_le_mul hx.2 h2.2 h2.1 (by omega)
   omega
  have No:∀k,0≤nth p k∧nth p k≤2251799813685248:=fun k=>by
   rcases Nat.lt_or_ge k p.length with h|h
   ·exact hp.2.2 k h
   ·rw[we h];omega
  simp (disch:=omega) [-getElem?_pos,wrap64,Gu,c5,pV,Qp,Va,Vb Nm];refine go_loop (fun i:Nat=>acb x (w.length+1) (ints w) w.length i (Rc.row ⟨w,den⟩) [.aK] (eX (w.length+1) fun k=>if k<i then rq ⟨w,den⟩ p x k else nth p k) G) (fun i=>i≤w.length∧∀k,k<i→rq ⟨w,den⟩ p x k≤1125899906842624) (fun i=>w.length-i) 0 rfl (by simp) (by simp) ?_
  rintro i ⟨hi,hj⟩;simp (disch:=omega) [-getElem?_pos,wrap64,Sk];refine b9 (fun h5=>?_) (fun h5=>?_)
  ·have h5:i<w.length:=by omega
   have hq:=wg hr hp hx i;have ha:=Nn i h5;have hb:=No i;have hf:(fun j=>if j=i then nth p i+x*nth w i else if j<i then rq ⟨w,den⟩ p x j else nth p j)=fun j=>if j<i+1 then rq ⟨w,den⟩ p x j else nth p j:=by
    funext j;by_cases h6:j=i
    ·subst h6;simp[rq]
    ·by_cases h7:j<i
     ·rw[if_neg h6,if_pos h7,if_pos (by omega)]
     ·rw[if_neg h6,if_neg h7,if_neg (by omega)]
   simp (disch:=omega) [-getElem?_pos,wrap64,eB (l:=w),oc,hf];refine b9 (fun h7=>?_) (fun h7=>?_)
   ·rw[←hW,if_neg (fun g=>absurd (g.2 i h5) (by omega))]
   ·refine cc (i+1) (by simp) ⟨by omega,fun k hk=>?_⟩ (by omega)
    rcases Nat.lt_or_ge k i with h8|h8
    ·exact hj k h8
    ·rw[show k=i by omega];omega
  ·obtain rfl:i=w.length:=by omega
   rw[if_pos ⟨hx,show sX ⟨w,den⟩ p x from hj⟩]at hW;have hf:(eX (w.length+1) fun k=>if k<w.length then rq ⟨w,den⟩ p x k else nth p k)=eX (w.length+1) (rq ⟨w,den⟩ p x):=JW fun k hk=>by
    by_cases h6:k<w.length
    ·rw[if_pos h6]
    ·rw[if_neg h6,show k=w.length by omega];simp[rq,we (Nat.le_refl w.length)]
   have hd:=hr.den;simp only at hd;have Ew:¬ den=0:=by omega
   have q0:=wg hr hp hx 0;have q1:=wg hr hp hx 1;have d1:(rq ⟨w,den⟩ p x 0).tdiv den=rq ⟨w,den⟩ p x 0 / den:=Int.tdiv_eq_ediv_of_nonneg q0.1;have d2:(rq ⟨w,den⟩ p x 0).tmod den=rq ⟨w,den⟩ p x 0 % den:=Int.tmod_eq_emod_of_nonneg q0.1;have d3:0≤rq ⟨w,den⟩ p x 0 / den:=Int.ediv_nonneg q0.1 (by omega)
   have d4:rq ⟨w,den⟩ p x 0 / den≤rq ⟨w,den⟩ p x 0:=Int.ediv_le_self _ q0.1;have d5:0≤rq ⟨w,den⟩ p x 0 % den:=Int.emod_nonneg _ Ew;have d6:rq ⟨w,den⟩ p x 0 % den<den:=Int.emod_lt_of_pos _ (by omega)
   have hg:∀k,k<w.length→(if k+1=1 then rq ⟨w,den⟩ p x 1+rq ⟨w,den⟩ p x 0 % den else rq ⟨w,den⟩ p x (k+1))=rN ⟨w,den⟩ p x k:=fun k hk=>by
    unfold rN;by_cases h7:k=0
    ·rw[if_pos h7,if_pos (by omega)]
    ·rw[if_neg h7,if_neg (by omega)]
   simp (disch:=omega) [-getElem?_pos,wrap64,hf,oc,Ew,d1,d2];rw[ajd (f:=fun j=>if j=1 then rq ⟨w,den⟩ p x 1+rq ⟨w,den⟩ p x 0 % den else rq ⟨w,den⟩ p x j) hg]
   refine go_loop (fun m:Nat=>⟨[(6,.bK 6 0),(9,.slice none 1 ((List.range m).map fun k=>[V.int .i64 (rN ⟨w,den⟩ p x k)])),(12,i64 (rq ⟨w,den⟩ p x 0 / den))],[(6,[.aK])],[],G⟩) (fun m=>m≤w.length∧om (rN ⟨w,den⟩ p x) m=om (rN ⟨w,den⟩ p x) w.length) (fun m=>m) w.length rfl (by simp) (by simp) ?_
   rintro m ⟨hm,ht⟩;cases m with
   |zero =>
    simp (disch:=omega) [-getElem?_pos,wrap64,Gr];rw[←hW,wv,m8,← ht];rfl
   |succ m =>
    by_cases h8:rN ⟨w,den⟩ p x m=0
    ·simp (disch:=omega) [-getElem?_pos,wrap64,Gr,Vg,h8,aje]
     exact cc m (by simp) ⟨by omega,by rw[←ht,om,if_pos h8]⟩ (by omega)
    ·simp (disch:=omega) [-getElem?_pos,wrap64,Gr,Vg,h8]
     rw[←hW,wv,m8,← ht,om,if_neg h8,ints,List.map_map];rfl)
end Go.Proofs.YtmpikpodpgnjhaaGreat
namespace Go.Proofs.YtmpikpodpgnjhaaGreat
set_option linter.all false
open Go.Vm
attribute [local simp] eS eT eQ eR
noncomputable def gG(r:Rc)(p:List Int)(x:Int):Int:=if e9 r≠0 then e9 r else if iy r p then (if (0≤x∧x≤1073741824)∧sX r p x then 0 else 1) else 3
abbrev Vh(t:Option Nat)(e:Int):V:=.tuple [.agg [.slice t 1 []],i64 0,i64 e]
noncomputable def BJ(t:Option Nat)(r:Rc)(p:List Int)(x:Int):V:=if gG r p x=0 then .tuple [wv (m8 r p x),i64 (m6 r p x),i64 0] else Vh t (gG r p x)
theorem zP{t:Option Nat}{r:Rc}{p:List Int}{x e:Int}(h:gG r p x=e)(he:e≠0):BJ t r p x=Vh t e:=by
 unfold BJ;rw[h,if_neg he]
theorem Ex{t:Option Nat}{r:Rc}{p:List Int}{x:Int}(h:gG r p x=0):BJ t r p x=.tuple [wv (m8 r p x),i64 (m6 r p x),i64 0]:=by
 unfold BJ;rw[if_pos h]
theorem ajg(r:Rc)(hr:r.w.length≤17592186044416)(p:List Int)(hl:p.length≤17592186044416)(G:List aV):bo F 143 [rc r,wv p] G=some (i64 (if e9 r≠0 then e9 r else if iy r p then 0 else 3),G) :=
 cg rfl rfl (by
  have hc:=uU r hr;have hv:=U9 r hr p hl;generalize hW:(if e9 r≠0 then e9 r else if iy r p then (0:Int) else 3)=W
  by_cases hz:e9 r=0
  ·rw[if_neg (by omega)]at hW
   by_cases hf:iy r p
   ·rw[if_pos hf]at hW
    simp[wrap64,DM,hc,hv,hz,hf];exact hW
   ·rw[if_neg hf]at hW
    simp[wrap64,DM,hc,hv,hz,hf];exact hW
  ·rw[if_pos hz]at hW
   simp[wrap64,DM,hc,hv,hz];exact hW)
theorem ajh(r:Rc)(hr:r.w.length≤17592186044416)(p:List Int)(hl:p.length≤17592186044416)(x:Int):∃t,∀(G:List aV),bo F 86 [rc r,wv p,i64 x] G=some (BJ t r p x,G):=by
 refine⟨if e9 r=0∧iy r p then none else some 0,fun G=>cg rfl rfl ?_⟩
 have hw:=ajg r hr p hl;by_cases hz:e9 r=0
 ·rw[if_neg (by omega)]at hw
  by_cases hf:iy r p
  ·rw[if_pos hf]at hw
   rw[if_pos ⟨hz,hf⟩];have hs:=ajf r (wc hz) p hf x;by_cases hp:(0≤x∧x≤1073741824)∧sX r p x
   ·rw[if_pos hp]at hs
    rw[Ex (by unfold gG;rw[if_neg (by omega),if_pos hf,if_pos hp])]
    simp[wrap64,A9,hw,hs]
   ·rw[if_neg hp]at hs
    rw[zP (e:=1) (by unfold gG;rw[if_neg (by omega),if_pos hf,if_neg hp]) (by decide)]
    simp[wrap64,A9,hw,hs]
  ·rw[if_neg hf]at hw
   rw[if_neg (fun g=>hf g.2),zP (e:=3) (by unfold gG;rw[if_neg (by omega),if_neg hf]) (by decide)]
   simp[wrap64,A9,hw]
 ·rw[if_pos hz]at hw
  rw[if_neg (fun g=>hz g.1),zP (e:=e9 r) (by unfold gG;rw[if_pos hz]) hz]
  simp[wrap64,A9,hw,hz]
theorem aji(r:Rc)(hr:r.w.length≤17592186044416)(p:List Int)(hl:p.length≤17592186044416)(x:Int)(G:List aV) :
  bo F 186 [rc r,wv p,.slice none 1 [[i64 x]]] G=some (.tuple (if gG r p x=0 then [wv (m8 r p x),.slice (some 0) 1 [[i64 (m6 r p x)]],i64 0] else [.agg [.slice (some 0) 1 []],.slice (some 0) 1 [],i64 (gG r p x)]),G) :=
 cg rfl rfl (by
  have hc:=uT r hr;have tZ:=U8 r p hl;generalize hW:(V.tuple (if gG r p x=0 then [wv (m8 r p x),.slice (some 0) 1 [[i64 (m6 r p x)]],i64 0] else [.agg [.slice (some 0) 1 []],.slice (some 0) 1 [],i64 (gG r p x)]))=W
  by_cases hz:e9 r=0
  ·by_cases hf:iy r p
   ·have hs:=ajc r (wc hz) p hf x
    have lD:p.length≤24:=by have:=hf.1;have:=(wc hz).len;omega
    by_cases hx:0≤x∧x≤1073741824
    ·have pV:(decide (0≤x)&&decide (x≤1073741824))=true:=by simp;exact hx
     replace hs:=fun G=>hs hx G;by_cases hp:sX r p x
     ·rw[if_pos (show gG r p x=0 by unfold gG;rw[if_neg (by omega),if_pos hf,if_pos ⟨hx,hp⟩])]at hW
      rw[if_pos hp]at hs;simp (disch:=omega) [wrap64,y3,GG,GD,hc,tZ,hz,hf,dG,pV,hs,yI];exact hW
     ·rw[show gG r p x=1 by unfold gG;rw[if_neg (by omega),if_pos hf,if_neg (fun g=>hp g.2)],if_neg (by decide)]at hW
      rw[if_neg hp]at hs;simp (disch:=omega) [wrap64,y3,GG,GD,hc,tZ,hz,hf,dG,pV,hs,yI];exact hW
    ·have pV:(decide (0≤x)&&decide (x≤1073741824))=false:=by simp;omega
     simp (disch:=omega) [wrap64,y3,GG,GD,hc,tZ,hz,hf,dG,pV,yI];rw[show gG r p x=1 by unfold gG;rw[if_neg (by omega),if_pos hf,if_neg (fun g=>hx g.1)],if_neg (by decide)]at hW
     exact hW
   ·rw[show gG r p x=3 by unfold gG;rw[if_neg (by omega),if_neg hf],if_neg (by decide)]at hW
    simp (disch:=omega) [wrap64,y3,hc,tZ,hz,hf];exact hW
  ·rw[show gG r p x=e9 r by unfold gG;rw[if_pos hz],if_neg hz]at hW
   simp (disch:=omega) [wrap64,y3,hc,tZ,hz];exact hW)
theorem Vi(r:Rc)(hr:r.w.length≤17592186044416)(p:List Int)(hl:p.length≤17592186044416)(x:Int)(G:List aV):bo F 162 [rc r,wv p,i64 x] G=some (BJ (some 0) r p x,G) :=
 cg rfl rfl (by
  have hs:=aji r hr p hl x;by_cases he:gG r p x=0
  ·rw[if_pos he]at hs
   rw[Ex he];simp[wrap64,Gx,hs]
  ·rw[if_neg he]at hs
   rw[zP rfl he];simp[wrap64,Gx,hs,he])
end Go.Proofs.YtmpikpodpgnjhaaGreat
namespace Go.Proofs.YtmpikpodpgnjhaaGreat
set_option linter.all false
open Go.Vm
attribute [local simp] eS eT eQ eR
structure Lk where
 f:Int
 t:Int
 r:Rc
 deriving Inhabited
abbrev Lk.row(l:Lk):List V:=[i64 l.f,i64 l.t,ints l.r.w,i64 l.r.den]
structure Rr where
 n:Int
 l:List Lk
abbrev nN(l:List Lk):V:=.slice none 4 (l.map Lk.row)
abbrev Rr.row(r:Rr):List V:=[i64 r.n,nN r.l]
abbrev rr(r:Rr):V:=.agg r.row
noncomputable def lE(r:Rr)(i:Nat):Int :=
 let l:=nth r.l i
 if (0≤l.f∧l.f≤r.n-1)∧(0≤l.t∧l.t≤r.n-1) then (if l.t≤l.f then 12 else if 0<i∧l.f≤(nth r.l (i-1)).f then 4 else e9 l.r) else 11
noncomputable def jN(r:Rr):Int:=if r.n<1∨40<r.n then 3 else ef (lE r) r.l.length 0
def oq(r:Rr):Prop:=r.l.length≤17592186044416∧∀i,i<r.l.length→(nth r.l i).r.w.length≤17592186044416
theorem pD{n:Int}{l:List Lk}(h:1≤n)(h2:n≤40)(x:Int)(G:List aV):bo F 126 [.agg [i64 n,nN l],i64 x] G=some (.bool (decide (0≤x)&&decide (x≤n-1)),G) :=
 cg rfl rfl (by simp +contextual (disch:=omega) [-getElem?_pos,-List.length_eq_zero_iff,-Int.natCast_eq_zero,wrap64,K8,dG])
theorem HL(r:Rr)(hr:oq r)(G:List aV):bo F 67 [rr r] G=some (i64 (jN r),G) :=
 cg rfl rfl (by
  obtain⟨n,l⟩:=r;generalize hW:jN ⟨n,l⟩=W;unfold jN at hW;simp only at hW;obtain⟨hl,hw⟩:=hr;simp only at hl hw;by_cases h1:n<1
  ·rw[if_pos (.inl h1)]at hW
   simp +contextual (disch:=omega) [-getElem?_pos,-List.length_eq_zero_iff,-Int.natCast_eq_zero,wrap64,DA,h1];exact hW
  by_cases h2:40<n
  ·rw[if_pos (.inr h2)]at hW
   simp +contextual (disch:=omega) [-getElem?_pos,-List.length_eq_zero_iff,-Int.natCast_eq_zero,wrap64,DA,h1,h2];exact hW
  rw[if_neg (by omega)]at hW
  have h1n:1≤n:=by omega
  have h2n:n≤40:=by omega
  simp +contextual (disch:=omega) [-getElem?_pos,-List.length_eq_zero_iff,-Int.natCast_eq_zero,wrap64,DA,h1,h2];refine go_loop (fun i:Nat=>aaZ (nN l) l.length i (Rr.row ⟨n,l⟩) G) (fun i=>i≤l.length∧ef (lE ⟨n,l⟩) (l.length-i) i=W) (fun i=>l.length-i) 0 rfl (by simp) ⟨by omega,hW⟩ ?_
  rintro i ⟨hi,hq⟩;simp +contextual (disch:=omega) [-getElem?_pos,-List.length_eq_zero_iff,-Int.natCast_eq_zero,wrap64,RE];refine b9 (fun h5=>?_) (fun h5=>?_)
  ·have h5:i<l.length:=by omega
   rw[ma h5]at hq;have hE:lE ⟨n,l⟩ i=if (0≤(nth l i).f∧(nth l i).f≤n-1)∧(0≤(nth l i).t∧(nth l i).t≤n-1) then (if (nth l i).t≤(nth l i).f then 12 else if 0<i∧(nth l i).f≤(nth l (i-1)).f then 4 else e9 (nth l i).r) else 11:=rfl
   by_cases a1:0≤(nth l i).f∧(nth l i).f≤n-1
   case neg =>
    have lb:(decide (0≤(nth l i).f)&&decide ((nth l i).f≤n-1))=false:=by simp;omega
    rw[if_neg (fun g=>a1 g.1)]at hE;rw[hE,if_neg (by decide)]at hq
    simp +contextual (disch:=omega) [-getElem?_pos,-List.length_eq_zero_iff,-Int.natCast_eq_zero,wrap64,bp (l:=l),pD,c5,lb];exact hq
   have lb:(decide (0≤(nth l i).f)&&decide ((nth l i).f≤n-1))=true:=by simp;exact a1
   by_cases a2:0≤(nth l i).t∧(nth l i).t≤n-1
   case neg =>
    have pc:(decide (0≤(nth l i).t)&&decide ((nth l i).t≤n-1))=false:=by simp;omega
    rw[if_neg (fun g=>a2 g.2)]at hE;rw[hE,if_neg (by decide)]at hq
    simp +contextual (disch:=omega) [-getElem?_pos,-List.length_eq_zero_iff,-Int.natCast_eq_zero,wrap64,bp (l:=l),pD,c5,lb,pc];exact hq
   have pc:(decide (0≤(nth l i).t)&&decide ((nth l i).t≤n-1))=true:=by simp;exact a2
   rw[if_pos ⟨a1,a2⟩]at hE;by_cases a3:(nth l i).t≤(nth l i).f
   ·rw[if_pos a3]at hE
    rw[hE,if_neg (by decide)]at hq
    simp +contextual (disch:=omega) [-getElem?_pos,-List.length_eq_zero_iff,-Int.natCast_eq_zero,wrap64,bp (l:=l),pD,c5,lb,pc,a3];exact hq
   rw[if_neg a3]at hE;by_cases a4:0<i∧(nth l i).f≤(nth l (i-1)).f
   ·rw[if_pos a4]at hE
    rw[hE,if_neg (by decide)]at hq
    simp +contextual (disch:=omega) [-getElem?_pos,-List.length_eq_zero_iff,-Int.natCast_eq_zero,wrap64,bp (l:=l),pD,c5,lb,pc,a3,a4.1,a4.2];exact hq
   rw[if_neg a4]at hE;have done:e9 (nth l i).r=0→ef (lE ⟨n,l⟩) (l.length-(i+1)) (i+1)=W:=fun h=>by rwa [hE,h,if_pos rfl]at hq
   have stop:e9 (nth l i).r≠0→e9 (nth l i).r=W:=fun h=>by rwa [hE,if_neg h]at hq
   rcases (by omega:¬ 0<i∨(0<i∧¬ (nth l i).f≤(nth l (i-1)).f)) with a5 | ⟨a5,a6⟩
   ·by_cases hz:e9 (nth l i).r=0
    ·simp +contextual (disch:=omega) [-getElem?_pos,-List.length_eq_zero_iff,-Int.natCast_eq_zero,wrap64,bp (l:=l),pD,c5,lb,pc,a3,a5,uT (nth l i).r (hw i h5),uU (nth l i).r (hw i h5),hz]
     exact cc (i+1) (by simp) ⟨by omega,done hz⟩ (by omega)
    ·simp +contextual (disch:=omega) [-getElem?_pos,-List.length_eq_zero_iff,-Int.natCast_eq_zero,wrap64,bp (l:=l),pD,c5,lb,pc,a3,a5,uT (nth l i).r (hw i h5),uU (nth l i).r (hw i h5),hz]
     exact stop hz
   ·by_cases hz:e9 (nth l i).r=0
    ·simp +contextual (disch:=omega) [-getElem?_pos,-List.length_eq_zero_iff,-Int.natCast_eq_zero,wrap64,bp (l:=l),pD,c5,lb,pc,a3,a5,a6,uT (nth l i).r (hw i h5),uU (nth l i).r (hw i h5),hz]
     exact cc (i+1) (by simp) ⟨by omega,done hz⟩ (by omega)
    ·simp +contextual (disch:=omega) [-getElem?_pos,-List.length_eq_zero_iff,-Int.natCast_eq_zero,wrap64,bp (l:=l),pD,c5,lb,pc,a3,a5,a6,uT (nth l i).r (hw i h5),uU (nth l i).r (hw i h5),hz]
     exact stop hz
  ·obtain rfl:i=l.length:=by omega
   rw[mU]at hq;exact hq)
theorem HM(r:Rr)(hr:oq r)(G:List aV):bo F 56 [rr r] G=some (i64 (jN r),G) :=
 cg rfl rfl (by
  obtain⟨n,l⟩:=r;generalize hW:jN ⟨n,l⟩=W;unfold jN at hW;simp only at hW;obtain⟨hl,hw⟩:=hr;simp only at hl hw;by_cases h1:n<1
  ·rw[if_pos (.inl h1)]at hW
   simp +contextual (disch:=omega) [-getElem?_pos,-List.length_eq_zero_iff,-Int.natCast_eq_zero,wrap64,Dx,h1];exact hW
  by_cases h2:40<n
  ·rw[if_pos (.inr h2)]at hW
   simp +contextual (disch:=omega) [-getElem?_pos,-List.length_eq_zero_iff,-Int.natCast_eq_zero,wrap64,Dx,h1,h2];exact hW
  rw[if_neg (by omega)]at hW
  have h1n:1≤n:=by omega
  have h2n:n≤40:=by omega
  simp +contextual (disch:=omega) [-getElem?_pos,-List.length_eq_zero_iff,-Int.natCast_eq_zero,wrap64,Dx,h1,h2];refine go_loop (fun i:Nat=>aaG (nN l) l.length i (Rr.row ⟨n,l⟩) G) (fun i=>i≤l.length∧ef (lE ⟨n,l⟩) (l.length-i) i=W) (fun i=>l.length-i) 0 rfl (by simp) ⟨by omega,hW⟩ ?_
  rintro i ⟨hi,hq⟩;simp +contextual (disch:=omega) [-getElem?_pos,-List.length_eq_zero_iff,-Int.natCast_eq_zero,wrap64,Rw];refine b9 (fun h5=>?_) (fun h5=>?_)
  ·have h5:i<l.length:=by omega
   rw[ma h5]at hq;have hE:lE ⟨n,l⟩ i=if (0≤(nth l i).f∧(nth l i).f≤n-1)∧(0≤(nth l i).t∧(nth l i).t≤n-1) then (if (nth l i).t≤(nth l i).f then 12 else if 0<i∧(nth l i).f≤(nth l (i-1)).f then 4 else e9 (nth l i).r) else 11:=rfl
   by_cases a1:0≤(nth l i).f∧(nth l i).f≤n-1
   case neg =>
    have lb:(decide (0≤(nth l i).f)&&decide ((nth l i).f≤n-1))=false:=by simp;omega
    rw[if_neg (fun g=>a1 g.1)]at hE;rw[hE,if_neg (by decide)]at hq
    simp +contextual (disch:=omega) [-getElem?_pos,-List.length_eq_zero_iff,-Int.natCast_eq_zero,wrap64,bp (l:=l),pD,c5,lb];exact hq
   have lb:(decide (0≤(nth l i).f)&&decide ((nth l i).f≤n-1))=true:=by simp;exact a1
   by_cases a2:0≤(nth l i).t∧(nth l i).t≤n-1
   case neg =>
    have pc:(decide (0≤(nth l i).t)&&decide ((nth l i).t≤n-1))=false:=by simp;omega
    rw[if_neg (fun g=>a2 g.2)]at hE;rw[hE,if_neg (by decide)]at hq
    simp +contextual (disch:=omega) [-getElem?_pos,-List.length_eq_zero_iff,-Int.natCast_eq_zero,wrap64,bp (l:=l),pD,c5,lb,pc];exact hq
   have pc:(decide (0≤(nth l i).t)&&decide ((nth l i).t≤n-1))=true:=by simp;exact a2
   rw[if_pos ⟨a1,a2⟩]at hE;by_cases a3:(nth l i).t≤(nth l i).f
   ·rw[if_pos a3]at hE
    rw[hE,if_neg (by decide)]at hq
    simp +contextual (disch:=omega) [-getElem?_pos,-List.length_eq_zero_iff,-Int.natCast_eq_zero,wrap64,bp (l:=l),pD,c5,lb,pc,a3];exact hq
   rw[if_neg a3]at hE;by_cases a4:0<i∧(nth l i).f≤(nth l (i-1)).f
   ·rw[if_pos a4]at hE
    rw[hE,if_neg (by decide)]at hq
    simp +contextual (disch:=omega) [-getElem?_pos,-List.length_eq_zero_iff,-Int.natCast_eq_zero,wrap64,bp (l:=l),pD,c5,lb,pc,a3,a4.1,a4.2];exact hq
   rw[if_neg a4]at hE;have done:e9 (nth l i).r=0→ef (lE ⟨n,l⟩) (l.length-(i+1)) (i+1)=W:=fun h=>by rwa [hE,h,if_pos rfl]at hq
   have stop:e9 (nth l i).r≠0→e9 (nth l i).r=W:=fun h=>by rwa [hE,if_neg h]at hq
   rcases (by omega:¬ 0<i∨(0<i∧¬ (nth l i).f≤(nth l (i-1)).f)) with a5 | ⟨a5,a6⟩
   ·by_cases hz:e9 (nth l i).r=0
    ·simp +contextual (disch:=omega) [-getElem?_pos,-List.length_eq_zero_iff,-Int.natCast_eq_zero,wrap64,bp (l:=l),pD,c5,lb,pc,a3,a5,uT (nth l i).r (hw i h5),uU (nth l i).r (hw i h5),hz]
     exact cc (i+1) (by simp) ⟨by omega,done hz⟩ (by omega)
    ·simp +contextual (disch:=omega) [-getElem?_pos,-List.length_eq_zero_iff,-Int.natCast_eq_zero,wrap64,bp (l:=l),pD,c5,lb,pc,a3,a5,uT (nth l i).r (hw i h5),uU (nth l i).r (hw i h5),hz]
     exact stop hz
   ·by_cases hz:e9 (nth l i).r=0
    ·simp +contextual (disch:=omega) [-getElem?_pos,-List.length_eq_zero_iff,-Int.natCast_eq_zero,wrap64,bp (l:=l),pD,c5,lb,pc,a3,a5,a6,uT (nth l i).r (hw i h5),uU (nth l i).r (hw i h5),hz]
     exact cc (i+1) (by simp) ⟨by omega,done hz⟩ (by omega)
    ·simp +contextual (disch:=omega) [-getElem?_pos,-List.length_eq_zero_iff,-Int.natCast_eq_zero,wrap64,bp (l:=l),pD,c5,lb,pc,a3,a5,a6,uT (nth l i).r (hw i h5),uU (nth l i).r (hw i h5),hz]
     exact stop hz
  ·obtain rfl:i=l.length:=by omega
   rw[mU]at hq;exact hq)
end Go.Proofs.YtmpikpodpgnjhaaGreat
namespace Go.Proofs.YtmpikpodpgnjhaaGreat
set_option linter.all false
open Go.Vm
attribute [local simp] eS eT eQ eR
instance:Inhabited Dm:=⟨⟨⟨[],0,0,0,0,0⟩,[],[],0⟩⟩
structure Si where
 n:Int
 d:Dm
 deriving Inhabited
abbrev Si.row(x:Si):List V:=i64 x.n::x.d.row
abbrev rK(l:List Si):V:=.slice none 10 (l.map Si.row)
structure Cs where
 r:Rr
 s:List Si
abbrev Cs.row(c:Cs):List V:=[i64 c.r.n,nN c.r.l,rK c.s]
abbrev cs(c:Cs):V:=.agg c.row
def wh(c:Cs)(i:Nat):Int :=
 let x:=nth c.s i
 if 0≤x.n∧x.n<c.r.n then (if 0<i∧x.n≤(nth c.s (i-1)).n then 4 else fB x.d) else 41
noncomputable def gx(c:Cs):Int:=if jN c.r≠0 then jN c.r else if 12<c.r.n then 41 else if 6<c.s.length then 10 else ef (wh c) c.s.length 0
structure Fl where
 t:Int
 d:List Ds
 w:List (List Int)
abbrev rL(l:List Ds):V:=.slice none 4 (l.map Ds.row)
abbrev ua(l:List (List Int)):V:=.slice none 1 (l.map fun p=>[ints p])
abbrev Fl.row(f:Fl):List V:=[i64 f.t,rL f.d,ua f.w]
abbrev fl(f:Fl):V:=.agg f.row
def ub(f:Fl):Prop:=∀i,(nth f.w i).length≤17592186044416
def mI(c:Cs)(l:List Ds):Prop:=l.length=c.s.length∧∀i,i<c.s.length→fB (nth c.s i).d=0∧hH (nth c.s i).d (nth l i)
noncomputable instance {c:Cs} {l:List Ds}:Decidable (mI c l):=Classical.propDecidable _
def BK(c:Cs)(l:List (List Int)):Prop:=l.length=c.r.l.length∧∀i,i<c.r.l.length→e9 (nth c.r.l i).r=0∧iy (nth c.r.l i).r (nth l i)
noncomputable instance {c:Cs} {l:List (List Int)}:Decidable (BK c l):=Classical.propDecidable _
def iQ(c:Cs)(f:Fl):Prop:=(0≤f.t∧f.t≤16777216)∧mI c f.d∧BK c f.w
noncomputable instance {c:Cs} {f:Fl}:Decidable (iQ c f):=Classical.propDecidable _
theorem Nq(c:Cs)(hr:oq c.r)(G:List aV):bo F 26 [cs c] G=some (i64 (gx c),G) :=
 cg rfl rfl (by
  obtain⟨⟨n,l⟩,s⟩:=c;generalize hW:gx ⟨⟨n,l⟩,s⟩=W;unfold gx at hW;simp only at hW hr;have hk:=HL ⟨n,l⟩ hr;have jR:=HM ⟨n,l⟩ hr;by_cases h1:jN ⟨n,l⟩=0
  case neg =>
   rw[if_pos h1]at hW;simp +contextual (disch:=omega) [-getElem?_pos,-List.length_eq_zero_iff,-Int.natCast_eq_zero,wrap64,A3,hk,jR,h1];exact hW
  rw[if_neg (by omega)]at hW
  by_cases h2:12<n
  ·rw[if_pos h2]at hW
   simp +contextual (disch:=omega) [-getElem?_pos,-List.length_eq_zero_iff,-Int.natCast_eq_zero,wrap64,A3,hk,jR,h1,h2];exact hW
  rw[if_neg h2]at hW;by_cases h3:6<s.length
  ·rw[if_pos h3]at hW
   have jz:(6:Int)<s.length:=by omega
   simp +contextual (disch:=omega) [-getElem?_pos,-List.length_eq_zero_iff,-Int.natCast_eq_zero,wrap64,A3,hk,jR,h1,h2,jz];exact hW
  rw[if_neg h3]at hW;have jz:¬ (6:Int)<s.length:=by omega
  simp +contextual (disch:=omega) [-getElem?_pos,-List.length_eq_zero_iff,-Int.natCast_eq_zero,wrap64,A3,hk,jR,h1,h2,jz];refine go_loop (fun i:Nat=>aae (rK s) s.length i (Cs.row ⟨⟨n,l⟩,s⟩) G) (fun i=>i≤s.length∧ef (wh ⟨⟨n,l⟩,s⟩) (s.length-i) i=W) (fun i=>s.length-i) 0 rfl (by simp) ⟨by omega,hW⟩ ?_
  rintro i ⟨hi,hq⟩;simp +contextual (disch:=omega) [-getElem?_pos,-List.length_eq_zero_iff,-Int.natCast_eq_zero,wrap64,Ri];refine b9 (fun h5=>?_) (fun h5=>?_)
  ·have h5:i<s.length:=by omega
   rw[ma h5]at hq;have hE:wh ⟨⟨n,l⟩,s⟩ i=if 0≤(nth s i).n∧(nth s i).n<n then (if 0<i∧(nth s i).n≤(nth s (i-1)).n then 4 else fB (nth s i).d) else 41:=rfl
   by_cases a1:(nth s i).n<0
   ·rw[if_neg (by omega)]at hE
    rw[hE,if_neg (by decide)]at hq
    simp +contextual (disch:=omega) [-getElem?_pos,-List.length_eq_zero_iff,-Int.natCast_eq_zero,wrap64,bp (l:=s),a1];exact hq
   by_cases a2:n≤(nth s i).n
   ·rw[if_neg (by omega)]at hE
    rw[hE,if_neg (by decide)]at hq
    simp +contextual (disch:=omega) [-getElem?_pos,-List.length_eq_zero_iff,-Int.natCast_eq_zero,wrap64,bp (l:=s),a1,a2];exact hq
   rw[if_pos (by omega)]at hE
   by_cases a4:0<i∧(nth s i).n≤(nth s (i-1)).n
   ·rw[if_pos a4]at hE
    rw[hE,if_neg (by decide)]at hq
    simp +contextual (disch:=omega) [-getElem?_pos,-List.length_eq_zero_iff,-Int.natCast_eq_zero,wrap64,bp (l:=s),a1,a2,a4.1,a4.2];exact hq
   rw[if_neg a4]at hE;have done:fB (nth s i).d=0→ef (wh ⟨⟨n,l⟩,s⟩) (s.length-(i+1)) (i+1)=W:=fun h=>by rwa [hE,h,if_pos rfl]at hq
   have stop:fB (nth s i).d≠0→fB (nth s i).d=W:=fun h=>by rwa [hE,if_neg h]at hq
   have hd:=zL (nth s i).d;have tr:=zM (nth s i).d;rcases (by omega:¬ 0<i∨(0<i∧¬ (nth s i).n≤(nth s (i-1)).n)) with a5 | ⟨a5,a6⟩
   ·by_cases hz:fB (nth s i).d=0
    ·simp +contextual (disch:=omega) [-getElem?_pos,-List.length_eq_zero_iff,-Int.natCast_eq_zero,wrap64,bp (l:=s),a1,a2,a5,hd,tr,hz]
     exact cc (i+1) (by simp) ⟨by omega,done hz⟩ (by omega)
    ·simp +contextual (disch:=omega) [-getElem?_pos,-List.length_eq_zero_iff,-Int.natCast_eq_zero,wrap64,bp (l:=s),a1,a2,a5,hd,tr,hz]
     exact stop hz
   ·by_cases hz:fB (nth s i).d=0
    ·simp +contextual (disch:=omega) [-getElem?_pos,-List.length_eq_zero_iff,-Int.natCast_eq_zero,wrap64,bp (l:=s),a1,a2,a5,a6,hd,tr,hz]
     exact cc (i+1) (by simp) ⟨by omega,done hz⟩ (by omega)
    ·simp +contextual (disch:=omega) [-getElem?_pos,-List.length_eq_zero_iff,-Int.natCast_eq_zero,wrap64,bp (l:=s),a1,a2,a5,a6,hd,tr,hz]
     exact stop hz
  ·obtain rfl:i=s.length:=by omega
   rw[mU]at hq;exact hq)
theorem Nr(c:Cs)(hr:oq c.r)(G:List aV):bo F 27 [cs c] G=some (i64 (gx c),G) :=
 cg rfl rfl (by
  obtain⟨⟨n,l⟩,s⟩:=c;generalize hW:gx ⟨⟨n,l⟩,s⟩=W;unfold gx at hW;simp only at hW hr;have hk:=HL ⟨n,l⟩ hr;have jR:=HM ⟨n,l⟩ hr;by_cases h1:jN ⟨n,l⟩=0
  case neg =>
   rw[if_pos h1]at hW;simp +contextual (disch:=omega) [-getElem?_pos,-List.length_eq_zero_iff,-Int.natCast_eq_zero,wrap64,A4,hk,jR,h1];exact hW
  rw[if_neg (by omega)]at hW
  by_cases h2:12<n
  ·rw[if_pos h2]at hW
   simp +contextual (disch:=omega) [-getElem?_pos,-List.length_eq_zero_iff,-Int.natCast_eq_zero,wrap64,A4,hk,jR,h1,h2];exact hW
  rw[if_neg h2]at hW;by_cases h3:6<s.length
  ·rw[if_pos h3]at hW
   have jz:(6:Int)<s.length:=by omega
   simp +contextual (disch:=omega) [-getElem?_pos,-List.length_eq_zero_iff,-Int.natCast_eq_zero,wrap64,A4,hk,jR,h1,h2,jz];exact hW
  rw[if_neg h3]at hW;have jz:¬ (6:Int)<s.length:=by omega
  simp +contextual (disch:=omega) [-getElem?_pos,-List.length_eq_zero_iff,-Int.natCast_eq_zero,wrap64,A4,hk,jR,h1,h2,jz];refine go_loop (fun i:Nat=>aag (rK s) s.length i (Cs.row ⟨⟨n,l⟩,s⟩) G) (fun i=>i≤s.length∧ef (wh ⟨⟨n,l⟩,s⟩) (s.length-i) i=W) (fun i=>s.length-i) 0 rfl (by simp) ⟨by omega,hW⟩ ?_
  rintro i ⟨hi,hq⟩;simp +contextual (disch:=omega) [-getElem?_pos,-List.length_eq_zero_iff,-Int.natCast_eq_zero,wrap64,Rj];refine b9 (fun h5=>?_) (fun h5=>?_)
  ·have h5:i<s.length:=by omega
   rw[ma h5]at hq;have hE:wh ⟨⟨n,l⟩,s⟩ i=if 0≤(nth s i).n∧(nth s i).n<n then (if 0<i∧(nth s i).n≤(nth s (i-1)).n then 4 else fB (nth s i).d) else 41:=rfl
   by_cases a1:(nth s i).n<0
   ·rw[if_neg (by omega)]at hE
    rw[hE,if_neg (by decide)]at hq
    simp +contextual (disch:=omega) [-getElem?_pos,-List.length_eq_zero_iff,-Int.natCast_eq_zero,wrap64,bp (l:=s),a1];exact hq
   by_cases a2:n≤(nth s i).n
   ·rw[if_neg (by omega)]at hE
    rw[hE,if_neg (by decide)]at hq
    simp +contextual (disch:=omega) [-getElem?_pos,-List.length_eq_zero_iff,-Int.natCast_eq_zero,wrap64,bp (l:=s),a1,a2];exact hq
   rw[if_pos (by omega)]at hE
   by_cases a4:0<i∧(nth s i).n≤(nth s (i-1)).n
   ·rw[if_pos a4]at hE
    rw[hE,if_neg (by decide)]at hq
    simp +contextual (disch:=omega) [-getElem?_pos,-List.length_eq_zero_iff,-Int.natCast_eq_zero,wrap64,bp (l:=s),a1,a2,a4.1,a4.2];exact hq
   rw[if_neg a4]at hE;have done:fB (nth s i).d=0→ef (wh ⟨⟨n,l⟩,s⟩) (s.length-(i+1)) (i+1)=W:=fun h=>by rwa [hE,h,if_pos rfl]at hq
   have stop:fB (nth s i).d≠0→fB (nth s i).d=W:=fun h=>by rwa [hE,if_neg h]at hq
   have hd:=zL (nth s i).d;have tr:=zM (nth s i).d;rcases (by omega:¬ 0<i∨(0<i∧¬ (nth s i).n≤(nth s (i-1)).n)) with a5 | ⟨a5,a6⟩
   ·by_cases hz:fB (nth s i).d=0
    ·simp +contextual (disch:=omega) [-getElem?_pos,-List.length_eq_zero_iff,-Int.natCast_eq_zero,wrap64,bp (l:=s),a1,a2,a5,hd,tr,hz]
     exact cc (i+1) (by simp) ⟨by omega,done hz⟩ (by omega)
    ·simp +contextual (disch:=omega) [-getElem?_pos,-List.length_eq_zero_iff,-Int.natCast_eq_zero,wrap64,bp (l:=s),a1,a2,a5,hd,tr,hz]
     exact stop hz
   ·by_cases hz:fB (nth s i).d=0
    ·simp +contextual (disch:=omega) [-getElem?_pos,-List.length_eq_zero_iff,-Int.natCast_eq_zero,wrap64,bp (l:=s),a1,a2,a5,a6,hd,tr,hz]
     exact cc (i+1) (by simp) ⟨by omega,done hz⟩ (by omega)
    ·simp +contextual (disch:=omega) [-getElem?_pos,-List.length_eq_zero_iff,-Int.natCast_eq_zero,wrap64,bp (l:=s),a1,a2,a5,a6,hd,tr,hz]
     exact stop hz
  ·obtain rfl:i=s.length:=by omega
   rw[mU]at hq;exact hq)
end Go.Proofs.YtmpikpodpgnjhaaGreat
namespace Go.Proofs.YtmpikpodpgnjhaaGreat
set_option linter.all false
open Go.Vm
attribute [local simp] eS eT eQ eR
structure xv(c:Cs):Prop where
 k:jN c.r=0
 n:c.r.n≤12
 s:c.s.length≤6
 site:∀i,i<c.s.length→wh c i=0
theorem ot{c:Cs}(h:gx c=0):xv c:=by
 unfold gx at h;split at h
 ·rename_i h1;exact absurd h h1
 split at h
 ·cases h
 split at h
 ·cases h
 rename_i h1 h2 h3;exact⟨Decidable.of_not_not h1,by omega,by omega,fun i hi=>sH h i (by omega) (by omega)⟩
theorem Vj(c:Cs)(hs:c.s.length≤1000)(l:List Ds)(G:List aV):bo F 74 [cs c,rL l] G=some (.bool (decide (mI c l)),G) :=
 cg rfl rfl (by
  obtain⟨r,s⟩:=c;simp only at hs;generalize hW:decide (mI ⟨r,s⟩ l)=W;have no:¬ mI ⟨r,s⟩ l→W=false:=fun h=>by rw[←hW];simp[h]
  have yes:mI ⟨r,s⟩ l→W=true:=fun h=>by rw[←hW];simp[h]
  unfold mI at no yes;simp only at no yes;by_cases h1:l.length=s.length
  case neg =>
   have nL:¬ (l.length:Int)=s.length:=by omega
   simp +contextual (disch:=omega) [-getElem?_pos,-List.length_eq_zero_iff,-Int.natCast_eq_zero,wrap64,Gd,nL];exact no (fun g=>h1 g.1)
  have nL:(l.length:Int)=s.length:=by omega
  simp +contextual (disch:=omega) [-getElem?_pos,-List.length_eq_zero_iff,-Int.natCast_eq_zero,wrap64,Gd,nL];refine go_loop (fun i:Nat=>abj (rL l) (rK s) s.length i G) (fun i=>i≤s.length∧∀j,j<i→fB (nth s j).d=0∧hH (nth s j).d (nth l j)) (fun i=>s.length-i) 0 rfl (by simp) (by simp) ?_
  rintro i ⟨hi,hj⟩;simp +contextual (disch:=omega) [-getElem?_pos,-List.length_eq_zero_iff,-Int.natCast_eq_zero,wrap64,RN];refine b9 (fun h5=>?_) (fun h5=>?_)
  ·have h5:i<s.length:=by omega
   have h6:i<l.length:=by omega
   by_cases h7:fB (nth s i).d=0∧hH (nth s i).d (nth l i)
   ·simp +contextual (disch:=omega) [-getElem?_pos,-List.length_eq_zero_iff,-Int.natCast_eq_zero,wrap64,bp (l:=s),bp (l:=l),UI,h7.1,h7.2]
    refine cc (i+1) (by simp) ⟨by omega,fun j h8=>?_⟩ (by omega)
    rcases Nat.lt_or_ge j i with h9|h9
    ·exact hj j h9
    ·rwa [show j=i by omega]
   ·have h7':decide (fB (nth s i).d=0∧hH (nth s i).d (nth l i))=false:=by simp only[h7,decide_false]
    have hv:=UI (nth s i).d (nth l i);rw[h7']at hv;simp +contextual (disch:=omega) [-getElem?_pos,-List.length_eq_zero_iff,-Int.natCast_eq_zero,wrap64,bp (l:=s),bp (l:=l),hv];exact no (fun g=>h7 (g.2 i h5))
  ·obtain rfl:i=s.length:=by omega
   exact yes ⟨h1,hj⟩)
theorem Vk(c:Cs)(hs:c.s.length≤1000)(hr:oq c.r)(f:Fl)(hf:ub f)(G:List aV):bo F 70 [cs c,fl f] G=some (.bool (decide (iQ c f)),G) :=
 cg rfl rfl (by
  have jf:=Vj c hs f.d;obtain⟨⟨n,l⟩,s⟩:=c;obtain⟨t,d,w⟩:=f;generalize hW:decide (iQ ⟨⟨n,l⟩,s⟩ ⟨t,d,w⟩)=W;have no:¬ iQ ⟨⟨n,l⟩,s⟩ ⟨t,d,w⟩→W=false:=fun h=>by rw[←hW];simp[h]
  have yes:iQ ⟨⟨n,l⟩,s⟩ ⟨t,d,w⟩→W=true:=fun h=>by rw[←hW];simp[h]
  unfold iQ BK at no yes;simp only at no yes jf;unfold ub at hf;obtain⟨po,oJ⟩:=hr;simp only at hf po oJ;by_cases a1:t<0
  ·simp +contextual (disch:=omega) [-getElem?_pos,-List.length_eq_zero_iff,-Int.natCast_eq_zero,wrap64,yU,a1]
   exact no (by omega)
  by_cases a2:16777216<t
  ·simp +contextual (disch:=omega) [-getElem?_pos,-List.length_eq_zero_iff,-Int.natCast_eq_zero,wrap64,yU,a1,a2]
   exact no (by omega)
  by_cases a3:mI ⟨⟨n,l⟩,s⟩ d
  case neg =>
   simp +contextual (disch:=omega) [-getElem?_pos,-List.length_eq_zero_iff,-Int.natCast_eq_zero,wrap64,yU,a1,a2,jf,a3];exact no (fun g=>a3 g.2.1)
  by_cases a4:w.length=l.length
  case neg =>
   have zQ:¬ (w.length:Int)=l.length:=by omega
   simp +contextual (disch:=omega) [-getElem?_pos,-List.length_eq_zero_iff,-Int.natCast_eq_zero,wrap64,yU,a1,a2,jf,a3,zQ];exact no (fun g=>a4 g.2.2.1)
  have zQ:(w.length:Int)=l.length:=by omega
  simp +contextual (disch:=omega) [-getElem?_pos,-List.length_eq_zero_iff,-Int.natCast_eq_zero,wrap64,yU,a1,a2,jf,a3,zQ];refine go_loop (fun i:Nat=>aa9 (nN l) l.length i (Fl.row ⟨t,d,w⟩) G) (fun i=>i≤l.length∧∀j,j<i→e9 (nth l j).r=0∧iy (nth l j).r (nth w j)) (fun i=>l.length-i) 0 rfl (by simp) (by simp) ?_
  rintro i ⟨hi,hj⟩;simp +contextual (disch:=omega) [-getElem?_pos,-List.length_eq_zero_iff,-Int.natCast_eq_zero,wrap64,RJ];refine b9 (fun h5=>?_) (fun h5=>?_)
  ·have h5:i<l.length:=by omega
   have h6:i<w.length:=by omega
   have hv:=ai9 (nth l i).r (oJ i h5) (nth w i) (hf i);by_cases h7:e9 (nth l i).r=0∧iy (nth l i).r (nth w i)
   ·rw[decide_eq_true h7]at hv
    simp +contextual (disch:=omega) [-getElem?_pos,-List.length_eq_zero_iff,-Int.natCast_eq_zero,wrap64,bp (l:=l),bp (l:=w),hv];refine cc (i+1) (by simp) ⟨by omega,fun j h8=>?_⟩ (by omega)
    rcases Nat.lt_or_ge j i with h9|h9
    ·exact hj j h9
    ·rwa [show j=i by omega]
   ·rw[decide_eq_false h7]at hv
    simp +contextual (disch:=omega) [-getElem?_pos,-List.length_eq_zero_iff,-Int.natCast_eq_zero,wrap64,bp (l:=l),bp (l:=w),hv];exact no (fun g=>h7 (g.2.2.2 i h5))
  ·obtain rfl:i=l.length:=by omega
   exact yes ⟨by omega,a3,a4,hj⟩)
theorem ajm(c:Cs)(hr:oq c.r)(f:Fl)(hf:ub f)(G:List aV):bo F 28 [cs c,fl f] G=some (.bool (decide (gx c=0∧iQ c f)),G) :=
 cg rfl rfl (by
  have h1:=Nq c hr;by_cases hz:gx c=0
  ·have h2:=Vk c (by have:=(ot hz).s;omega) hr f hf
   simp +contextual (disch:=omega) [-getElem?_pos,-List.length_eq_zero_iff,-Int.natCast_eq_zero,wrap64,F4,h1,h2,hz]
  ·simp +contextual (disch:=omega) [-getElem?_pos,-List.length_eq_zero_iff,-Int.natCast_eq_zero,wrap64,F4,h1,hz])
noncomputable def pd(c:Cs)(f:Fl):Int:=if gx c≠0 then gx c else if iQ c f then 0 else 50
theorem ajn(c:Cs)(hr:oq c.r)(f:Fl)(hf:ub f)(G:List aV):bo F 54 [cs c,fl f] G=some (i64 (pd c f),G) :=
 cg rfl rfl (by
  have h1:=Nq c hr;unfold pd;by_cases hz:gx c=0
  ·have h2:=Vk c (by have:=(ot hz).s;omega) hr f hf
   by_cases hf:iQ c f
   ·simp +contextual (disch:=omega) [-getElem?_pos,-List.length_eq_zero_iff,-Int.natCast_eq_zero,wrap64,Du,h1,h2,hz,hf]
   ·simp +contextual (disch:=omega) [-getElem?_pos,-List.length_eq_zero_iff,-Int.natCast_eq_zero,wrap64,Du,h1,h2,hz,hf]
  ·simp +contextual (disch:=omega) [-getElem?_pos,-List.length_eq_zero_iff,-Int.natCast_eq_zero,wrap64,Du,h1,hz])
theorem BL(x m:Int)(G:List aV):bo F 71 [i64 x,i64 m] G=some (.bool (decide (0≤x)&&decide (x≤m)),G) :=
 cg rfl rfl (by simp +contextual (disch:=omega) [-getElem?_pos,-List.length_eq_zero_iff,-Int.natCast_eq_zero,wrap64,KS])
theorem Vl(c:Cs)(hr:oq c.r)(f:Fl)(hf:ub f)(G:List aV):bo F 29 [cs c,fl f] G=some (.bool (decide (gx c=0∧iQ c f)),G) :=
 cg rfl rfl (by
  have hc:=Nr c hr;obtain⟨⟨n,l⟩,s⟩:=c;obtain⟨t,d,w⟩:=f;generalize hW:decide (gx ⟨⟨n,l⟩,s⟩=0∧iQ ⟨⟨n,l⟩,s⟩ ⟨t,d,w⟩)=W;have no:¬ (gx ⟨⟨n,l⟩,s⟩=0∧iQ ⟨⟨n,l⟩,s⟩ ⟨t,d,w⟩)→W=false:=fun h=>by rw[←hW];simp[h]
  have yes:(gx ⟨⟨n,l⟩,s⟩=0∧iQ ⟨⟨n,l⟩,s⟩ ⟨t,d,w⟩)→W=true:=fun h=>by rw[←hW];simp[h]
  unfold iQ BK mI at no yes;simp only at no yes;unfold ub at hf;obtain⟨po,oJ⟩:=hr;simp only at hf po oJ;by_cases a0:gx ⟨⟨n,l⟩,s⟩=0
  case neg =>
   simp +contextual (disch:=omega) [-getElem?_pos,-List.length_eq_zero_iff,-Int.natCast_eq_zero,wrap64,yP,hc,a0];exact no (fun g=>a0 g.1)
  have Vn:=(ot a0).s;simp only at Vn;by_cases a1:0≤t∧t≤16777216
  case neg =>
   have lb:(decide (0≤t)&&decide (t≤16777216))=false:=by simp;omega
   simp +contextual (disch:=omega) [-getElem?_pos,-List.length_eq_zero_iff,-Int.natCast_eq_zero,wrap64,yP,hc,a0,BL,lb];exact no (fun g=>a1 g.2.1)
  have lb:(decide (0≤t)&&decide (t≤16777216))=true:=by simp;exact a1
  by_cases a3:d.length=s.length
  case neg =>
   have HN:¬ (d.length:Int)=s.length:=by omega
   simp +contextual (disch:=omega) [-getElem?_pos,-List.length_eq_zero_iff,-Int.natCast_eq_zero,wrap64,yP,hc,a0,BL,lb,HN];exact no (fun g=>a3 g.2.2.1.1)
  have HN:(d.length:Int)=s.length:=by omega
  by_cases a4:w.length=l.length
  case neg =>
   have zQ:¬ (w.length:Int)=l.length:=by omega
   simp +contextual (disch:=omega) [-getElem?_pos,-List.length_eq_zero_iff,-Int.natCast_eq_zero,wrap64,yP,hc,a0,BL,lb,HN,zQ];exact no (fun g=>a4 g.2.2.2.1)
  have zQ:(w.length:Int)=l.length:=by omega
  simp +contextual (disch:=omega) [-getElem?_pos,-List.length_eq_zero_iff,-Int.natCast_eq_zero,wrap64,yP,hc,a0,BL,lb,HN,zQ];refine go_loop (fun i:Nat=>aai (rK s) s.length i (Cs.row ⟨⟨n,l⟩,s⟩) (Fl.row ⟨t,d,w⟩) G) (fun i=>i≤s.length∧∀j,j<i→fB (nth s j).d=0∧hH (nth s j).d (nth d j)) (fun i=>s.length-i) 0 rfl (by simp) (by simp) ?_
  rintro i ⟨hi,hj⟩;simp +contextual (disch:=omega) [-getElem?_pos,-List.length_eq_zero_iff,-Int.natCast_eq_zero,wrap64,Rk];refine b9 (fun h5=>?_) (fun h5=>?_)
  ·have h5:i<s.length:=by omega
   have h6:i<d.length:=by omega
   have hv:=MZ (nth s i).d (nth d i);by_cases h7:fB (nth s i).d=0∧hH (nth s i).d (nth d i)
   ·rw[decide_eq_true h7]at hv
    simp +contextual (disch:=omega) [-getElem?_pos,-List.length_eq_zero_iff,-Int.natCast_eq_zero,wrap64,bp (l:=s),bp (l:=d),hv];refine cc (i+1) (by simp) ⟨by omega,fun j h8=>?_⟩ (by omega)
    rcases Nat.lt_or_ge j i with h9|h9
    ·exact hj j h9
    ·rwa [show j=i by omega]
   ·rw[decide_eq_false h7]at hv
    simp +contextual (disch:=omega) [-getElem?_pos,-List.length_eq_zero_iff,-Int.natCast_eq_zero,wrap64,bp (l:=s),bp (l:=d),hv];exact no (fun g=>h7 (g.2.2.1.2 i h5))
  ·obtain rfl:i=s.length:=by omega
   have ru:=hj;refine go_loop (fun i:Nat=>aak (nN l) l.length i (Fl.row ⟨t,d,w⟩) G) (fun i=>i≤l.length∧∀j,j<i→e9 (nth l j).r=0∧iy (nth l j).r (nth w j)) (fun i=>l.length-i) 0 rfl (by simp) (by simp) ?_
   rintro i ⟨hi,hj⟩;simp +contextual (disch:=omega) [-getElem?_pos,-List.length_eq_zero_iff,-Int.natCast_eq_zero,wrap64,Rl];refine b9 (fun h5=>?_) (fun h5=>?_)
   ·have h5:i<l.length:=by omega
    have h6:i<w.length:=by omega
    have hv:=U9 (nth l i).r (oJ i h5) (nth w i) (hf i);by_cases h7:e9 (nth l i).r=0∧iy (nth l i).r (nth w i)
    ·rw[decide_eq_true h7]at hv
     simp +contextual (disch:=omega) [-getElem?_pos,-List.length_eq_zero_iff,-Int.natCast_eq_zero,wrap64,bp (l:=l),bp (l:=w),hv];refine cc (i+1) (by simp) ⟨by omega,fun j h8=>?_⟩ (by omega)
     rcases Nat.lt_or_ge j i with h9|h9
     ·exact hj j h9
     ·rwa [show j=i by omega]
    ·rw[decide_eq_false h7]at hv
     simp +contextual (disch:=omega) [-getElem?_pos,-List.length_eq_zero_iff,-Int.natCast_eq_zero,wrap64,bp (l:=l),bp (l:=w),hv];exact no (fun g=>h7 (g.2.2.2.2 i h5))
   ·obtain rfl:i=l.length:=by omega
    exact yes ⟨a0,a1,⟨a3,ru⟩,a4,hj⟩)
end Go.Proofs.YtmpikpodpgnjhaaGreat
namespace Go.Proofs.YtmpikpodpgnjhaaGreat
set_option linter.all false
open Go.Vm
theorem HO{α:Type}{row:α→List V}{k:Nat}(hk:∀a,(row a).length=k):∀l:List α,(l.map row).flatten.length=l.length*k
 |[]=>by simp
 |a::l=>by
  rw[List.map_cons,List.flatten_cons,List.length_append,hk,HO hk l,List.length_cons,Nat.add_mul,Nat.one_mul,Nat.add_comm]
theorem Ns{α:Type}[Inhabited α]{row:α→List V}{k:Nat}(hk:∀a,(row a).length=k):∀{l:List α} {i:Nat},i<l.length→((l.map row).flatten.drop (i*k)).take k=row (nth l i)
 |[],i,h=>by simp at h
 |a::l,0,_=>by
  rw[Nat.zero_mul,List.drop_zero,List.map_cons,List.flatten_cons,List.take_append_of_le_length (by rw[hk];exact Nat.le_refl _),List.take_of_length_le (by rw[hk];exact Nat.le_refl _)]
  rfl
 |a::l,i+1,h=>by
  have ih:=Ns hk (l:=l) (i:=i) (by simpa using h)
  rw[List.map_cons,List.flatten_cons,show(i+1)*k=k+i*k by rw[Nat.add_mul,Nat.one_mul,Nat.add_comm],← List.drop_drop,List.drop_left' (hk a),ih]
  rfl
theorem Nt{x:V}:∀{vs cs:List V} {off:Nat},jc (x::cs) (off+1) vs=x::jc cs off vs
 |[],_,_=>rfl
 |v::vs,cs,off=>by
  simp only[jc,List.set_cons_succ];exact Nt
theorem Vp:∀{p:List V} {cs vs:List V} {off:Nat},jc (p++cs) (p.length+off) vs=p++jc cs off vs
 |[],cs,vs,off=>by simp
 |a::p,cs,vs,off=>by
  rw[List.cons_append,List.length_cons,show p.length+1+off=(p.length+off)+1 by omega,Nt,Vp,List.cons_append]
theorem Vq:∀{vs p cs:List V},p.length=vs.length→jc (p++cs) 0 vs=vs++cs
 |[],p,cs,h=>by
  have:p=[]:=List.length_eq_zero_iff.1 (by simpa using h)
  subst this;rfl
 |v::vs,[],cs,h=>by simp at h
 |v::vs,a::p,cs,h=>by
  simp only[jc,List.cons_append,List.set_cons_zero];rw[Nt,Vq (by simpa using h)]
theorem HP{α:Type}{row:α→List V}{k:Nat}(hk:∀a,(row a).length=k){x:α}:∀{l:List α} {i:Nat},i<l.length→jc (l.map row).flatten (i*k) (row x)=((l.set i x).map row).flatten
 |[],i,h=>by simp at h
 |a::l,0,_=>by
  rw[Nat.zero_mul,List.map_cons,List.flatten_cons,Vq (by rw[hk,hk])]
  rfl
 |a::l,i+1,h=>by
  have ih:=HP hk (x:=x) (l:=l) (i:=i) (by simpa using h)
  rw[List.map_cons,List.flatten_cons,show(i+1)*k=(row a).length+i*k by rw[hk,Nat.add_mul,Nat.one_mul,Nat.add_comm],Vp,ih]
  rfl
theorem xw{α:Type}[Inhabited α]{l:List α}{i j:Nat}{x:α}(h:i<l.length):nth (l.set i x) j=if j=i then x else nth l j:=by
 unfold nth;rw[List.getD_eq_getElem?_getD,List.getD_eq_getElem?_getD,List.getElem?_set];by_cases hj:j=i
 ·subst hj;simp[h]
 ·rw[if_neg hj,if_neg (fun e=>hj e.symm)]
end Go.Proofs.YtmpikpodpgnjhaaGreat
namespace Go.Proofs.YtmpikpodpgnjhaaGreat
set_option linter.all false
open Go.Vm
attribute [local simp] eS eT eQ eR
theorem HQ{α:Type}{row:α→List V}{k:Nat}(hk:∀a,(row a).length=k):∀{l:List α} {cs:List V} {off:Nat},cs.drop off=(l.map row).flatten→chunks k cs off l.length=l.map row
 |[],cs,off,h=>by simp[chunks]
 |a::l,cs,off,h=>by
  rw[List.map_cons,List.flatten_cons]at h;have h2:cs.drop (off+k)=(l.map row).flatten:=by
   rw[←List.drop_drop,h,List.drop_left' (hk a)]
  rw[List.length_cons,chunks,HQ hk h2,h,List.take_left' (hk a),List.map_cons]
theorem HR{α:Type}{row:α→List V}{sh:Sh}(h:∀a,lS sh (row a)=some (row a)):∀l:List α,lz sh (l.map row)=some (l.map row)
 |[]=>rfl
 |a::l=>by simp[lz,h,HR h l]
def jA(l:List Ds):List V:=(l.map Ds.row).flatten
@[simp] theorem apv{l:List Ds}:(jA l).length=l.length*4:=HO (row:=Ds.row) (fun _=>rfl) l
theorem zR{l:List Ds}{n:Nat}(h:n=l.length):lz fL (chunks 4 (jA l) 0 n)=some (l.map Ds.row):=by
 subst h;rw[HQ (row:=Ds.row) (fun _=>rfl) rfl];exact HR (fun a=>by simp) l
theorem Vr{l:List Ds}{a:Ds}:jA l++a.row=jA (l++[a]):=by simp[jA]
def ld(l:List (List Int)):List V:=(l.map fun p=>[ints p]).flatten
@[simp] theorem apw{l:List (List Int)}:(ld l).length=l.length:=by
 have:=HO (row:=fun p=>[ints p]) (k:=1) (fun _=>rfl) l
 rwa [Nat.mul_one]at this
theorem HS{l:List (List Int)}{n:Nat}(h:n=l.length):lz [some 1] (chunks 1 (ld l) 0 n)=some (l.map fun p=>[ints p]):=by
 subst h;rw[HQ (row:=fun p=>[ints p]) (fun _=>rfl) rfl];exact HR (fun a=>by simp) l
theorem Vs{l:List (List Int)}{a:List Int}:ld l++[ints a]=ld (l++[a]):=by simp[ld]
theorem HT{α:Type}{row:α→List V}{p:V→Bool}(h:∀a,(row a).all p=true):∀l:List α,(l.map row).flatten.all p=true
 |[]=>rfl
 |a::l=>by rw[List.map_cons,List.flatten_cons,List.all_append,h,HT h l];rfl
theorem Ey{α:Type}{row:α→List V}{f:V→V}(h:∀a,(row a).map f=row a):∀l:List α,(l.map row).flatten.map f=(l.map row).flatten
 |[]=>rfl
 |a::l=>by rw[List.map_cons,List.flatten_cons,List.map_append,h,Ey h l]
@[simp] theorem apx{l:List Ds}{d:Nat}:((jA l).all fun v => !V.cI d v)=true:=HT (row:=Ds.row) (fun a=>by simp) l
@[simp] theorem apy{l:List (List Int)}{d:Nat}:((ld l).all fun v => !V.cI d v)=true:=HT (row:=fun p=>[ints p]) (fun a=>by simp) l
@[simp] theorem apz{l:List Ds}{a b:Nat}:(jA l).map (V.ik a b)=jA l:=Ey (row:=Ds.row) (fun a=>by simp) l
@[simp] theorem apA{l:List (List Int)}{a b:Nat}:(ld l).map (V.ik a b)=ld l:=Ey (row:=fun p=>[ints p]) (fun a=>by simp) l
@[simp] theorem apB{l:List Ds}:(jA l).map V.j9=jA l:=Ey (row:=Ds.row) (fun a=>by simp) l
@[simp] theorem apC{l:List (List Int)}:(ld l).map V.j9=ld l:=Ey (row:=fun p=>[ints p]) (fun a=>by simp) l
def Ez(l:List Ds):Prop:=l.length≤1000∧∀i,i<l.length→(nth l i).u.length≤1000∧(nth l i).g.length≤1000
def Nu(l:List (List Int)):Prop:=l.length≤1000∧∀i,i<l.length→(nth l i).length≤17592186044416
theorem Vt(l:List Ds)(h:Ez l)(G:List aV):bo F 76 [rL l] G=some (.dB G.length 4 l.length,G++[.cells (jA l)]) :=
 cg rfl rfl (by
  obtain⟨hl,hs⟩:=h;simp +contextual (disch:=omega) [-getElem?_pos,-List.length_eq_zero_iff,-Int.natCast_eq_zero,wrap64,KU];refine go_loop (fun i:Nat=>abl i (rL l) l.length i (jA (l.take i)) G) (fun i=>i≤l.length) (fun i=>l.length-i) 0 rfl (by simp[jA]) (by simp) ?_
  rintro i hi;simp +contextual (disch:=omega) [-getElem?_pos,-List.length_eq_zero_iff,-Int.natCast_eq_zero,wrap64,RO];refine b9 (fun h5=>?_) (fun h5=>?_)
  ·have h5:i<l.length:=by omega
   have hu:=ai3 (nth l i).u (hs i h5).1;have hg:=ai4 (nth l i).g (hs i h5).2;have hm:Nat.min i l.length=i:=Nat.min_eq_left hi;simp +contextual (disch:=omega) [-getElem?_pos,-List.length_eq_zero_iff,-Int.natCast_eq_zero,wrap64,bp (l:=l),hu,hg];exact cc (i+1) (by simp[jJ h5,← Vr]) (by omega) (by omega)
  ·obtain rfl:i=l.length:=by omega
   simp +contextual (disch:=omega) [-getElem?_pos,-List.length_eq_zero_iff,-Int.natCast_eq_zero,wrap64,zR,List.take_length])
theorem Vu(l:List Int)(hl:l.length≤17592186044416)(G:List aV):bo F 91 [ints l] G=some (.slice (some 0) 1 (l.map fun n=>[i64 n]),G):=by
 cases l with
 |nil =>
  refine JU (p:=0) (m:=1) rfl rfl rfl rfl ?_ ?_
  ·simp +contextual (disch:=omega) [-getElem?_pos,-List.length_eq_zero_iff,-Int.natCast_eq_zero,wrap64,DF]
  ·simp +contextual (disch:=omega) [-getElem?_pos,-List.length_eq_zero_iff,-Int.natCast_eq_zero,wrap64,DF]
 |cons a l =>
  have hl:l.length+1≤17592186044416:=by simpa using hl
  show bo F 91 [.slice none 1 ([i64 a]::l.map fun n=>[i64 n])] G=some (.slice (some 0) 1 ([i64 a]::l.map fun n=>[i64 n]),G);refine JV (p:=0) rfl rfl rfl (fun m=>by simp) ?_
  simp +contextual (disch:=omega) [-getElem?_pos,-List.length_eq_zero_iff,-Int.natCast_eq_zero,wrap64,DF]
theorem ajo(l:List (List Int))(h:Nu l)(G:List aV):bo F 79 [ua l] G=some (.dB G.length 1 l.length,G++[.cells (ld l)]) :=
 cg rfl rfl (by
  obtain⟨hl,hs⟩:=h;simp +contextual (disch:=omega) [-getElem?_pos,-List.length_eq_zero_iff,-Int.natCast_eq_zero,wrap64,KV];refine go_loop (fun i:Nat=>abn i (ua l) l.length i (ld (l.take i)) G) (fun i=>i≤l.length) (fun i=>l.length-i) 0 rfl (by simp[ld]) (by simp) ?_
  rintro i hi;simp +contextual (disch:=omega) [-getElem?_pos,-List.length_eq_zero_iff,-Int.natCast_eq_zero,wrap64,RP];refine b9 (fun h5=>?_) (fun h5=>?_)
  ·have h5:i<l.length:=by omega
   have hu:=Vu (nth l i) (hs i h5);have hm:Nat.min i l.length=i:=Nat.min_eq_left hi;simp +contextual (disch:=omega) [-getElem?_pos,-List.length_eq_zero_iff,-Int.natCast_eq_zero,wrap64,bp (l:=l),hu];exact cc (i+1) (by simp[jJ h5,← Vs]) (by omega) (by omega)
  ·obtain rfl:i=l.length:=by omega
   simp +contextual (disch:=omega) [-getElem?_pos,-List.length_eq_zero_iff,-Int.natCast_eq_zero,wrap64,HS,List.take_length])
theorem Vv(l:List Ds)(h:Ez l)(G:List aV):bo F 63 [rL l] G=some (.dB G.length 4 l.length,G++[.cells (jA l)]) :=
 cg rfl rfl (by
  obtain⟨hl,hs⟩:=h;simp +contextual (disch:=omega) [-getElem?_pos,-List.length_eq_zero_iff,-Int.natCast_eq_zero,wrap64,KQ];refine go_loop (fun i:Nat=>aaX i (rL l) l.length i (jA (l.take i)) G) (fun i=>i≤l.length) (fun i=>l.length-i) 0 rfl (by simp[jA]) (by simp) ?_
  rintro i hi;simp +contextual (disch:=omega) [-getElem?_pos,-List.length_eq_zero_iff,-Int.natCast_eq_zero,wrap64,RD];refine b9 (fun h5=>?_) (fun h5=>?_)
  ·have h5:i<l.length:=by omega
   have hu:=(hs i h5).1;have hg:=(hs i h5).2;have hm:Nat.min i l.length=i:=Nat.min_eq_left hi;simp +contextual (disch:=omega) [-getElem?_pos,-List.length_eq_zero_iff,-Int.natCast_eq_zero,wrap64,bp (l:=l)];exact cc (i+1) (by simp[jJ h5,← Vr]) (by omega) (by omega)
  ·obtain rfl:i=l.length:=by omega
   simp +contextual (disch:=omega) [-getElem?_pos,-List.length_eq_zero_iff,-Int.natCast_eq_zero,wrap64,zR,List.take_length])
theorem ajp(f:Fl)(h:Ez f.d)(hw:Nu f.w)(G:List aV):bo F 22 [fl f] G=some (.agg [i64 f.t,.dB G.length 4 f.d.length,.dB (G.length+1) 1 f.w.length],G++[.cells (jA f.d),.cells (ld f.w)]) :=
 cg rfl rfl (by
  obtain⟨t,d,l⟩:=f;simp only at h hw;have hd:=Vv d h;obtain⟨hl,hs⟩:=hw;simp +contextual (disch:=omega) [-getElem?_pos,-List.length_eq_zero_iff,-Int.natCast_eq_zero,wrap64,KG,hd];refine go_loop (fun i:Nat=>aac i (ua l) l.length i [i64 t,.dB G.length 4 d.length,ua l] [i64 0,.aK,.aK] (ld (l.take i)) (G++[.cells (jA d)])) (fun i=>i≤l.length) (fun i=>l.length-i) 0 rfl (by simp[ld]) (by simp) ?_
  rintro i hi;simp +contextual (disch:=omega) [-getElem?_pos,-List.length_eq_zero_iff,-Int.natCast_eq_zero,wrap64,Rh];refine b9 (fun h5=>?_) (fun h5=>?_)
  ·have h5:i<l.length:=by omega
   have hu:=hs i h5;have hm:Nat.min i l.length=i:=Nat.min_eq_left hi;simp +contextual (disch:=omega) [-getElem?_pos,-List.length_eq_zero_iff,-Int.natCast_eq_zero,wrap64,bp (l:=l)];exact cc (i+1) (by simp[jJ h5,← Vs]) (by omega) (by omega)
  ·obtain rfl:i=l.length:=by omega
   simp +contextual (disch:=omega) [-getElem?_pos,-List.length_eq_zero_iff,-Int.natCast_eq_zero,wrap64,HS,List.take_length])
end Go.Proofs.YtmpikpodpgnjhaaGreat
namespace Go.Proofs.YtmpikpodpgnjhaaGreat
set_option linter.all false
open Go.Vm
attribute [local simp] eS eT eQ eR
def fd(p:Nat→Bool):Nat→Nat→Option Nat
 |0,_=>none
 |m+1,i=>if p i then some i else fd p m (i+1)
theorem Vw{p:Nat→Bool}{i n:Nat}(h:i<n):fd p (n-i) i=if p i then some i else fd p (n-(i+1)) (i+1):=by
 obtain⟨m,hm⟩:∃m,n-i=m+1:=⟨n-i-1,by omega⟩
 rw[hm,fd,show n-(i+1)=m by omega]
theorem Vx{p:Nat→Bool}{n:Nat}:fd p (n-n) n=none:=by rw[Nat.sub_self];rfl
theorem wi{p:Nat→Bool}:∀{m i k:Nat},fd p m i=some k→(i≤k∧k<i+m)∧p k=true∧∀j,i≤j→j<k→p j=false
 |0,i,k,h=>by simp[fd]at h
 |m+1,i,k,h=>by
  unfold fd at h;split at h
  ·rename_i h1;cases h;exact⟨by omega,h1,fun j a b=>by omega⟩
  ·rename_i h1
   have:=wi h;refine⟨by omega,this.2.1,fun j a b=>?_⟩
   by_cases hj:j=i
   ·subst hj;simpa using h1
   ·exact this.2.2 j (by omega) b
theorem Nv{p:Nat→Bool}:∀{m i:Nat},fd p m i=none→∀j,i≤j→j<i+m→p j=false
 |0,i,_,j,a,b=>by omega
 |m+1,i,h,j,a,b=>by
  unfold fd at h;split at h
  ·cases h
  ·rename_i h1
   by_cases hj:j=i
   ·subst hj;simpa using h1
   ·exact Nv h j (by omega) (by omega)
def rM:Option Nat→Int
 |some k=>k
 |none => -1
def mh(s:List Si)(n:Int):Option Nat:=fd (fun i=>decide ((nth s i).n=n)) s.length 0
def lx(l:List Lk)(n:Int):Option Nat:=fd (fun i=>decide ((nth l i).f=n)) l.length 0
theorem ajq(s:List Si)(hs:s.length≤1000)(n:Int){k:Nat}{G:List aV}(hG:G[k]?=some (.cells [i64 n])) :
  bo F 157 [rK s,.fn 158 [.bN k 0]] G=some (i64 (rM (mh s n)),G) :=
 cg rfl rfl (by
  generalize hW:rM (mh s n)=W;have hp:∀x:Si,bo F 158 [.agg x.row,.bN k 0] G=some (.bool (decide (x.n=n)),G):=fun x=>cg rfl rfl (by
   simp +contextual (disch:=omega) [-getElem?_pos,-List.length_eq_zero_iff,-Int.natCast_eq_zero,wrap64,Ls,hG])
  simp +contextual (disch:=omega) [-getElem?_pos,-List.length_eq_zero_iff,-Int.natCast_eq_zero,wrap64,Lr];refine go_loop (fun i:Nat=>acu (rK s) (.fn 158 [.bN k 0]) s.length i G) (fun i=>i≤s.length∧rM (fd (fun i=>decide ((nth s i).n=n)) (s.length-i) i)=W) (fun i=>s.length-i) 0 rfl (by simp) ⟨by omega,hW⟩ ?_
  rintro i ⟨hi,hq⟩;simp +contextual (disch:=omega) [-getElem?_pos,-List.length_eq_zero_iff,-Int.natCast_eq_zero,wrap64,Sw];refine b9 (fun h5=>?_) (fun h5=>?_)
  ·have h5:i<s.length:=by omega
   rw[Vw h5]at hq;simp +contextual (disch:=omega) [-getElem?_pos,-List.length_eq_zero_iff,-Int.natCast_eq_zero,wrap64,bp (l:=s),hp];refine b9 (fun h6=>?_) (fun h6=>?_)
   ·rw[if_pos (decide_eq_true h6)]at hq
    exact hq
   ·rw[if_neg (by simp[h6])]at hq
    exact cc (i+1) (by simp) ⟨by omega,hq⟩ (by omega)
  ·obtain rfl:i=s.length:=by omega
   rw[Vx]at hq;exact hq)
theorem ajr(s:List Lk)(hs:s.length≤1000)(n:Int){k:Nat}{G:List aV}(hG:G[k]?=some (.cells [i64 n])) :
  bo F 160 [nN s,.fn 161 [.bN k 0]] G=some (i64 (rM (lx s n)),G) :=
 cg rfl rfl (by
  generalize hW:rM (lx s n)=W;have hp:∀x:Lk,bo F 161 [.agg x.row,.bN k 0] G=some (.bool (decide (x.f=n)),G):=fun x=>cg rfl rfl (by
   simp +contextual (disch:=omega) [-getElem?_pos,-List.length_eq_zero_iff,-Int.natCast_eq_zero,wrap64,Lu,hG])
  simp +contextual (disch:=omega) [-getElem?_pos,-List.length_eq_zero_iff,-Int.natCast_eq_zero,wrap64,Lt];refine go_loop (fun i:Nat=>acw (nN s) (.fn 161 [.bN k 0]) s.length i G) (fun i=>i≤s.length∧rM (fd (fun i=>decide ((nth s i).f=n)) (s.length-i) i)=W) (fun i=>s.length-i) 0 rfl (by simp) ⟨by omega,hW⟩ ?_
  rintro i ⟨hi,hq⟩;simp +contextual (disch:=omega) [-getElem?_pos,-List.length_eq_zero_iff,-Int.natCast_eq_zero,wrap64,Sx];refine b9 (fun h5=>?_) (fun h5=>?_)
  ·have h5:i<s.length:=by omega
   rw[Vw h5]at hq;simp +contextual (disch:=omega) [-getElem?_pos,-List.length_eq_zero_iff,-Int.natCast_eq_zero,wrap64,bp (l:=s),hp];refine b9 (fun h6=>?_) (fun h6=>?_)
   ·rw[if_pos (decide_eq_true h6)]at hq
    exact hq
   ·rw[if_neg (by simp[h6])]at hq
    exact cc (i+1) (by simp) ⟨by omega,hq⟩ (by omega)
  ·obtain rfl:i=s.length:=by omega
   rw[Vx]at hq;exact hq)
theorem ajs(x:Int)(G:List aV):bo F 112 [i64 x] G=some (.bool (!decide (0≤x∧x≤1073741824)),G) :=
 cg rfl rfl (by
  by_cases h1:x<0
  ·rw[decide_eq_false (by omega)]
   simp +contextual (disch:=omega) [-getElem?_pos,-List.length_eq_zero_iff,-Int.natCast_eq_zero,wrap64,DG,h1]
  ·by_cases h2:1073741824<x
   ·rw[decide_eq_false (by omega)]
    simp +contextual (disch:=omega) [-getElem?_pos,-List.length_eq_zero_iff,-Int.natCast_eq_zero,wrap64,DG,h1,h2]
   ·rw[decide_eq_true (by omega)]
    simp +contextual (disch:=omega) [-getElem?_pos,-List.length_eq_zero_iff,-Int.natCast_eq_zero,wrap64,DG,h1,h2])
theorem ajt(a b c:List Int)(h:a.length+b.length+c.length≤1000)(G:List aV):bo F 89 [.slice none 1 [[ints a],[ints b],[ints c]]] G=some (ints (a++b++c),G) :=
 cg rfl rfl (by
  simp +contextual (disch:=omega) [-getElem?_pos,-List.length_eq_zero_iff,-Int.natCast_eq_zero,wrap64,KX,RR,RQ,RT,RS,yI];refine b9 (fun g=>absurd g (by omega)) (fun _=>b9 (fun g=>absurd g (by omega)) (fun _=>b9 (fun g=>absurd g (by omega)) (fun _=>?_)))
  simp +contextual (disch:=omega) [-getElem?_pos,-List.length_eq_zero_iff,-Int.natCast_eq_zero,wrap64,J7 (l:=a++(b++c)) (n:=a.length+b.length+c.length) (by simp;omega)])
structure Sp where
 a:List Int
 b:List Int
 c:List Int
abbrev Sp.row(p:Sp):List V:=[ints p.a,ints p.b,ints p.c]
abbrev sv(p:Sp):V:=.agg p.row
def nO(c:Cs)(p:Sp):Prop:=(p.a.length:Int)=c.r.n∧p.b.length=c.s.length∧p.c.length=c.s.length
instance {c:Cs} {p:Sp}:Decidable (nO c p):=inferInstanceAs (Decidable (_∧_∧_))
theorem aju(c:Cs)(p:Sp)(G:List aV):bo F 87 [cs c,sv p] G=some (.bool (decide (nO c p)),G) :=
 cg rfl rfl (by
  obtain⟨⟨n,l⟩,s⟩:=c;obtain⟨a,b,c⟩:=p;generalize hW:decide (nO ⟨⟨n,l⟩,s⟩ ⟨a,b,c⟩)=W;have no:¬ nO ⟨⟨n,l⟩,s⟩ ⟨a,b,c⟩→W=false:=fun h=>by rw[←hW];simp[h]
  have yes:nO ⟨⟨n,l⟩,s⟩ ⟨a,b,c⟩→W=true:=fun h=>by rw[←hW];simp[h]
  unfold nO at no yes;simp only at no yes;by_cases h1:(a.length:Int)=n
  ·by_cases h2:(b.length:Int)=s.length
   ·by_cases h3:(c.length:Int)=s.length
    ·simp +contextual (disch:=omega) [-getElem?_pos,-List.length_eq_zero_iff,-Int.natCast_eq_zero,wrap64,Ba,h1,h2,h3]
     exact yes (by omega)
    ·simp +contextual (disch:=omega) [-getElem?_pos,-List.length_eq_zero_iff,-Int.natCast_eq_zero,wrap64,Ba,h1,h2,h3]
     exact no (by omega)
   ·simp +contextual (disch:=omega) [-getElem?_pos,-List.length_eq_zero_iff,-Int.natCast_eq_zero,wrap64,Ba,h1,h2]
    exact no (by omega)
  ·simp +contextual (disch:=omega) [-getElem?_pos,-List.length_eq_zero_iff,-Int.natCast_eq_zero,wrap64,Ba,h1]
   exact no (by omega))
theorem Nw(l:List Int)(hl:l.length≤1000)(m:Int)(G:List aV):bo F 94 [ints l,i64 m] G=some (.bool (decide (fN l m)),G) :=
 cg rfl rfl (by
  generalize hW:decide (fN l m)=W;simp +contextual (disch:=omega) [-getElem?_pos,-List.length_eq_zero_iff,-Int.natCast_eq_zero,wrap64,KZ];refine go_loop (fun i:Nat=>abq m (ints l) l.length i G) (fun i=>i≤l.length∧∀j,j<i→0≤nth l j∧nth l j≤m) (fun i=>l.length-i) 0 rfl (by simp) (by simp) ?_
  rintro i ⟨hi,hj⟩;simp +contextual (disch:=omega) [-getElem?_pos,-List.length_eq_zero_iff,-Int.natCast_eq_zero,wrap64,RU];refine b9 (fun h5=>?_) (fun h5=>?_)
  ·have h5:i<l.length:=by omega
   by_cases h6:0≤nth l i∧nth l i≤m
   ·have iH:(decide (0≤nth l i)&&decide (nth l i≤m))=true:=by simp;exact h6
    simp +contextual (disch:=omega) [-getElem?_pos,-List.length_eq_zero_iff,-Int.natCast_eq_zero,wrap64,eB (l:=l),BL,iH];refine cc (i+1) (by simp) ⟨by omega,fun j h7=>?_⟩ (by omega)
    rcases Nat.lt_or_ge j i with h8|h8
    ·exact hj j h8
    ·rwa [show j=i by omega]
   ·have iH:(decide (0≤nth l i)&&decide (nth l i≤m))=false:=by simp;omega
    simp +contextual (disch:=omega) [-getElem?_pos,-List.length_eq_zero_iff,-Int.natCast_eq_zero,wrap64,eB (l:=l),BL,iH];rw[←hW,decide_eq_false (fun g:fN l m=>h6 (g i h5))]
  ·obtain rfl:i=l.length:=by omega
   rw[←hW,decide_eq_true (show fN l m from hj)])
end Go.Proofs.YtmpikpodpgnjhaaGreat
namespace Go.Proofs.YtmpikpodpgnjhaaGreat
set_option linter.all false
open Go.Vm
attribute [local simp] eS eT eQ eR
structure Kv(r:Rr):Prop where
 n:1≤r.n∧r.n≤40
 e:∀i,i<r.l.length→lE r i=0
theorem m9{r:Rr}(h:jN r=0):Kv r:=by
 unfold jN at h;split at h
 ·cases h
 ·exact⟨by omega,fun i hi=>sH h i (by omega) (by omega)⟩
theorem Kv.link{r:Rr}(h:Kv r){i:Nat}(hi:i<r.l.length):(0≤(nth r.l i).f∧(nth r.l i).f<(nth r.l i).t∧(nth r.l i).t≤r.n-1)∧(0<i→(nth r.l (i-1)).f<(nth r.l i).f)∧e9 (nth r.l i).r=0:=by
 have he:=h.e i hi;unfold lE at he;simp only at he;split at he
 ·split at he
  ·cases he
  ·split at he
   ·cases he
   ·exact⟨by omega,fun h0=>by omega,he⟩
 ·cases he
theorem Kv.up{r:Rr}(h:Kv r):∀{i:Nat},i<r.l.length→(i:Int)≤(nth r.l i).f
 |0,hi=>by have:=(h.link hi).1;omega
 |i+1,hi=>by
  have:=h.up (i:=i) (by omega)
  have:=(h.link hi).2.1 (by omega)
  simp only[Nat.add_sub_cancel]at this;omega
theorem Kv.len{r:Rr}(h:Kv r):r.l.length≤39:=by
 have h1:=h.n;by_cases h0:r.l.length=0
 ·omega
 ·have h2:=h.up (i:=r.l.length-1) (by omega)
  have h3:=(h.link (i:=r.l.length-1) (by omega)).1
  omega
theorem Vy:∀n:Nat,lz [some 1] (List.replicate n [V.aK])=some (List.replicate n [ints []])
 |0=>rfl
 |n+1=>by rw[List.replicate_succ,lz,Vy n];rfl
theorem Vz{n:Nat}:lz [some 1] (chunks 1 (List.replicate n V.aK) 0 n)=some (List.replicate n [ints []]):=by
 rw[C2 _ _ _ rfl (by simp),List.drop_zero,List.take_of_length_le (by simp),List.map_replicate]
 exact Vy n
theorem ajv(r:Rr)(hr:oq r)(G:List aV):bo F 75 [rr r] G=some (.tuple (if jN r=0 then [ua (List.replicate r.l.length []),i64 0] else [.slice (some 0) 1 [],i64 (jN r)]),G) :=
 cg rfl rfl (by
  have h1:=HL r hr;have h2:=HM r hr;obtain⟨n,l⟩:=r;by_cases hz:jN ⟨n,l⟩=0
  ·have hl:=(m9 hz).len
   simp only at hl;rw[if_pos hz];simp +contextual (disch:=omega) [-getElem?_pos,-List.length_eq_zero_iff,-Int.natCast_eq_zero,wrap64,Ge,h1,h2,hz,Vz]
  ·rw[if_neg hz]
   simp +contextual (disch:=omega) [-getElem?_pos,-List.length_eq_zero_iff,-Int.natCast_eq_zero,wrap64,Ge,h1,h2,hz])
theorem ajw(r:Rr)(hr:oq r)(G:List aV):bo F 77 [rr r] G=some (.tuple (if jN r=0 then [ua (List.replicate r.l.length []),i64 0] else [.slice (some 0) 1 [],i64 (jN r)]),G) :=
 cg rfl rfl (by
  have h1:=HL r hr;have h2:=HM r hr;obtain⟨n,l⟩:=r;by_cases hz:jN ⟨n,l⟩=0
  ·have hl:=(m9 hz).len
   simp only at hl;rw[if_pos hz];simp +contextual (disch:=omega) [-getElem?_pos,-List.length_eq_zero_iff,-Int.natCast_eq_zero,wrap64,Gf,h1,h2,hz,Vz]
  ·rw[if_neg hz]
   simp +contextual (disch:=omega) [-getElem?_pos,-List.length_eq_zero_iff,-Int.natCast_eq_zero,wrap64,Gf,h1,h2,hz])
noncomputable def ou(c:Cs)(l:List Ds):Int:=if gx c≠0 then gx c else if mI c l then 0 else 3
def nP(c:Cs)(l:List Ds):Fl:=⟨0,l,List.replicate c.r.l.length []⟩
noncomputable def ov(c:Cs)(l:List Ds):V:=.tuple (if ou c l=0 then [fl (nP c l),i64 0] else [.agg [i64 0,.slice (some 0) 4 [],.slice (some 0) 1 []],i64 (ou c l)])
theorem HU{c:Cs}(h:gx c=0){l:List Ds}(hl:mI c l):Ez l:=by
 have h6:=(ot h).s;have h7:=hl.1;refine⟨by omega,fun i hi=>?_⟩
 have h8:=hl.2 i (by omega)
 have h9:=tY h8.1;have a:=h9.u;have b:=h9.g;have c:=h8.2.2.2.1;have d:=h8.2.2.2.2.1;omega
theorem Nx{c:Cs}(h:gx c=0){l:List Ds}:iQ c (nP c l)↔mI c l:=by
 refine⟨fun g=>g.2.1,fun g=>⟨by simp[nP],g,by simp[nP],fun i hi=>?_⟩⟩
 have hk:=(m9 (ot h).k).link hi;refine⟨hk.2.2,?_⟩;have e:nth (nP c l).w i=[]:=by simp[nP,nth,hi]
 rw[e];exact⟨by simp,by simp,fun j hj=>by simp at hj⟩
theorem ajx(c:Cs)(l:List Ds):ub (nP c l):=fun i=>by
 rcases Nat.lt_or_ge i c.r.l.length with h|h
 ·simp[nP,nth,h]
 ·have e:nth (nP c l).w i=[]:=by
   simp[nP,nth,List.getElem?_eq_none (show(List.replicate c.r.l.length ([]:List Int)).length≤i by simpa using h)]
   rfl
  rw[e];simp
theorem ajy(c:Cs)(hr:oq c.r)(l:List Ds):∃G',bo F 31 [cs c,rL l] []=some (ov c l,G'):=by
 have h1:=Nq c hr;by_cases hz:gx c=0
 ·have h2:=Vj c (by have:=(ot hz).s;omega) l
  by_cases hs:mI c l
  ·have h3:=ajv c.r hr
   rw[if_pos (ot hz).k]at h3;have h4:=Vt l (HU hz hs);rw[show ov c l=.tuple [fl (nP c l),i64 0] by unfold ov;rw[show ou c l=0 by unfold ou;rw[if_neg (by omega),if_pos hs]];rfl]
   refine⟨[.cells []],cg rfl rfl ?_⟩;simp +contextual (disch:=omega) [-getElem?_pos,-List.length_eq_zero_iff,-Int.natCast_eq_zero,wrap64,Di,h1,hz,h2,hs,h3,h4,zR,nP]
  ·rw[show ov c l=.tuple [.agg [i64 0,.slice (some 0) 4 [],.slice (some 0) 1 []],i64 3] by unfold ov;rw[show ou c l=3 by unfold ou;rw[if_neg (by omega),if_neg hs]];rfl]
   refine⟨[],cg rfl rfl ?_⟩;simp +contextual (disch:=omega) [-getElem?_pos,-List.length_eq_zero_iff,-Int.natCast_eq_zero,wrap64,Di,h1,hz,h2,hs]
 ·rw[show ov c l=.tuple [.agg [i64 0,.slice (some 0) 4 [],.slice (some 0) 1 []],i64 (gx c)] by unfold ov;rw[show ou c l=gx c by unfold ou;rw[if_pos hz]];rw[if_neg hz]]
  refine⟨[],cg rfl rfl ?_⟩;simp +contextual (disch:=omega) [-getElem?_pos,-List.length_eq_zero_iff,-Int.natCast_eq_zero,wrap64,Di,h1,hz]
theorem ajz(c:Cs)(hr:oq c.r)(l:List Ds)(Et:Ez l):∃G',bo F 32 [cs c,rL l] []=some (ov c l,G'):=by
 have h1:=Nr c hr;by_cases hz:gx c=0
 ·have h3:=ajw c.r hr
  rw[if_pos (ot hz).k]at h3;have h4:=Vv l Et;have h5:=Vl c hr (nP c l) (ajx c l);by_cases hs:mI c l
  ·rw[decide_eq_true ⟨hz,(Nx hz).2 hs⟩]at h5
   rw[show ov c l=.tuple [fl (nP c l),i64 0] by unfold ov;rw[show ou c l=0 by unfold ou;rw[if_neg (by omega),if_pos hs]];rfl]
   refine⟨[.cells []],cg rfl rfl ?_⟩;simp only[fl,Fl.row,nP,ua,List.map_replicate]at h5;simp +contextual (disch:=omega) [-getElem?_pos,-List.length_eq_zero_iff,-Int.natCast_eq_zero,wrap64,Dj,h1,hz,h3,h4,h5,zR,nP]
  ·rw[decide_eq_false (fun g=>hs ((Nx hz).1 g.2))]at h5
   rw[show ov c l=.tuple [.agg [i64 0,.slice (some 0) 4 [],.slice (some 0) 1 []],i64 3] by unfold ov;rw[show ou c l=3 by unfold ou;rw[if_neg (by omega),if_neg hs]];rfl]
   refine⟨[.cells []],cg rfl rfl ?_⟩;simp only[fl,Fl.row,nP,ua,List.map_replicate]at h5;simp +contextual (disch:=omega) [-getElem?_pos,-List.length_eq_zero_iff,-Int.natCast_eq_zero,wrap64,Dj,h1,hz,h3,h4,h5,zR]
 ·rw[show ov c l=.tuple [.agg [i64 0,.slice (some 0) 4 [],.slice (some 0) 1 []],i64 (gx c)] by unfold ov;rw[show ou c l=gx c by unfold ou;rw[if_pos hz]];rw[if_neg hz]]
  refine⟨[],cg rfl rfl ?_⟩;simp +contextual (disch:=omega) [-getElem?_pos,-List.length_eq_zero_iff,-Int.natCast_eq_zero,wrap64,Dj,h1,hz]
end Go.Proofs.YtmpikpodpgnjhaaGreat
namespace Go.Proofs.YtmpikpodpgnjhaaGreat
set_option linter.all false
open Go.Vm
attribute [local simp] eS eT eQ eR
theorem VA{l:List Int}{a:Int}:∀{i:Nat},i≤l.length→sm (l++[a]) i=sm l i
 |0,_=>rfl
 |i+1,h=>by
  simp only[sm];rw[VA (by omega),og (by omega)]
theorem ajA{l:List Int}{a:Int}:sm (l++[a]) (l.length+1)=sm l l.length+a:=by
 simp only[sm];rw[VA (Nat.le_refl _),iW,if_neg (by omega),if_pos rfl]
abbrev uV(l:List Int):V:=.slice (some 0) 1 (l.map fun n=>[i64 n])
abbrev Ny(r:Rc):V:=.agg [uV r.w,i64 r.den]
theorem ajB{l:List Int}{k:Nat}(hd:ed l k):∃r k',bo F 153 [.bN 0 0] [dk l k]=some (Ny r,[dk l k'])∧ed l k'∧e9 r=0∧r.w.length≤5:=by
 suffices h:∀Q:V→List aV→Prop,(∀r k',ed l k'→e9 r=0→r.w.length≤5→Q (Ny r) [dk l k'])→iV (bo F) 153 [.bN 0 0] [dk l k] Q by
  obtain⟨_,_,h,r,k',rfl,rfl,h1⟩:=h (fun v G=>∃r k',v=Ny r∧G=[dk l k']∧ed l k'∧e9 r=0∧r.w.length≤5) fun r k' a b c=>⟨r,k',rfl,rfl,a,b,c⟩;exact⟨r,k',h,h1⟩
 intro Q hQ;refine ju rfl rfl ?_;obtain⟨m,k1,n1,ji,hm⟩:=gL hd 5 (by omega)
 simp +contextual (disch:=omega) [-getElem?_pos,-List.length_eq_zero_iff,-Int.natCast_eq_zero,wrap64,Lj,n1];refine go_loop (fun s:List Int×Int×Int×Nat=>aci (.bN 0 0) s.2.2.1 [.aK,i64 0] [.slice (some 1022) 1 (s.1.map fun n=>[i64 n]),i64 s.2.1] s.1.length [dk l s.2.2.2])
  (fun s=>s.2.1=sm s.1 s.1.length∧(∀i,i<s.1.length→0≤nth s.1 i∧nth s.1 i≤4)∧(s.1.length:Int)+s.2.2.1+1≤5 ∧ -1≤s.2.2.1∧(s.2.2.1 = -1→0<s.1.length∧1≤nth s.1 (s.1.length-1))∧ed l s.2.2.2) (fun s=>(s.2.2.1+1).toNat)
  ([],0,m,k1) rfl (by simp) ⟨rfl,by simp,by simp;omega,by simp only;omega,by simp only;omega,ji⟩ ?_
 rintro⟨w,den,x,k⟩ ⟨h1,h2,h3,h4,h5,hd⟩;simp only at h1 h2 h3 h4 h5 hd;have EA:=BI (l:=w) (b:=4) (i:=w.length) h2;obtain⟨a,k2,n2,gz,ha⟩:=gL hd 4 (by omega)
 simp +contextual (disch:=omega) [-getElem?_pos,-List.length_eq_zero_iff,-Int.natCast_eq_zero,wrap64,Sq];refine b9 (fun h6=>?_) (fun h6=>?_)
 ·have key:∀b:Int,(0≤b∧b≤4)→(x=0→1≤b)→((den+b=sm (w++[b]) (w++[b]).length)∧(∀i,i<(w++[b]).length→0≤nth (w++[b]) i∧nth (w++[b]) i≤4)∧((w++[b]).length:Int)+(x-1)+1≤5 ∧ -1≤x-1∧(x-1 = -1→0<(w++[b]).length∧1≤nth (w++[b]) ((w++[b]).length-1))∧ed l k2):=fun b hb Je=>by
   refine⟨by rw[List.length_append,List.length_singleton,ajA,h1],fun i hi=>?_,by simp;omega,by omega,fun g=>⟨by simp,?_⟩,gz⟩
   ·rw[iW]
    simp at hi;split
    ·exact h2 i (by assumption)
    ·rw[if_pos (by omega)];exact hb
   ·rw[List.length_append,List.length_singleton,Nat.add_sub_cancel,iW,if_neg (by omega),if_pos rfl]
    exact Je (by omega)
  by_cases h7:x=0
  ·subst h7
   simp +contextual (disch:=omega) [-getElem?_pos,-List.length_eq_zero_iff,-Int.natCast_eq_zero,wrap64,n2];exact cc (w++[a+1],den+(a+1),-1,k2) (by simp) (key (a+1) (by omega) (fun _=>by omega)) (by simp)
  ·simp +contextual (disch:=omega) [-getElem?_pos,-List.length_eq_zero_iff,-Int.natCast_eq_zero,wrap64,n2,h7]
   exact cc (w++[a],den+a,x-1,k2) (by simp) (key a (by omega) (fun g=>absurd g h7)) (by simp only;omega)
 ·have hx:x = -1:=by omega
  obtain⟨h8,h9⟩:=h5 hx;refine hQ ⟨w,den⟩ k hd ?_ (by simp only;omega)
  unfold e9;simp only;rw[if_neg (by omega),if_neg (by omega),if_pos (show fN w 10000 from fun i hi=>by have:=h2 i hi;omega),if_pos h1.symm]
structure Rm(m:Int)(l:List Lk)(n:Int):Prop where
 link:∀i,i<l.length→0≤(nth l i).f∧(nth l i).f<(nth l i).t∧(nth l i).t≤m-1∧(nth l i).f<n∧e9 (nth l i).r=0∧(nth l i).r.w.length≤5
 up:∀i,0<i→i<l.length→(nth l (i-1)).f<(nth l i).f
 len:(l.length:Int)≤n
theorem Rm.snoc{m:Int}{l:List Lk}{n:Int}(h:Rm m l n)(hn:0≤n){x:Lk}(h1:x.f=n)(h2:n<x.t)(h3:x.t≤m-1)(h4:e9 x.r=0)(h5:x.r.w.length≤5):Rm m (l++[x]) (n+1):=by
 refine⟨fun i hi=>?_,fun i h0 hi=>?_,by have:=h.len;simp;omega⟩
 ·simp at hi
  rw[iW];split
  ·have:=h.link i (by assumption);omega
  ·rw[if_pos (by omega)];omega
 ·simp at hi
  rw[iW,iW,if_pos (by omega)]
  split
  ·exact h.up i h0 (by assumption)
  ·rw[if_pos (by omega),h1]
   exact(h.link (i-1) (by omega)).2.2.2.1
theorem Rm.skip{m:Int}{l:List Lk}{n:Int}(h:Rm m l n):Rm m l (n+1) :=
 ⟨fun i hi=>by have:=h.link i hi;omega,h.up,by have:=h.len;omega⟩
theorem Rm.lr{m:Int}{l:List Lk}{n:Int}(h:Rm m l n)(hm:1≤m∧m≤40):jN ⟨m,l⟩=0:=by
 unfold jN;rw[if_neg (by simp only;omega)]
 refine rD fun i _ hi=>?_;have hi:i<l.length:=by simp only at hi;omega
 have a:=h.link i hi;show(if (0≤(nth l i).f∧(nth l i).f≤m-1)∧(0≤(nth l i).t∧(nth l i).t≤m-1) then (if (nth l i).t≤(nth l i).f then 12 else if 0<i∧(nth l i).f≤(nth l (i-1)).f then 4 else e9 (nth l i).r) else 11)=0
 rw[if_pos (by omega),if_neg (by omega),if_neg (fun g=>by have:=h.up i g.1 hi;omega)]
 exact a.2.2.2.2.1
abbrev Nz(l:List Lk):V:=.slice (some 0) 4 (l.map Lk.row)
theorem ajC{l:List Int}{k:Nat}(hd:ed l k):∃r k',bo F 110 [.bN 0 0] [dk l k]=some (.agg [i64 r.n,Nz r.l],[dk l k'])∧ed l k'∧jN r=0∧r.n≤6∧∀i,i<r.l.length→(nth r.l i).r.w.length≤5:=by
 suffices h:∀Q:V→List aV→Prop,(∀r k',ed l k'→jN r=0→r.n≤6→(∀i,i<r.l.length→(nth r.l i).r.w.length≤5)→Q (.agg [i64 r.n,Nz r.l]) [dk l k'])→iV (bo F) 110 [.bN 0 0] [dk l k] Q by
  obtain⟨_,_,h,r,k',rfl,rfl,h1⟩:=h (fun v G=>∃r k',v=.agg [i64 r.n,Nz r.l]∧G=[dk l k']∧ed l k'∧jN r=0∧r.n≤6∧∀i,i<r.l.length→(nth r.l i).r.w.length≤5) fun r k' a b c d=>⟨r,k',rfl,rfl,a,b,c,d⟩;exact⟨r,k',h,h1⟩
 intro Q hQ;refine ju rfl rfl ?_;obtain⟨a,k1,n1,ji,ha⟩:=gL hd 6 (by omega)
 obtain⟨m,hm⟩:∃m:Int,1+a=m:=⟨_,rfl⟩;simp +contextual (disch:=omega) [-getElem?_pos,-List.length_eq_zero_iff,-Int.natCast_eq_zero,wrap64,K1,n1,hm];refine go_loop (fun s:List Lk×Int×Nat=>abt (.bN 0 0) s.2.1 [i64 0,.aK] [i64 m,.slice (some 1036) 4 (s.1.map Lk.row)] s.1.length [dk l s.2.2])
  (fun s=>Rm m s.1 s.2.1∧(0≤s.2.1∧s.2.1<m)∧ed l s.2.2) (fun s=>(m-s.2.1).toNat) ([],0,k1) rfl (by simp) ⟨⟨by simp,by simp,by simp⟩,by simp only;omega,ji⟩ ?_
 rintro⟨ls,n,k⟩ ⟨h1,h2,hd⟩;simp only at h1 h2 hd;have kn:=h1.len;obtain⟨b,k2,n2,gz,hb⟩:=gL hd 6 (by omega)
 simp +contextual (disch:=omega) [-getElem?_pos,-List.length_eq_zero_iff,-Int.natCast_eq_zero,wrap64,RV];refine b9 (fun h6=>?_) (fun h6=>?_)
 ·by_cases h7:0<b
  ·obtain⟨e,k3,n3,mX,he⟩:=gL gz (m-n-1) (by omega)
   obtain⟨r,k4,n4,rF,po,oJ⟩:=ajB mX;simp +contextual (disch:=omega) [-getElem?_pos,-List.length_eq_zero_iff,-Int.natCast_eq_zero,wrap64,n2,h7,n3,n4];exact cc (ls++[⟨n,n+1+e,r⟩],n+1,k4) (by simp) ⟨h1.snoc h2.1 rfl (by simp only;omega) (by simp only;omega) po oJ,by simp only;omega,rF⟩ (by simp only;omega)
  ·simp +contextual (disch:=omega) [-getElem?_pos,-List.length_eq_zero_iff,-Int.natCast_eq_zero,wrap64,n2,h7]
   exact cc (ls,n+1,k2) (by simp) ⟨h1.skip,by simp only;omega,gz⟩ (by simp only;omega)
 ·refine hQ ⟨m,ls⟩ k hd (h1.lr (by omega)) (by simp only;omega) fun i hi=>(h1.link i hi).2.2.2.2.2
end Go.Proofs.YtmpikpodpgnjhaaGreat
namespace Go.Proofs.YtmpikpodpgnjhaaGreat
set_option linter.all false
open Go.Vm
attribute [local simp] eS eT eQ eR
structure Cm(c:Cs):Prop where
 lr:gx c=0
 n:c.r.n≤6
 s:c.s.length≤3
 w:∀i,i<c.r.l.length→(nth c.r.l i).r.w.length≤5
theorem Cm.small{c:Cs}(h:Cm c):oq c.r:=by
 have:=(m9 (ot h.lr).k).len;exact⟨by omega,fun i hi=>by have:=h.w i hi;omega⟩
structure Sm(m:Int)(s:List Si)(l:List Ds)(n:Int):Prop where
 len:l.length=s.length
 three:s.length≤3
 site:∀i,i<s.length→(0≤(nth s i).n∧(nth s i).n<m∧(nth s i).n<n)∧fB (nth s i).d=0∧hH (nth s i).d (nth l i)
 up:∀i,0<i→i<s.length→(nth s (i-1)).n<(nth s i).n
abbrev HV(l:List Si):V:=.slice (some 0) 10 (l.map Si.row)
abbrev HW(l:List Ds):V:=.slice (some 0) 4 (l.map Ds.row)
theorem Sm.snoc{m:Int}{s:List Si}{l:List Ds}{n:Int}(h:Sm m s l n)(h3:s.length<3)(hn:0≤n∧n<m){d:Dm}{x:Ds}(h1:fB d=0)(h2:hH d x):Sm m (s++[⟨n,d⟩]) (l++[x]) (n+1):=by
 refine⟨by simp[h.len],by simp;omega,fun i hi=>?_,fun i h0 hi=>?_⟩
 ·simp at hi
  rw[iW,iW,h.len];split
  ·have:=h.site i (by assumption)
   exact⟨by omega,this.2⟩
  ·rw[if_pos (by omega),if_pos (by omega)];exact⟨by simp only;omega,h1,h2⟩
 ·simp at hi
  rw[iW,iW,if_pos (by omega)]
  split
  ·exact h.up i h0 (by assumption)
  ·rw[if_pos (by omega)]
   exact(h.site (i-1) (by omega)).1.2.2
theorem Sm.skip{m:Int}{s:List Si}{l:List Ds}{n:Int}(h:Sm m s l n):Sm m s l (n+1) :=
 ⟨h.len,h.three,fun i hi=>⟨by have:=h.site i hi;omega,(h.site i hi).2⟩,h.up⟩
theorem Sm.lr{r:Rr}{s:List Si}{l:List Ds}{n:Int}(h:Sm r.n s l n)(hk:jN r=0)(h6:r.n≤6):gx ⟨r,s⟩=0:=by
 unfold gx;simp only;have h3:=h.three;rw[if_neg (by omega),if_neg (by omega),if_neg (by omega)]
 refine rD fun i _ hi=>?_;have hi:i<s.length:=by omega
 have a:=h.site i hi;show(if 0≤(nth s i).n∧(nth s i).n<r.n then (if 0<i∧(nth s i).n≤(nth s (i-1)).n then 4 else fB (nth s i).d) else 41)=0
 rw[if_pos (by omega),if_neg (fun g=>by have:=h.up i g.1 hi;omega)]
 exact a.2.1
theorem ajD{l:List Int}{k:Nat}(hd:ed l k):∃c s k',bo F 52 [.bN 0 0] [dk l k]=some (.tuple [.agg [i64 c.r.n,nN c.r.l,HV c.s],HW s],[dk l k'])∧ed l k'∧Cm c∧mI c s:=by
 suffices h:∀Q:V→List aV→Prop,(∀c s k',ed l k'→Cm c→mI c s→Q (.tuple [.agg [i64 c.r.n,nN c.r.l,HV c.s],HW s]) [dk l k'])→iV (bo F) 52 [.bN 0 0] [dk l k] Q by
  obtain⟨_,_,h,c,s,k',rfl,rfl,h1⟩:=h (fun v G=>∃c s k',v=.tuple [.agg [i64 c.r.n,nN c.r.l,HV c.s],HW s]∧G=[dk l k']∧ed l k'∧Cm c∧mI c s) fun c s k' a b d=>⟨c,s,k',rfl,rfl,a,b,d⟩;exact⟨c,s,k',h,h1⟩
 intro Q hQ;refine ju rfl rfl ?_;obtain⟨r,k1,n1,ji,hk,hn,hw⟩:=ajC hd;have jn:=(m9 hk).n;simp +contextual (disch:=omega) [-getElem?_pos,-List.length_eq_zero_iff,-Int.natCast_eq_zero,wrap64,KJ,n1];refine go_loop (fun s:List Si×List Ds×Int×Nat=>aay (.bN 0 0) (.slice (some 1043) 4 (s.2.1.map Ds.row)) s.2.2.1 [i64 0,.aK,.aK] [i64 r.n,nN r.l,.slice (some 1039) 10 (s.1.map Si.row)] s.1.length s.2.1.length [dk l s.2.2.2])
  (fun s=>Sm r.n s.1 s.2.1 s.2.2.1∧(0≤s.2.2.1∧s.2.2.1≤r.n)∧ed l s.2.2.2) (fun s=>(r.n-s.2.2.1).toNat) ([],[],0,k1) rfl (by simp) ⟨⟨rfl,by simp,by simp,by simp⟩,by simp only;omega,ji⟩ ?_
 rintro⟨s,d,n,k⟩ ⟨h1,h2,hd⟩;simp only at h1 h2 hd;have h3:=h1.three;have hl:=h1.len;have fin:Q (.tuple [.agg [i64 r.n,nN r.l,HV s],HW d]) [dk l k]:=hQ ⟨r,s⟩ d k hd ⟨h1.lr hk hn,hn,h3,hw⟩ ⟨hl,fun i hi=>(h1.site i hi).2⟩;by_cases h4:n<r.n
 ·by_cases h5:s.length<3
  ·have wa:(s.length:Int)<3:=by omega
   obtain⟨b,k2,n2,gz,hb⟩:=gL hd 2 (by omega)
   by_cases h6:b=0
   ·obtain⟨dd,x,k3,n3,mX,tX⟩:=aiB gz
    simp +contextual (disch:=omega) [-getElem?_pos,-List.length_eq_zero_iff,-Int.natCast_eq_zero,wrap64,Dt,h4,wa,n2,h6,n3];exact cc (s++[⟨n,dd⟩],d++[x],n+1,k3) (by simp[hl]) ⟨h1.snoc h5 (by omega) tX.lr tX.fit,by simp only;omega,mX⟩ (by simp only;omega)
   ·simp +contextual (disch:=omega) [-getElem?_pos,-List.length_eq_zero_iff,-Int.natCast_eq_zero,wrap64,Dt,h4,wa,n2,h6]
    exact cc (s,d,n+1,k2) (by simp) ⟨h1.skip,by simp only;omega,gz⟩ (by simp only;omega)
  ·have wa:¬ (s.length:Int)<3:=by omega
   simp +contextual (disch:=omega) [-getElem?_pos,-List.length_eq_zero_iff,-Int.natCast_eq_zero,wrap64,Dt,h4,wa];exact fin
 ·simp +contextual (disch:=omega) [-getElem?_pos,-List.length_eq_zero_iff,-Int.natCast_eq_zero,wrap64,Dt,h4]
  exact fin
theorem VB{l:List Int}{k:Nat}(hd:ed l k){c:Cs}(hn:1≤c.r.n∧c.r.n≤40)(hs:c.s.length≤10) :
  ∃p k',bo F 16 [.bN 0 0,cs c] [dk l k]=some (.agg [uV p.a,uV p.b,uV p.c],[dk l k'])∧ed l k'∧nO c p∧fN p.a 30∧fN p.b 30∧fN p.c 30:=by
 suffices h:∀Q:V→List aV→Prop,(∀p k',ed l k'→nO c p→fN p.a 30→fN p.b 30→fN p.c 30→Q (.agg [uV p.a,uV p.b,uV p.c]) [dk l k'])→iV (bo F) 16 [.bN 0 0,cs c] [dk l k] Q by
  obtain⟨_,_,h,p,k',rfl,rfl,h1⟩:=h (fun v G=>∃p k',v=.agg [uV p.a,uV p.b,uV p.c]∧G=[dk l k']∧ed l k'∧nO c p∧fN p.a 30∧fN p.b 30∧fN p.c 30) fun p k' a b d e g=>⟨p,k',rfl,rfl,a,b,d,e,g⟩;exact⟨p,k',h,h1⟩
 intro Q hQ;refine ju rfl rfl ?_;obtain⟨⟨n,r⟩,s⟩:=c;simp only at hn hs;have snoc:∀{a:List Int} {x:Int},fN a 30→(0≤x∧x≤30)→fN (a++[x]) 30:=fun h hx i hi=>by
  simp at hi;rw[iW];split
  ·exact h i (by assumption)
  ·rw[if_pos (by omega)];exact hx
 simp +contextual (disch:=omega) [-getElem?_pos,-List.length_eq_zero_iff,-Int.natCast_eq_zero,wrap64,KD];refine go_loop (fun y:List Int×Nat=>⟨[(0,.bN 0 0),(3,.bK 3 0),(4,.bK 4 0),(5,.bK 5 0),(8,i64 n),(9,i64 y.1.length)],[(3,[i64 n,nN r,rK s]),(4,[.aK,.aK,.aK]),(5,[.slice (some 1016) 1 (y.1.map fun n=>[i64 n]),.aK,.aK])],[(1016,y.1.length)],[dk l y.2]⟩)
  (fun y=>(y.1.length:Int)≤n∧fN y.1 30∧ed l y.2) (fun y=>(n-y.1.length).toNat) ([],k) rfl (by simp) ⟨by simp;omega,fun i hi=>by simp at hi,hd⟩ ?_
 rintro⟨a,k⟩ ⟨h1,h2,hd⟩;simp only at h1 h2 hd;obtain⟨x,k1,n1,ji,hx⟩:=gL hd 14 (by omega)
 simp +contextual (disch:=omega) [-getElem?_pos,-List.length_eq_zero_iff,-Int.natCast_eq_zero,wrap64,Re];refine b9 (fun h3=>?_) (fun h3=>?_)
 ·simp +contextual (disch:=omega) [-getElem?_pos,-List.length_eq_zero_iff,-Int.natCast_eq_zero,wrap64,n1]
  exact cc (a++[x],k1) (by simp) ⟨by simp;omega,snoc h2 (by omega),ji⟩ (by simp;omega)
 ·refine go_loop (fun y:List Int×List Int×Nat=>⟨[(0,.bN 0 0),(4,.bK 4 0),(5,.bK 5 0),(21,i64 s.length),(22,i64 y.1.length)],[(4,[.aK,.aK,.aK]),(5,[.slice (some 1016) 1 (a.map fun n=>[i64 n]),.slice (some 1029) 1 (y.1.map fun n=>[i64 n]),.slice (some 1035) 1 (y.2.1.map fun n=>[i64 n])])],[(1016,a.length),(1029,y.1.length),(1035,y.2.1.length)],[dk l y.2.2]⟩)
   (fun y=>y.1.length≤s.length∧y.2.1.length=y.1.length∧fN y.1 30∧fN y.2.1 30∧ed l y.2.2) (fun y=>s.length-y.1.length) ([],[],k) rfl (by simp) ⟨by simp,rfl,fun i hi=>by simp at hi,fun i hi=>by simp at hi,hd⟩ ?_
  rintro⟨b,d,k⟩ ⟨g1,g2,g3,g4,hd⟩;simp only at g1 g2 g3 g4 hd;obtain⟨x,k1,n1,ji,hx⟩:=gL hd 3 (by omega)
  obtain⟨y,k2,n2,gz,hy⟩:=gL ji 30 (by omega)
  simp +contextual (disch:=omega) [-getElem?_pos,-List.length_eq_zero_iff,-Int.natCast_eq_zero,wrap64,Rf];refine b9 (fun h4=>?_) (fun h4=>?_)
  ·simp +contextual (disch:=omega) [-getElem?_pos,-List.length_eq_zero_iff,-Int.natCast_eq_zero,wrap64,n1,n2,g2]
   exact cc (b++[x],d++[y],k2) (by simp[g2]) ⟨by simp;omega,by simp[g2],snoc g3 (by omega),snoc g4 (by omega),gz⟩ (by simp;omega)
  ·refine hQ ⟨a,b,d⟩ k hd ⟨by simp only;omega,by simp only;omega,by simp only;omega⟩ h2 g3 g4
end Go.Proofs.YtmpikpodpgnjhaaGreat
