/- Parts of the proof. -/
import Derived.Test.YtmppfkgfnnebeaaGreatDoorDe
import Derived.Test.YtmppfkgfnnebeaaGreatDoorDa
namespace Go.Proofs.YtmppfkgfnnebeaaGreatDoor
set_option linter.all false
open Go.Vm
def okF(A B C:List Int)(i:Nat):Prop:=(0≤nth A i∧nth A i≤1073741824)∧(0≤nth B i∧nth B i≤1073741824)∧(0≤nth C i∧nth C i≤1073741824)
instance {A B C:List Int} {i:Nat}:Decidable (okF A B C i):=inferInstanceAs (Decidable (_∧_∧_))
def okA(A B C:List Int):Prop:=∀i,i<A.length→okF A B C i
noncomputable instance {A B C:List Int}:Decidable (okA A B C):=Classical.propDecidable _
end Go.Proofs.YtmppfkgfnnebeaaGreatDoor
namespace Go.Proofs.YtmppfkgfnnebeaaGreatDoor
set_option linter.all false
open Go.Vm
attribute [local simp] lZ l7 lX lY
theorem auc(r:Dr)(ht:0≤r.tur∧r.tur≤1099511627776)(hs:0≤r.spi∧r.spi≤1099511627776)(ho:0≤r.ovr∧r.ovr≤1099511627776)(G:List aS):aZ F 60 [dr r] G=some (i64 (r.tur+r.spi+r.ovr),G) :=
 bM rfl rfl (by
  simp (disch:=omega) [wrap64,Rz])
def fa(l:List Int)(b:Int):Prop:=∀i,i<l.length→0≤nth l i∧nth l i≤b
noncomputable instance {l:List Int} {b:Int}:Decidable (fa l b):=Classical.propDecidable _
def sm(l:List Int):Nat→Int
 |0=>0
 |i+1=>sm l i+nth l i
theorem DX{l:List Int}{b:Int}:∀{i:Nat},(∀j,j<i→0≤nth l j∧nth l j≤b)→0≤sm l i∧sm l i≤b*i
 |0,_=>by simp[sm]
 |i+1,h=>by
  have:=DX fun j hj=>h j (V7 hj);have:=h i (by omega)
  have:b*((i+1:Nat):Int)=b*i+b:=by simp[Kb]
  simp only[sm];omega
structure Rc where
 w:List Int
 den:Int
 deriving Inhabited
abbrev Rc.row(r:Rc):List V:=[ints r.w,i64 r.den]
abbrev rc(r:Rc):V:=.agg r.row
abbrev wv(p:List Int):V:=.agg [ints p]
noncomputable def e7(r:Rc):Int :=
 if r.w.length=0∨nth r.w (r.w.length-1)=0 then 3 else if 24<r.w.length then 10 else if fa r.w 10000 then (if sm r.w r.w.length=r.den then 0 else 2) else 1
theorem yT(r:Rc)(hl:r.w.length≤17592186044416)(G:List aS):aZ F 150 [rc r] G=some (i64 (e7 r),G) :=
 bM rfl rfl (by
  obtain⟨w,den⟩:=r;simp only at hl;generalize hW:e7 ⟨w,den⟩=W;unfold e7 at hW;simp only at hW;by_cases h1:w.length=0
  ·rw[aM (.inl h1)]at hW
   have jm:(w.length:Int)=0:=by omega
   simp (disch:=omega) [-getElem?_pos,-Int.natCast_eq_zero,wrap64,IT,jm];exact hW
  have jm:¬ (w.length:Int)=0:=by omega
  by_cases h2:nth w (w.length-1)=0
  ·rw[aM (.inr h2)]at hW
   simp (disch:=omega) [-getElem?_pos,-Int.natCast_eq_zero,wrap64,IT,jm,ei (l:=w),h2];exact hW
  rw[ay (by omega)]at hW
  by_cases h3:24<w.length
  ·rw[aM h3]at hW
   have ja:(24:Int)<w.length:=by omega
   simp (disch:=omega) [-getElem?_pos,-Int.natCast_eq_zero,wrap64,IT,jm,ei (l:=w),h2,ja];exact hW
  rw[ay h3]at hW;have ja:¬ (24:Int)<w.length:=by omega
  simp (disch:=omega) [-getElem?_pos,-Int.natCast_eq_zero,wrap64,IT,jm,ei (l:=w),h2,ja];refine go_loop (fun i:Nat=>aoR (sm w i) (ints w) w.length i (Rc.row ⟨w,den⟩) G) (fun i=>i≤w.length∧∀j,j<i→0≤nth w j∧nth w j≤10000) (fun i=>w.length-i) 0 rfl (by simp[sm]) (by simp) ?_
  rintro i ⟨hi,hj⟩;have hs:=DX hj;simp (disch:=omega) [-getElem?_pos,-Int.natCast_eq_zero,wrap64,abE];refine bT (fun h5=>?_) (fun h5=>?_)
  ·have h5:i<w.length:=by omega
   by_cases h6:0≤nth w i∧nth w i≤10000
   ·have iz:(decide (0≤nth w i)&&decide (nth w i≤10000))=true:=by simp;exact h6
    simp (disch:=omega) [-getElem?_pos,-Int.natCast_eq_zero,wrap64,ei (l:=w),dJ,c7,iz];refine bP (i+1) (by simp[sm]) ⟨by omega,fun j h7=>?_⟩ (by omega)
    rcases cF j i with h8|h8
    ·exact hj j h8
    ·rwa [show j=i by omega]
   ·have iz:(decide (0≤nth w i)&&decide (nth w i≤10000))=false:=by simp;omega
    rw[ay (fun g:fa w 10000=>h6 (g i h5))]at hW;simp (disch:=omega) [-getElem?_pos,-Int.natCast_eq_zero,wrap64,ei (l:=w),dJ,c7,iz];exact hW
  ·obtain rfl:i=w.length:=by omega
   rw[aM (show fa w 10000 from hj)]at hW;by_cases h7:sm w w.length=den
   ·rw[aM h7]at hW
    simp (disch:=omega) [-getElem?_pos,-Int.natCast_eq_zero,wrap64,h7];exact hW
   ·rw[ay h7]at hW
    simp (disch:=omega) [-getElem?_pos,-Int.natCast_eq_zero,wrap64,h7];exact hW)
theorem yU(r:Rc)(hl:r.w.length≤17592186044416)(G:List aS):aZ F 140 [rc r] G=some (i64 (e7 r),G) :=
 bM rfl rfl (by
  obtain⟨w,den⟩:=r;simp only at hl;generalize hW:e7 ⟨w,den⟩=W;unfold e7 at hW;simp only at hW;by_cases h1:w.length=0
  ·rw[aM (.inl h1)]at hW
   have jm:(w.length:Int)=0:=by omega
   simp (disch:=omega) [-getElem?_pos,-Int.natCast_eq_zero,wrap64,IP,jm];exact hW
  have jm:¬ (w.length:Int)=0:=by omega
  by_cases h2:nth w (w.length-1)=0
  ·rw[aM (.inr h2)]at hW
   simp (disch:=omega) [-getElem?_pos,-Int.natCast_eq_zero,wrap64,IP,jm,ei (l:=w),h2];exact hW
  rw[ay (by omega)]at hW
  by_cases h3:24<w.length
  ·rw[aM h3]at hW
   have ja:(24:Int)<w.length:=by omega
   simp (disch:=omega) [-getElem?_pos,-Int.natCast_eq_zero,wrap64,IP,jm,ei (l:=w),h2,ja];exact hW
  rw[ay h3]at hW;have ja:¬ (24:Int)<w.length:=by omega
  simp (disch:=omega) [-getElem?_pos,-Int.natCast_eq_zero,wrap64,IP,jm,ei (l:=w),h2,ja];refine go_loop (fun i:Nat=>aox (sm w i) (ints w) w.length i (Rc.row ⟨w,den⟩) G) (fun i=>i≤w.length∧∀j,j<i→0≤nth w j∧nth w j≤10000) (fun i=>w.length-i) 0 rfl (by simp[sm]) (by simp) ?_
  rintro i ⟨hi,hj⟩;have hs:=DX hj;simp (disch:=omega) [-getElem?_pos,-Int.natCast_eq_zero,wrap64,abo];refine bT (fun h5=>?_) (fun h5=>?_)
  ·have h5:i<w.length:=by omega
   by_cases h6:0≤nth w i∧nth w i≤10000
   ·have iz:(decide (0≤nth w i)&&decide (nth w i≤10000))=true:=by simp;exact h6
    simp (disch:=omega) [-getElem?_pos,-Int.natCast_eq_zero,wrap64,ei (l:=w),dJ,c7,iz];refine bP (i+1) (by simp[sm]) ⟨by omega,fun j h7=>?_⟩ (by omega)
    rcases cF j i with h8|h8
    ·exact hj j h8
    ·rwa [show j=i by omega]
   ·have iz:(decide (0≤nth w i)&&decide (nth w i≤10000))=false:=by simp;omega
    rw[ay (fun g:fa w 10000=>h6 (g i h5))]at hW;simp (disch:=omega) [-getElem?_pos,-Int.natCast_eq_zero,wrap64,ei (l:=w),dJ,c7,iz];exact hW
  ·obtain rfl:i=w.length:=by omega
   rw[aM (show fa w 10000 from hj)]at hW;by_cases h7:sm w w.length=den
   ·rw[aM h7]at hW
    simp (disch:=omega) [-getElem?_pos,-Int.natCast_eq_zero,wrap64,h7];exact hW
   ·rw[ay h7]at hW
    simp (disch:=omega) [-getElem?_pos,-Int.natCast_eq_zero,wrap64,h7];exact hW)
def iB(r:Rc)(p:List Int):Prop:=p.length≤r.w.length∧(0<p.length→nth p (p.length-1)≠0)∧fa p 2251799813685248
noncomputable instance {r:Rc} {p:List Int}:Decidable (iB r p):=Classical.propDecidable _
theorem afG(r:Rc)(p:List Int)(hl:p.length≤17592186044416)(G:List aS):aZ F 197 [rc r,wv p] G=some (.bool (decide (iB r p)),G) :=
 bM rfl rfl (by
  obtain⟨w,den⟩:=r;generalize hW:decide (iB ⟨w,den⟩ p)=W;have no:¬ iB ⟨w,den⟩ p→W=false:=fun h=>by rw[←hW];simp[h]
  unfold iB at no;simp only at no;by_cases h1:(w.length:Int)<p.length
  ·simp +contextual (disch:=omega) [-getElem?_pos,wrap64,IZ,h1]
   exact no (by omega)
  by_cases h2:0<p.length∧nth p (p.length-1)=0
  ·have mW:(0:Int)<p.length:=by omega
   simp +contextual (disch:=omega) [-getElem?_pos,wrap64,IZ,h1,mW,ei (l:=p),h2.2];exact no (fun h=>h.2.1 h2.1 h2.2)
  rcases (by omega:(0:Int)<p.length∧nth p (p.length-1)≠0∨¬ (0:Int)<p.length) with⟨h3,h4⟩ | h3
  ·simp +contextual (disch:=omega) [-getElem?_pos,wrap64,IZ,h1,h3,ei (l:=p),h4]
   refine go_loop (fun i:Nat=>apx (ints p) p.length i G) (fun i=>i≤p.length∧∀j,j<i→0≤nth p j∧nth p j≤2251799813685248) (fun i=>p.length-i) 0 rfl (by simp) (by simp) ?_
   rintro i ⟨hi,hj⟩;simp +contextual (disch:=omega) [-getElem?_pos,wrap64,Sk];refine bT (fun h5=>?_) (fun h5=>?_)
   ·have h5:i<p.length:=by omega
    by_cases h6:0≤nth p i∧nth p i≤2251799813685248
    ·have iz:(decide (0≤nth p i)&&decide (nth p i≤2251799813685248))=true:=by simp;exact h6
     simp +contextual (disch:=omega) [-getElem?_pos,wrap64,ei (l:=p),dJ,c7,iz];refine bP (i+1) (by simp) ⟨by omega,fun j h7=>?_⟩ (by omega)
     rcases cF j i with h8|h8
     ·exact hj j h8
     ·rwa [show j=i by omega]
    ·have iz:(decide (0≤nth p i)&&decide (nth p i≤2251799813685248))=false:=by simp;omega
     simp +contextual (disch:=omega) [-getElem?_pos,wrap64,ei (l:=p),dJ,c7,iz];exact no (fun h=>h6 (h.2.2 i h5))
   ·obtain rfl:i=p.length:=by omega
    rw[←hW,jf (show iB ⟨w,den⟩ p from⟨by simp only;omega,fun h6 h7=>h2 ⟨h6,h7⟩,hj⟩)]
  ·obtain rfl:p=[]:=oo.1 (by omega)
   have jm:¬ (w.length:Int)<0:=by omega
   simp +contextual (disch:=omega) [-getElem?_pos,wrap64,IZ,jm];unfold aco;rw[vX];simp +contextual (disch:=omega) [-getElem?_pos,wrap64,Sk];rw[←hW,jf (show iB ⟨w,den⟩ [] from⟨by simp,by simp,fun i hi=>by simp at hi⟩)])
theorem afH(r:Rc)(hr:r.w.length≤17592186044416)(p:List Int)(hl:p.length≤17592186044416)(G:List aS):aZ F 99 [rc r,wv p] G=some (.bool (decide (e7 r=0∧iB r p)),G) :=
 bM rfl rfl (by
  have hc:=yU r hr;by_cases hz:e7 r=0
  ·rw[hz]at hc
   obtain⟨w,den⟩:=r;rw[show decide (e7 ⟨w,den⟩=0∧iB ⟨w,den⟩ p)=decide (iB ⟨w,den⟩ p) by simp[hz]]
   generalize hW:decide (iB ⟨w,den⟩ p)=W;have no:¬ iB ⟨w,den⟩ p→W=false:=fun h=>by rw[←hW];simp[h]
   unfold iB at no;simp only at no;by_cases h1:(w.length:Int)<p.length
   ·simp +contextual (disch:=omega) [-getElem?_pos,wrap64,Fz,hc,h1]
    exact no (by omega)
   by_cases h2:0<p.length∧nth p (p.length-1)=0
   ·have mW:(0:Int)<p.length:=by omega
    simp +contextual (disch:=omega) [-getElem?_pos,wrap64,Fz,hc,h1,mW,ei (l:=p),h2.2];exact no (fun h=>h.2.1 h2.1 h2.2)
   rcases (by omega:(0:Int)<p.length∧nth p (p.length-1)≠0∨¬ (0:Int)<p.length) with⟨h3,h4⟩ | h3
   ·simp +contextual (disch:=omega) [-getElem?_pos,wrap64,Fz,hc,h1,h3,ei (l:=p),h4]
    refine go_loop (fun i:Nat=>anq (ints p) p.length i G) (fun i=>i≤p.length∧∀j,j<i→0≤nth p j∧nth p j≤2251799813685248) (fun i=>p.length-i) 0 rfl (by simp) (by simp) ?_
    rintro i ⟨hi,hj⟩;simp +contextual (disch:=omega) [-getElem?_pos,wrap64,RK];refine bT (fun h5=>?_) (fun h5=>?_)
    ·have h5:i<p.length:=by omega
     by_cases h6:0≤nth p i∧nth p i≤2251799813685248
     ·have iz:(decide (0≤nth p i)&&decide (nth p i≤2251799813685248))=true:=by simp;exact h6
      simp +contextual (disch:=omega) [-getElem?_pos,wrap64,ei (l:=p),dJ,c7,iz];refine bP (i+1) (by simp) ⟨by omega,fun j h7=>?_⟩ (by omega)
      rcases cF j i with h8|h8
      ·exact hj j h8
      ·rwa [show j=i by omega]
     ·have iz:(decide (0≤nth p i)&&decide (nth p i≤2251799813685248))=false:=by simp;omega
      simp +contextual (disch:=omega) [-getElem?_pos,wrap64,ei (l:=p),dJ,c7,iz];exact no (fun h=>h6 (h.2.2 i h5))
    ·obtain rfl:i=p.length:=by omega
     rw[←hW,jf (show iB ⟨w,den⟩ p from⟨by simp only;omega,fun h6 h7=>h2 ⟨h6,h7⟩,hj⟩)]
   ·obtain rfl:p=[]:=oo.1 (by omega)
    have jm:¬ (w.length:Int)<0:=by omega
    simp +contextual (disch:=omega) [-getElem?_pos,wrap64,Fz,hc,jm];unfold aaI;rw[vX];simp +contextual (disch:=omega) [-getElem?_pos,wrap64,RK];rw[←hW,jf (show iB ⟨w,den⟩ [] from⟨by simp,by simp,fun i hi=>by simp at hi⟩)]
  ·generalize hW:decide (e7 r=0∧iB r p)=W
   simp +contextual (disch:=omega) [-getElem?_pos,wrap64,Fz,hc,hz];rw[←hW];simp[hz])
theorem aud(r:Rc)(hr:r.w.length≤17592186044416)(p:List Int)(hl:p.length≤17592186044416)(G:List aS):aZ F 167 [rc r,wv p] G=some (.bool (decide (e7 r=0∧iB r p)),G) :=
 bM rfl rfl (by
  have hc:=yT r hr;have hf:=afG r p hl;by_cases hz:e7 r=0
  ·simp[wrap64,Sb,hc,hf,hz]
  ·simp[wrap64,Sb,hc,hf,hz])
structure Rv(r:Rc):Prop where
 pos:1≤r.w.length
 len:r.w.length≤24
 last:nth r.w (r.w.length-1)≠0
 w:∀i,i<r.w.length→0≤nth r.w i∧nth r.w i≤10000
 sum:sm r.w r.w.length=r.den
 den:1≤r.den∧r.den≤240000
theorem wm{r:Rc}(h:e7 r=0):Rv r:=by
 unfold e7 at h;split at h
 ·cases h
 split at h
 ·cases h
 split at h
 ·rename_i h1 h2 h3
  split at h
  ·rename_i h4
   have h0:1≤r.w.length:=by omega
   have s1:=DX (l:=r.w) (b:=10000) (i:=r.w.length) h3;have s2:=DX (l:=r.w) (b:=10000) (i:=r.w.length-1) fun j hj=>h3 j (by omega)
   have s3:sm r.w r.w.length=sm r.w (r.w.length-1)+nth r.w (r.w.length-1):=by
    conv=>lhs;rw[show r.w.length=r.w.length-1+1 by omega]
    rfl
   have h5:=h3 (r.w.length-1) (by omega)
   exact⟨h0,by omega,by omega,h3,h4,by omega⟩
  ·cases h
 ·cases h
def rq(r:Rc)(p:List Int)(x:Int)(k:Nat):Int:=nth p k+x*nth r.w k
def wo(r:Rc)(p:List Int)(x:Int):Prop:=∀k,k<r.w.length→rq r p x k≤1125899906842624
noncomputable instance {r:Rc} {p:List Int} {x:Int}:Decidable (wo r p x):=Classical.propDecidable _
def mj(r:Rc)(p:List Int)(x:Int):Int:=rq r p x 0 / r.den
def rN(r:Rc)(p:List Int)(x:Int)(k:Nat):Int:=if k=0 then rq r p x 1+rq r p x 0 % r.den else rq r p x (k+1)
def mY(f:Nat→Int):Nat→Nat
 |0=>0
 |n+1=>if f n=0 then mY f n else n+1
def kN(r:Rc)(p:List Int)(x:Int):List Int:=(List.range (mY (rN r p x) r.w.length)).map (rN r p x)
theorem wq{l:List Int}{i:Nat}(h:l.length≤i):nth l i=0:=by
 simp[nth,List.getD,jT h]
theorem AG{r:Rc}(hr:Rv r){p:List Int}(hp:iB r p){x:Int}(hx:0≤x∧x≤1073741824)(k:Nat):0≤rq r p x k∧rq r p x k≤2262537232089088:=by
 have h1:0≤nth p k∧nth p k≤2251799813685248:=by
  rcases cF k p.length with h|h
  ·exact hp.2.2 k h
  ·rw[wq h];omega
 have h2:0≤nth r.w k∧nth r.w k≤10000:=by
  rcases cF k r.w.length with h|h
  ·exact hr.w k h
  ·rw[wq h];omega
 have h3:0≤x*nth r.w k:=Ea hx.1 h2.1;have h4:x*nth r.w k≤1073741824*10000:=GL hx.2 h2.2 h2.1 (by omega)
 unfold rq;omega
theorem afI{p:List Int}:(dD p).all V.sc=true:=by simp[dD,V.sc]
theorem afJ{p:List Int}{n:Nat}(h:p.length≤n):(dD p).take n++(eS n fun _=>0).drop p.length=eS n (nth p):=by
 rw[mo (by simpa using h)]
 apply wD;intro i;rcases cF i p.length with h1|h1
 ·rw[nG (by simpa using h1),l8 h1,pY (by omega)]
 ·rw[qg (by simpa using h1),akN,mn,show p.length+(i-p.length)=i by omega]
  rcases cF i n with h2|h2
  ·rw[pY h2,pY h2,wq h1]
  ·rw[jT (by simpa using h2),jT (by simpa using h2)]
theorem aue{n:Nat}{f:Nat→Int}:(List.take n (eS (n+1) f).tail).all V.sc=true:=by
 rw[g8];intro v hv;have:=List.mem_of_mem_tail (Cp hv);simp only[eS,kP]at this;obtain⟨j,_,rfl⟩:=this;rfl
theorem auf{n:Nat}{f:Nat→Int}:List.take (n+1) (List.take n (eS (n+1) f).tail)++List.drop n (eS (n+1) f)=eS (n+1) fun k=>if k<n then f (k+1) else f k:=by
 apply wD;intro i;have hl:(List.take n (eS (n+1) f).tail).length=n:=by simp
 rw[mo (by rw[hl];omega)]
 rcases cF i n with h|h
 ·rw[nG (by rw[hl];exact h),VW h,VV,pY (by omega),pY (by omega),aM h]
 ·rw[qg (by rw[hl];exact h),hl,mn,show n+(i-n)=i by omega]
  rcases cF i (n+1) with h2|h2
  ·rw[pY h2,pY h2,ay (by omega)]
  ·rw[jT (by simpa using h2),jT (by simpa using h2)]
theorem afK{n m:Nat}{f:Nat→Int}(h:m≤n):kc [none] (chunks 1 (eS n f) 0 m)=some ((List.range m).map fun j=>[V.int .i64 (f j)]):=by
 have e:(eS n f).take m=eS m f:=by
  apply wD;intro i;rcases cF i m with h1|h1
  ·rw[VW h1,pY (by omega),pY h1]
  ·rw[jT (by simp;omega),jT (by simpa using h1)]
 rw[Il _ _ _ rfl (by simpa using h),uY,e,eS,wG]
 exact LQ f _
theorem aug(r:Rc)(hr:Rv r)(p:List Int)(hp:iB r p)(x:Int)(hx:0≤x∧x≤1073741824)(G:List aS) :
  aZ F 226 [rc r,wv p,i64 x] G=some (.tuple (if wo r p x then [wv (kN r p x),i64 (mj r p x),.bool true] else [.agg [.slice (some 0) 1 []],i64 0,.bool false]),G) :=
 bM rfl rfl (by
  obtain⟨w,den⟩:=r;generalize hW:(V.tuple (if wo ⟨w,den⟩ p x then [wv (kN ⟨w,den⟩ p x),i64 (mj ⟨w,den⟩ p x),.bool true] else [.agg [.slice (some 0) 1 []],i64 0,.bool false]))=W
  have hlen:=hr.len;have gy:=hr.pos;have my:=hp.1;simp only at hlen gy my;have Uo:p.length≤w.length+1:=by omega
  have Up:∀k,k<w.length→0≤x*nth w k∧x*nth w k≤10737418240000:=fun k hk=>by
   have h2:=hr.w k hk;simp only at h2;have h3:0≤x*nth w k:=Ea hx.1 h2.1;have h4:x*nth w k≤1073741824*10000:=GL hx.2 h2.2 h2.1 (by omega)
   omega
  have Uq:∀k,0≤nth p k∧nth p k≤2251799813685248:=fun k=>by
   rcases cF k p.length with h|h
   ·exact hp.2.2 k h
   ·rw[wq h];omega
  simp (disch:=omega) [-getElem?_pos,wrap64,acV,Yl,afI,afJ Uo];refine go_loop (fun i:Nat=>apS x (w.length+1) (ints w) w.length i (Rc.row ⟨w,den⟩) [.cb] (eS (w.length+1) fun k=>if k<i then rq ⟨w,den⟩ p x k else nth p k) G) (fun i=>i≤w.length∧∀k,k<i→rq ⟨w,den⟩ p x k≤1125899906842624) (fun i=>w.length-i) 0 rfl (by simp) (by simp) ?_
  rintro i ⟨hi,hj⟩;simp (disch:=omega) [-getElem?_pos,wrap64,acU];refine bT (fun h5=>?_) (fun h5=>?_)
  ·have h5:i<w.length:=by omega
   have hq:=AG hr hp hx i;have ha:=Up i h5;have hb:=Uq i;have hf:(fun j=>if j=i then nth p i+x*nth w i else if j<i then rq ⟨w,den⟩ p x j else nth p j)=fun j=>if j<i+1 then rq ⟨w,den⟩ p x j else nth p j:=by
    funext j;by_cases h6:j=i
    ·subst h6;simp[rq]
    ·by_cases h7:j<i
     ·rw[ay h6,aM h7,aM (by omega)]
     ·rw[ay h6,ay h7,ay (by omega)]
   simp (disch:=omega) [-getElem?_pos,wrap64,ei (l:=w),pY,hf];refine bT (fun h7=>?_) (fun h7=>?_)
   ·rw[←hW,ay (fun g:wo ⟨w,den⟩ p x=>absurd (g i h5) (by omega))]
   ·refine bP (i+1) (by simp) ⟨by omega,fun k hk=>?_⟩ (by omega)
    rcases cF k i with h8|h8
    ·exact hj k h8
    ·rw[show k=i by omega];omega
  ·obtain rfl:i=w.length:=by omega
   rw[aM (show wo ⟨w,den⟩ p x from hj)]at hW;have hf:(eS (w.length+1) fun k=>if k<w.length then rq ⟨w,den⟩ p x k else nth p k)=eS (w.length+1) (rq ⟨w,den⟩ p x):=Qu fun k hk=>by
    by_cases h6:k<w.length
    ·rw[aM h6]
    ·rw[ay h6,show k=w.length by omega];simp[rq,wq (bV w.length)]
   have hd:=hr.den;simp only at hd;have JQ:¬ den=0:=by omega
   have q0:=AG hr hp hx 0;have q1:=AG hr hp hx 1;have d1:(rq ⟨w,den⟩ p x 0).tdiv den=rq ⟨w,den⟩ p x 0 / den:=xT q0.1;have d2:(rq ⟨w,den⟩ p x 0).tmod den=rq ⟨w,den⟩ p x 0 % den:=VH q0.1;have d3:0≤rq ⟨w,den⟩ p x 0 / den:=GI q0.1 (by omega)
   have d4:rq ⟨w,den⟩ p x 0 / den≤rq ⟨w,den⟩ p x 0:=Ka _ q0.1;have d5:0≤rq ⟨w,den⟩ p x 0 % den:=On _ JQ;have d6:rq ⟨w,den⟩ p x 0 % den<den:=Om _ (by omega)
   have hg:(eS (w.length+1) fun k=>if k<w.length then (if k=0 then rq ⟨w,den⟩ p x 1+rq ⟨w,den⟩ p x 0 % den else rq ⟨w,den⟩ p x (k+1)) else (if k=1 then rq ⟨w,den⟩ p x 1+rq ⟨w,den⟩ p x 0 % den else rq ⟨w,den⟩ p x k)) =
     eS (w.length+1) fun k=>if k<w.length then rN ⟨w,den⟩ p x k else (if k=1 then rq ⟨w,den⟩ p x 1+rq ⟨w,den⟩ p x 0 % den else rq ⟨w,den⟩ p x k):=Qu fun k hk=>by
    by_cases h6:k<w.length
    ·rw[aM h6,aM h6];rfl
    ·rw[ay h6,ay h6]
   simp (disch:=omega) [-getElem?_pos,wrap64,hf,pY,JQ,d1,d2,aue,auf,hg];generalize hh:(fun k=>if k<w.length then rN ⟨w,den⟩ p x k else (if k=1 then rq ⟨w,den⟩ p x 1+rq ⟨w,den⟩ p x 0 % den else rq ⟨w,den⟩ p x k))=h
   have Ur:∀k,k<w.length→h k=rN ⟨w,den⟩ p x k:=fun k hk=>by rw[←hh];exact aM hk
   refine go_loop (fun m:Nat=>apU m (rq ⟨w,den⟩ p x 0 / den) [.cb] (eS (w.length+1) h) G) (fun m=>m≤w.length∧mY (rN ⟨w,den⟩ p x) m=mY (rN ⟨w,den⟩ p x) w.length) (fun m=>m) w.length rfl (by simp) (by simp) ?_
   rintro m ⟨hm,ht⟩;cases m with
   |zero =>
    simp (disch:=omega) [-getElem?_pos,wrap64,My,afK];rw[←hW,wv,kN,← ht];rfl
   |succ m =>
    by_cases h8:rN ⟨w,den⟩ p x m=0
    ·simp (disch:=omega) [-getElem?_pos,wrap64,My,pY,Ur m hm,h8]
     exact bP m (by simp) ⟨by omega,by rw[←ht,mY,aM h8]⟩ (by omega)
    ·simp (disch:=omega) [-getElem?_pos,wrap64,My,pY,Ur m hm,h8,afK]
     rw[←hW,wv,kN,← ht,mY,ay h8,ints,wG];have e:(List.range (m+1)).map (fun j=>[V.int .i64 (h j)])=(List.range (m+1)).map ((fun n=>[i64 n])∘rN ⟨w,den⟩ p x) :=
      Ee fun j hj=>by rw[Ur j (by have:=Ef.1 hj;omega)];rfl
     rw[e];rfl)
theorem auh{n:Nat}{f g:Nat→Int}(h:∀k,k<n→f (k+1)=g k):(List.take (n+1) ((List.range (n+1)).map fun j=>[V.int .i64 (f j)])).tail=(List.range n).map fun k=>[V.int .i64 (g k)]:=by
 rw[mo (by simp)]
 apply wD;intro i;rw[VV];rcases cF i n with h1|h1
 ·simp[h1,h i h1]
 ·rw[jT (by simp;omega),jT (by simpa using h1)]
theorem afL{n i:Nat}(h:i<n):(List.range n)[i]?=some i:=by simp[h]
theorem aui{n:Nat}{g:Nat→Int}:List.take n ((List.range (n+1)).map fun k=>[V.int .i64 (g k)])=(List.range n).map fun k=>[V.int .i64 (g k)]:=by
 rw[←GX,List.take_range,wI (by omega)]
theorem auj(r:Rc)(hr:Rv r)(p:List Int)(hp:iB r p)(x:Int)(G:List aS) :
  aZ F 105 [rc r,wv p,i64 x] G=some (.tuple (if (0≤x∧x≤1073741824)∧wo r p x then [wv (kN r p x),i64 (mj r p x),i64 0] else [.agg [.slice (some 0) 1 []],i64 0,i64 1]),G) :=
 bM rfl rfl (by
  obtain⟨w,den⟩:=r;generalize hW:(V.tuple (if (0≤x∧x≤1073741824)∧wo ⟨w,den⟩ p x then [wv (kN ⟨w,den⟩ p x),i64 (mj ⟨w,den⟩ p x),i64 0] else [.agg [.slice (some 0) 1 []],i64 0,i64 1]))=W
  have hlen:=hr.len;have gy:=hr.pos;have my:=hp.1;simp only at hlen gy my;by_cases hx:0≤x∧x≤1073741824
  case neg =>
   have sG:(decide (0≤x)&&decide (x≤1073741824))=false:=by simp;omega
   simp (disch:=omega) [-getElem?_pos,wrap64,RQ,c7,sG];rw[←hW,ay (fun g=>hx g.1)]
  have sG:(decide (0≤x)&&decide (x≤1073741824))=true:=by simp;exact hx
  have Uo:p.length≤w.length+1:=by omega
  have Up:∀k,k<w.length→0≤x*nth w k∧x*nth w k≤10737418240000:=fun k hk=>by
   have h2:=hr.w k hk;simp only at h2;have h3:0≤x*nth w k:=Ea hx.1 h2.1;have h4:x*nth w k≤1073741824*10000:=GL hx.2 h2.2 h2.1 (by omega)
   omega
  have Uq:∀k,0≤nth p k∧nth p k≤2251799813685248:=fun k=>by
   rcases cF k p.length with h|h
   ·exact hp.2.2 k h
   ·rw[wq h];omega
  simp (disch:=omega) [-getElem?_pos,wrap64,RQ,c7,sG,Yl,afI,afJ Uo];refine go_loop (fun i:Nat=>anJ x (w.length+1) (ints w) w.length i (Rc.row ⟨w,den⟩) [.cb] (eS (w.length+1) fun k=>if k<i then rq ⟨w,den⟩ p x k else nth p k) G) (fun i=>i≤w.length∧∀k,k<i→rq ⟨w,den⟩ p x k≤1125899906842624) (fun i=>w.length-i) 0 rfl (by simp) (by simp) ?_
  rintro i ⟨hi,hj⟩;simp (disch:=omega) [-getElem?_pos,wrap64,aaQ];refine bT (fun h5=>?_) (fun h5=>?_)
  ·have h5:i<w.length:=by omega
   have hq:=AG hr hp hx i;have ha:=Up i h5;have hb:=Uq i;have hf:(fun j=>if j=i then nth p i+x*nth w i else if j<i then rq ⟨w,den⟩ p x j else nth p j)=fun j=>if j<i+1 then rq ⟨w,den⟩ p x j else nth p j:=by
    funext j;by_cases h6:j=i
    ·subst h6;simp[rq]
    ·by_cases h7:j<i
     ·rw[ay h6,aM h7,aM (by omega)]
     ·rw[ay h6,ay h7,ay (by omega)]
   simp (disch:=omega) [-getElem?_pos,wrap64,ei (l:=w),pY,hf];refine bT (fun h7=>?_) (fun h7=>?_)
   ·rw[←hW,ay (fun g=>absurd (g.2 i h5) (by omega))]
   ·refine bP (i+1) (by simp) ⟨by omega,fun k hk=>?_⟩ (by omega)
    rcases cF k i with h8|h8
    ·exact hj k h8
    ·rw[show k=i by omega];omega
  ·obtain rfl:i=w.length:=by omega
   rw[aM ⟨hx,show wo ⟨w,den⟩ p x from hj⟩]at hW;have hf:(eS (w.length+1) fun k=>if k<w.length then rq ⟨w,den⟩ p x k else nth p k)=eS (w.length+1) (rq ⟨w,den⟩ p x):=Qu fun k hk=>by
    by_cases h6:k<w.length
    ·rw[aM h6]
    ·rw[ay h6,show k=w.length by omega];simp[rq,wq (bV w.length)]
   have hd:=hr.den;simp only at hd;have JQ:¬ den=0:=by omega
   have q0:=AG hr hp hx 0;have q1:=AG hr hp hx 1;have d1:(rq ⟨w,den⟩ p x 0).tdiv den=rq ⟨w,den⟩ p x 0 / den:=xT q0.1;have d2:(rq ⟨w,den⟩ p x 0).tmod den=rq ⟨w,den⟩ p x 0 % den:=VH q0.1;have d3:0≤rq ⟨w,den⟩ p x 0 / den:=GI q0.1 (by omega)
   have d4:rq ⟨w,den⟩ p x 0 / den≤rq ⟨w,den⟩ p x 0:=Ka _ q0.1;have d5:0≤rq ⟨w,den⟩ p x 0 % den:=On _ JQ;have d6:rq ⟨w,den⟩ p x 0 % den<den:=Om _ (by omega)
   have hg:∀k,k<w.length→(if k+1=1 then rq ⟨w,den⟩ p x 1+rq ⟨w,den⟩ p x 0 % den else rq ⟨w,den⟩ p x (k+1))=rN ⟨w,den⟩ p x k:=fun k hk=>by
    unfold rN;by_cases h7:k=0
    ·rw[aM h7,aM (by omega)]
    ·rw[ay h7,ay (by omega)]
   simp (disch:=omega) [-getElem?_pos,wrap64,hf,pY,JQ,d1,d2];rw[auh (f:=fun j=>if j=1 then rq ⟨w,den⟩ p x 1+rq ⟨w,den⟩ p x 0 % den else rq ⟨w,den⟩ p x j) hg]
   refine go_loop (fun m:Nat=>⟨[(6,.bJ 6 0),(9,.slice none 1 ((List.range m).map fun k=>[V.int .i64 (rN ⟨w,den⟩ p x k)])),(12,i64 (rq ⟨w,den⟩ p x 0 / den))],[(6,[.cb])],[],G⟩) (fun m=>m≤w.length∧mY (rN ⟨w,den⟩ p x) m=mY (rN ⟨w,den⟩ p x) w.length) (fun m=>m) w.length rfl (by simp) (by simp) ?_
   rintro m ⟨hm,ht⟩;cases m with
   |zero =>
    simp (disch:=omega) [-getElem?_pos,wrap64,Mj];rw[←hW,wv,kN,← ht];rfl
   |succ m =>
    by_cases h8:rN ⟨w,den⟩ p x m=0
    ·simp (disch:=omega) [-getElem?_pos,wrap64,Mj,afL,h8,aui]
     exact bP m (by simp) ⟨by omega,by rw[←ht,mY,aM h8]⟩ (by omega)
    ·simp (disch:=omega) [-getElem?_pos,wrap64,Mj,afL,h8]
     rw[←hW,wv,kN,← ht,mY,ay h8,ints,wG];rfl)
noncomputable def gI(r:Rc)(p:List Int)(x:Int):Int:=if e7 r≠0 then e7 r else if iB r p then (if (0≤x∧x≤1073741824)∧wo r p x then 0 else 1) else 3
abbrev rsX(t:Option Nat)(e:Int):V:=.tuple [.agg [.slice t 1 []],i64 0,i64 e]
noncomputable def Gb(t:Option Nat)(r:Rc)(p:List Int)(x:Int):V:=if gI r p x=0 then .tuple [wv (kN r p x),i64 (mj r p x),i64 0] else rsX t (gI r p x)
theorem DY{t:Option Nat}{r:Rc}{p:List Int}{x e:Int}(h:gI r p x=e)(he:e≠0):Gb t r p x=rsX t e:=by
 unfold Gb;rw[h,ay he]
theorem JR{t:Option Nat}{r:Rc}{p:List Int}{x:Int}(h:gI r p x=0):Gb t r p x=.tuple [wv (kN r p x),i64 (mj r p x),i64 0]:=by
 unfold Gb;rw[aM h]
theorem auk(r:Rc)(hr:r.w.length≤17592186044416)(p:List Int)(hl:p.length≤17592186044416)(G:List aS):aZ F 104 [rc r,wv p] G=some (i64 (if e7 r≠0 then e7 r else if iB r p then 0 else 3),G) :=
 bM rfl rfl (by
  have hc:=yU r hr;have hv:=afH r hr p hl;generalize hW:(if e7 r≠0 then e7 r else if iB r p then (0:Int) else 3)=W
  by_cases hz:e7 r=0
  ·rw[ay (by omega)]at hW
   by_cases hf:iB r p
   ·rw[aM hf]at hW
    simp[wrap64,Mi,hc,hv,hz,hf];exact hW
   ·rw[ay hf]at hW
    simp[wrap64,Mi,hc,hv,hz,hf];exact hW
  ·rw[aM hz]at hW
   simp[wrap64,Mi,hc,hv,hz];exact hW)
theorem aul(r:Rc)(hr:r.w.length≤17592186044416)(p:List Int)(hl:p.length≤17592186044416)(x:Int):∃t,∀(G:List aS),aZ F 61 [rc r,wv p,i64 x] G=some (Gb t r p x,G):=by
 refine⟨if e7 r=0∧iB r p then none else some 0,fun G=>bM rfl rfl ?_⟩
 have hw:=auk r hr p hl;by_cases hz:e7 r=0
 ·rw[ay (by omega)]at hw
  by_cases hf:iB r p
  ·rw[aM hf]at hw
   rw[aM ⟨hz,hf⟩];have hs:=auj r (wm hz) p hf x;by_cases hp:(0≤x∧x≤1073741824)∧wo r p x
   ·rw[aM hp]at hs
    rw[JR (by unfold gI;rw[ay (by omega),aM hf,aM hp])]
    simp[wrap64,IE,hw,hs]
   ·rw[ay hp]at hs
    rw[DY (e:=1) (by unfold gI;rw[ay (by omega),aM hf,ay hp]) (by decide)]
    simp[wrap64,IE,hw,hs]
  ·rw[ay hf]at hw
   rw[ay (fun g=>hf g.2),DY (e:=3) (by unfold gI;rw[ay (by omega),ay hf]) (by decide)]
   simp[wrap64,IE,hw]
 ·rw[aM hz]at hw
  rw[ay (fun g=>hz g.1),DY (e:=e7 r) (by unfold gI;rw[aM hz]) hz]
  simp[wrap64,IE,hw,hz]
theorem aum(r:Rc)(hr:r.w.length≤17592186044416)(p:List Int)(hl:p.length≤17592186044416)(x:Int)(G:List aS) :
  aZ F 218 [rc r,wv p,.slice none 1 [[i64 x]]] G=some (.tuple (if gI r p x=0 then [wv (kN r p x),.slice (some 0) 1 [[i64 (mj r p x)]],i64 0] else [.agg [.slice (some 0) 1 []],.slice (some 0) 1 [],i64 (gI r p x)]),G) :=
 bM rfl rfl (by
  have hc:=yT r hr;have yV:=afG r p hl;generalize hW:(V.tuple (if gI r p x=0 then [wv (kN r p x),.slice (some 0) 1 [[i64 (mj r p x)]],i64 0] else [.agg [.slice (some 0) 1 []],.slice (some 0) 1 [],i64 (gI r p x)]))=W
  by_cases hz:e7 r=0
  ·by_cases hf:iB r p
   ·have hs:=aug r (wm hz) p hf x
    have my:p.length≤24:=by have:=hf.1;have:=(wm hz).len;omega
    by_cases hx:0≤x∧x≤1073741824
    ·have sG:(decide (0≤x)&&decide (x≤1073741824))=true:=by simp;exact hx
     replace hs:=fun G=>hs hx G;by_cases hp:wo r p x
     ·rw[aM (show gI r p x=0 by unfold gI;rw[ay (by omega),aM hf,aM ⟨hx,hp⟩])]at hW
      rw[aM hp]at hs;simp (disch:=omega) [wrap64,FE,Mx,Mw,hc,yV,hz,hf,dJ,sG,hs,vX];exact hW
     ·rw[show gI r p x=1 by unfold gI;rw[ay (by omega),aM hf,ay (fun g=>hp g.2)],ay (by decide)]at hW
      rw[ay hp]at hs;simp (disch:=omega) [wrap64,FE,Mx,Mw,hc,yV,hz,hf,dJ,sG,hs,vX];exact hW
    ·have sG:(decide (0≤x)&&decide (x≤1073741824))=false:=by simp;omega
     simp (disch:=omega) [wrap64,FE,Mx,Mw,hc,yV,hz,hf,dJ,sG,vX];rw[show gI r p x=1 by unfold gI;rw[ay (by omega),aM hf,ay (fun g=>hx g.1)],ay (by decide)]at hW
     exact hW
   ·rw[show gI r p x=3 by unfold gI;rw[ay (by omega),ay hf],ay (by decide)]at hW
    simp (disch:=omega) [wrap64,FE,hc,yV,hz,hf];exact hW
  ·rw[show gI r p x=e7 r by unfold gI;rw[aM hz],ay hz]at hW
   simp (disch:=omega) [wrap64,FE,hc,yV,hz];exact hW)
theorem afN(r:Rc)(hr:r.w.length≤17592186044416)(p:List Int)(hl:p.length≤17592186044416)(x:Int)(G:List aS):aZ F 205 [rc r,wv p,i64 x] G=some (Gb (some 0) r p x,G) :=
 bM rfl rfl (by
  have hs:=aum r hr p hl x;by_cases he:gI r p x=0
  ·rw[aM he]at hs
   rw[JR he];simp[wrap64,Sl,hs]
  ·rw[ay he]at hs
   rw[DY rfl he];simp[wrap64,Sl,hs,he])
structure Lk where
 f:Int
 t:Int
 r:Rc
 deriving Inhabited
abbrev Lk.row(l:Lk):List V:=[i64 l.f,i64 l.t,ints l.r.w,i64 l.r.den]
structure Rr where
 n:Int
 l:List Lk
abbrev od(l:List Lk):V:=.slice none 4 (l.map Lk.row)
abbrev Rr.row(r:Rr):List V:=[i64 r.n,od r.l]
abbrev rr(r:Rr):V:=.agg r.row
noncomputable def lE(r:Rr)(i:Nat):Int :=
 let l:=nth r.l i
 if (0≤l.f∧l.f≤r.n-1)∧(0≤l.t∧l.t≤r.n-1) then (if l.t≤l.f then 12 else if 0<i∧l.f≤(nth r.l (i-1)).f then 4 else e7 l.r) else 11
noncomputable def jR(r:Rr):Int:=if r.n<1∨40<r.n then 3 else dH (lE r) r.l.length 0
def lh(r:Rr):Prop:=r.l.length≤17592186044416∧∀i,i<r.l.length→(nth r.l i).r.w.length≤17592186044416
theorem rT{n:Int}{l:List Lk}(h:1≤n)(h2:n≤40)(x:Int)(G:List aS):aZ F 149 [.agg [i64 n,od l],i64 x] G=some (.bool (decide (0≤x)&&decide (x≤n-1)),G) :=
 bM rfl rfl (by simp (disch:=omega) [wrap64,abD,dJ])
theorem Uu(r:Rr)(hr:lh r)(G:List aS):aZ F 106 [rr r] G=some (i64 (jR r),G) :=
 bM rfl rfl (by
  obtain⟨n,l⟩:=r;generalize hW:jR ⟨n,l⟩=W;unfold jR at hW;simp only at hW;obtain⟨hl,hw⟩:=hr;simp only at hl hw;by_cases h1:n<1
  ·rw[aM (.inl h1)]at hW
   simp (disch:=omega) [-getElem?_pos,wrap64,Ml,h1];exact hW
  by_cases h2:40<n
  ·rw[aM (.inr h2)]at hW
   simp (disch:=omega) [-getElem?_pos,wrap64,Ml,h1,h2];exact hW
  rw[ay (by omega)]at hW
  have h1n:1≤n:=by omega
  have h2n:n≤40:=by omega
  simp (disch:=omega) [-getElem?_pos,wrap64,Ml,h1,h2];refine go_loop (fun i:Nat=>anN (od l) l.length i (Rr.row ⟨n,l⟩) G) (fun i=>i≤l.length∧dH (lE ⟨n,l⟩) (l.length-i) i=W) (fun i=>l.length-i) 0 rfl (by simp) ⟨by omega,hW⟩ ?_
  rintro i ⟨hi,hq⟩;simp (disch:=omega) [-getElem?_pos,wrap64,aaR];refine bT (fun h5=>?_) (fun h5=>?_)
  ·have h5:i<l.length:=by omega
   rw[kZ h5]at hq;have hE:lE ⟨n,l⟩ i=if (0≤(nth l i).f∧(nth l i).f≤n-1)∧(0≤(nth l i).t∧(nth l i).t≤n-1) then (if (nth l i).t≤(nth l i).f then 12 else if 0<i∧(nth l i).f≤(nth l (i-1)).f then 4 else e7 (nth l i).r) else 11:=rfl
   by_cases a1:0≤(nth l i).f∧(nth l i).f≤n-1
   case neg =>
    have ml:(decide (0≤(nth l i).f)&&decide ((nth l i).f≤n-1))=false:=by simp;omega
    rw[ay (fun g=>a1 g.1)]at hE;rw[hE,ay (by decide)]at hq
    simp (disch:=omega) [-getElem?_pos,wrap64,bf (l:=l),rT,c7,ml];exact hq
   have ml:(decide (0≤(nth l i).f)&&decide ((nth l i).f≤n-1))=true:=by simp;exact a1
   by_cases a2:0≤(nth l i).t∧(nth l i).t≤n-1
   case neg =>
    have qO:(decide (0≤(nth l i).t)&&decide ((nth l i).t≤n-1))=false:=by simp;omega
    rw[ay (fun g=>a2 g.2)]at hE;rw[hE,ay (by decide)]at hq
    simp (disch:=omega) [-getElem?_pos,wrap64,bf (l:=l),rT,c7,ml,qO];exact hq
   have qO:(decide (0≤(nth l i).t)&&decide ((nth l i).t≤n-1))=true:=by simp;exact a2
   rw[aM ⟨a1,a2⟩]at hE;by_cases a3:(nth l i).t≤(nth l i).f
   ·rw[aM a3]at hE
    rw[hE,ay (by decide)]at hq
    simp (disch:=omega) [-getElem?_pos,wrap64,bf (l:=l),rT,c7,ml,qO,a3];exact hq
   rw[ay a3]at hE;by_cases a4:0<i∧(nth l i).f≤(nth l (i-1)).f
   ·rw[aM a4]at hE
    rw[hE,ay (by decide)]at hq
    simp (disch:=omega) [-getElem?_pos,wrap64,bf (l:=l),rT,c7,ml,qO,a3,a4.1,a4.2];exact hq
   rw[ay a4]at hE;have done:e7 (nth l i).r=0→dH (lE ⟨n,l⟩) (l.length-(i+1)) (i+1)=W:=fun h=>by rwa [hE,h,aM rfl]at hq
   have stop:e7 (nth l i).r≠0→e7 (nth l i).r=W:=fun h=>by rwa [hE,ay h]at hq
   rcases (by omega:¬ 0<i∨(0<i∧¬ (nth l i).f≤(nth l (i-1)).f)) with a5 | ⟨a5,a6⟩
   ·by_cases hz:e7 (nth l i).r=0
    ·simp (disch:=omega) [-getElem?_pos,wrap64,bf (l:=l),rT,c7,ml,qO,a3,a5,yT (nth l i).r (hw i h5),yU (nth l i).r (hw i h5),hz]
     exact bP (i+1) (by simp) ⟨by omega,done hz⟩ (by omega)
    ·simp (disch:=omega) [-getElem?_pos,wrap64,bf (l:=l),rT,c7,ml,qO,a3,a5,yT (nth l i).r (hw i h5),yU (nth l i).r (hw i h5),hz]
     exact stop hz
   ·by_cases hz:e7 (nth l i).r=0
    ·simp (disch:=omega) [-getElem?_pos,wrap64,bf (l:=l),rT,c7,ml,qO,a3,a5,a6,yT (nth l i).r (hw i h5),yU (nth l i).r (hw i h5),hz]
     exact bP (i+1) (by simp) ⟨by omega,done hz⟩ (by omega)
    ·simp (disch:=omega) [-getElem?_pos,wrap64,bf (l:=l),rT,c7,ml,qO,a3,a5,a6,yT (nth l i).r (hw i h5),yU (nth l i).r (hw i h5),hz]
     exact stop hz
  ·obtain rfl:i=l.length:=by omega
   rw[mO]at hq;exact hq)
theorem Ux(r:Rr)(hr:lh r)(G:List aS):aZ F 97 [rr r] G=some (i64 (jR r),G) :=
 bM rfl rfl (by
  obtain⟨n,l⟩:=r;generalize hW:jR ⟨n,l⟩=W;unfold jR at hW;simp only at hW;obtain⟨hl,hw⟩:=hr;simp only at hl hw;by_cases h1:n<1
  ·rw[aM (.inl h1)]at hW
   simp (disch:=omega) [-getElem?_pos,wrap64,Me,h1];exact hW
  by_cases h2:40<n
  ·rw[aM (.inr h2)]at hW
   simp (disch:=omega) [-getElem?_pos,wrap64,Me,h1,h2];exact hW
  rw[ay (by omega)]at hW
  have h1n:1≤n:=by omega
  have h2n:n≤40:=by omega
  simp (disch:=omega) [-getElem?_pos,wrap64,Me,h1,h2];refine go_loop (fun i:Nat=>anp (od l) l.length i (Rr.row ⟨n,l⟩) G) (fun i=>i≤l.length∧dH (lE ⟨n,l⟩) (l.length-i) i=W) (fun i=>l.length-i) 0 rfl (by simp) ⟨by omega,hW⟩ ?_
  rintro i ⟨hi,hq⟩;simp (disch:=omega) [-getElem?_pos,wrap64,aaG];refine bT (fun h5=>?_) (fun h5=>?_)
  ·have h5:i<l.length:=by omega
   rw[kZ h5]at hq;have hE:lE ⟨n,l⟩ i=if (0≤(nth l i).f∧(nth l i).f≤n-1)∧(0≤(nth l i).t∧(nth l i).t≤n-1) then (if (nth l i).t≤(nth l i).f then 12 else if 0<i∧(nth l i).f≤(nth l (i-1)).f then 4 else e7 (nth l i).r) else 11:=rfl
   by_cases a1:0≤(nth l i).f∧(nth l i).f≤n-1
   case neg =>
    have ml:(decide (0≤(nth l i).f)&&decide ((nth l i).f≤n-1))=false:=by simp;omega
    rw[ay (fun g=>a1 g.1)]at hE;rw[hE,ay (by decide)]at hq
    simp (disch:=omega) [-getElem?_pos,wrap64,bf (l:=l),rT,c7,ml];exact hq
   have ml:(decide (0≤(nth l i).f)&&decide ((nth l i).f≤n-1))=true:=by simp;exact a1
   by_cases a2:0≤(nth l i).t∧(nth l i).t≤n-1
   case neg =>
    have qO:(decide (0≤(nth l i).t)&&decide ((nth l i).t≤n-1))=false:=by simp;omega
    rw[ay (fun g=>a2 g.2)]at hE;rw[hE,ay (by decide)]at hq
    simp (disch:=omega) [-getElem?_pos,wrap64,bf (l:=l),rT,c7,ml,qO];exact hq
   have qO:(decide (0≤(nth l i).t)&&decide ((nth l i).t≤n-1))=true:=by simp;exact a2
   rw[aM ⟨a1,a2⟩]at hE;by_cases a3:(nth l i).t≤(nth l i).f
   ·rw[aM a3]at hE
    rw[hE,ay (by decide)]at hq
    simp (disch:=omega) [-getElem?_pos,wrap64,bf (l:=l),rT,c7,ml,qO,a3];exact hq
   rw[ay a3]at hE;by_cases a4:0<i∧(nth l i).f≤(nth l (i-1)).f
   ·rw[aM a4]at hE
    rw[hE,ay (by decide)]at hq
    simp (disch:=omega) [-getElem?_pos,wrap64,bf (l:=l),rT,c7,ml,qO,a3,a4.1,a4.2];exact hq
   rw[ay a4]at hE;have done:e7 (nth l i).r=0→dH (lE ⟨n,l⟩) (l.length-(i+1)) (i+1)=W:=fun h=>by rwa [hE,h,aM rfl]at hq
   have stop:e7 (nth l i).r≠0→e7 (nth l i).r=W:=fun h=>by rwa [hE,ay h]at hq
   rcases (by omega:¬ 0<i∨(0<i∧¬ (nth l i).f≤(nth l (i-1)).f)) with a5 | ⟨a5,a6⟩
   ·by_cases hz:e7 (nth l i).r=0
    ·simp (disch:=omega) [-getElem?_pos,wrap64,bf (l:=l),rT,c7,ml,qO,a3,a5,yT (nth l i).r (hw i h5),yU (nth l i).r (hw i h5),hz]
     exact bP (i+1) (by simp) ⟨by omega,done hz⟩ (by omega)
    ·simp (disch:=omega) [-getElem?_pos,wrap64,bf (l:=l),rT,c7,ml,qO,a3,a5,yT (nth l i).r (hw i h5),yU (nth l i).r (hw i h5),hz]
     exact stop hz
   ·by_cases hz:e7 (nth l i).r=0
    ·simp (disch:=omega) [-getElem?_pos,wrap64,bf (l:=l),rT,c7,ml,qO,a3,a5,a6,yT (nth l i).r (hw i h5),yU (nth l i).r (hw i h5),hz]
     exact bP (i+1) (by simp) ⟨by omega,done hz⟩ (by omega)
    ·simp (disch:=omega) [-getElem?_pos,wrap64,bf (l:=l),rT,c7,ml,qO,a3,a5,a6,yT (nth l i).r (hw i h5),yU (nth l i).r (hw i h5),hz]
     exact stop hz
  ·obtain rfl:i=l.length:=by omega
   rw[mO]at hq;exact hq)
instance:Inhabited Dm:=⟨⟨⟨[],0,0,0,0,0⟩,[],[],0⟩⟩
structure Si where
 n:Int
 d:Dm
 deriving Inhabited
abbrev Si.row(x:Si):List V:=i64 x.n::x.d.row
abbrev tX(l:List Si):V:=.slice none 10 (l.map Si.row)
structure Cs where
 r:Rr
 s:List Si
abbrev Cs.row(c:Cs):List V:=[i64 c.r.n,od c.r.l,tX c.s]
abbrev cs(c:Cs):V:=.agg c.row
def AH(c:Cs)(i:Nat):Int :=
 let x:=nth c.s i
 if 0≤x.n∧x.n<c.r.n then (if 0<i∧x.n≤(nth c.s (i-1)).n then 4 else fF x.d) else 41
noncomputable def e8(c:Cs):Int:=if jR c.r≠0 then jR c.r else if 12<c.r.n then 41 else if 6<c.s.length then 10 else dH (AH c) c.s.length 0
structure Fl where
 t:Int
 d:List Ds
 w:List (List Int)
abbrev xH(l:List Ds):V:=.slice none 4 (l.map Ds.row)
abbrev lH(l:List (List Int)):V:=.slice none 1 (l.map fun p=>[ints p])
abbrev Fl.row(f:Fl):List V:=[i64 f.t,xH f.d,lH f.w]
abbrev fl(f:Fl):V:=.agg f.row
def oe(f:Fl):Prop:=∀i,(nth f.w i).length≤17592186044416
def oN(c:Cs)(l:List Ds):Prop:=l.length=c.s.length∧∀i,i<c.s.length→fF (nth c.s i).d=0∧ik (nth c.s i).d (nth l i)
noncomputable instance {c:Cs} {l:List Ds}:Decidable (oN c l):=Classical.propDecidable _
def Gd(c:Cs)(l:List (List Int)):Prop:=l.length=c.r.l.length∧∀i,i<c.r.l.length→e7 (nth c.r.l i).r=0∧iB (nth c.r.l i).r (nth l i)
noncomputable instance {c:Cs} {l:List (List Int)}:Decidable (Gd c l):=Classical.propDecidable _
def eR(c:Cs)(f:Fl):Prop:=(0≤f.t∧f.t≤16777216)∧oN c f.d∧Gd c f.w
noncomputable instance {c:Cs} {f:Fl}:Decidable (eR c f):=Classical.propDecidable _
theorem Uy(c:Cs)(hr:lh c.r)(G:List aS):aZ F 62 [cs c] G=some (i64 (e8 c),G) :=
 bM rfl rfl (by
  obtain⟨⟨n,l⟩,s⟩:=c;generalize hW:e8 ⟨⟨n,l⟩,s⟩=W;unfold e8 at hW;simp only at hW hr;have hk:=Uu ⟨n,l⟩ hr;have ke:=Ux ⟨n,l⟩ hr;by_cases h1:jR ⟨n,l⟩=0
  case neg =>
   rw[aM h1]at hW;simp (disch:=omega) [-getElem?_pos,wrap64,IF,hk,ke,h1];exact hW
  rw[ay (by omega)]at hW
  by_cases h2:12<n
  ·rw[aM h2]at hW
   simp (disch:=omega) [-getElem?_pos,wrap64,IF,hk,ke,h1,h2];exact hW
  rw[ay h2]at hW;by_cases h3:6<s.length
  ·rw[aM h3]at hW
   have ja:(6:Int)<s.length:=by omega
   simp (disch:=omega) [-getElem?_pos,wrap64,IF,hk,ke,h1,h2,ja];exact hW
  rw[ay h3]at hW;have ja:¬ (6:Int)<s.length:=by omega
  simp (disch:=omega) [-getElem?_pos,wrap64,IF,hk,ke,h1,h2,ja];refine go_loop (fun i:Nat=>amI (tX s) s.length i (Cs.row ⟨⟨n,l⟩,s⟩) G) (fun i=>i≤s.length∧dH (AH ⟨⟨n,l⟩,s⟩) (s.length-i) i=W) (fun i=>s.length-i) 0 rfl (by simp) ⟨by omega,hW⟩ ?_
  rintro i ⟨hi,hq⟩;simp (disch:=omega) [-getElem?_pos,wrap64,aag];refine bT (fun h5=>?_) (fun h5=>?_)
  ·have h5:i<s.length:=by omega
   rw[kZ h5]at hq;have hE:AH ⟨⟨n,l⟩,s⟩ i=if 0≤(nth s i).n∧(nth s i).n<n then (if 0<i∧(nth s i).n≤(nth s (i-1)).n then 4 else fF (nth s i).d) else 41:=rfl
   by_cases a1:(nth s i).n<0
   ·rw[ay (by omega)]at hE
    rw[hE,ay (by decide)]at hq
    simp (disch:=omega) [-getElem?_pos,wrap64,bf (l:=s),a1];exact hq
   by_cases a2:n≤(nth s i).n
   ·rw[ay (by omega)]at hE
    rw[hE,ay (by decide)]at hq
    simp (disch:=omega) [-getElem?_pos,wrap64,bf (l:=s),a1,a2];exact hq
   rw[aM (by omega)]at hE
   by_cases a4:0<i∧(nth s i).n≤(nth s (i-1)).n
   ·rw[aM a4]at hE
    rw[hE,ay (by decide)]at hq
    simp (disch:=omega) [-getElem?_pos,wrap64,bf (l:=s),a1,a2,a4.1,a4.2];exact hq
   rw[ay a4]at hE;have done:fF (nth s i).d=0→dH (AH ⟨⟨n,l⟩,s⟩) (s.length-(i+1)) (i+1)=W:=fun h=>by rwa [hE,h,aM rfl]at hq
   have stop:fF (nth s i).d≠0→fF (nth s i).d=W:=fun h=>by rwa [hE,ay h]at hq
   have hd:=DT (nth s i).d;have xd:=DU (nth s i).d;rcases (by omega:¬ 0<i∨(0<i∧¬ (nth s i).n≤(nth s (i-1)).n)) with a5 | ⟨a5,a6⟩
   ·by_cases hz:fF (nth s i).d=0
    ·simp (disch:=omega) [-getElem?_pos,wrap64,bf (l:=s),a1,a2,a5,hd,xd,hz]
     exact bP (i+1) (by simp) ⟨by omega,done hz⟩ (by omega)
    ·simp (disch:=omega) [-getElem?_pos,wrap64,bf (l:=s),a1,a2,a5,hd,xd,hz]
     exact stop hz
   ·by_cases hz:fF (nth s i).d=0
    ·simp (disch:=omega) [-getElem?_pos,wrap64,bf (l:=s),a1,a2,a5,a6,hd,xd,hz]
     exact bP (i+1) (by simp) ⟨by omega,done hz⟩ (by omega)
    ·simp (disch:=omega) [-getElem?_pos,wrap64,bf (l:=s),a1,a2,a5,a6,hd,xd,hz]
     exact stop hz
  ·obtain rfl:i=s.length:=by omega
   rw[mO]at hq;exact hq)
theorem Uz(c:Cs)(hr:lh c.r)(G:List aS):aZ F 55 [cs c] G=some (i64 (e8 c),G) :=
 bM rfl rfl (by
  obtain⟨⟨n,l⟩,s⟩:=c;generalize hW:e8 ⟨⟨n,l⟩,s⟩=W;unfold e8 at hW;simp only at hW hr;have hk:=Uu ⟨n,l⟩ hr;have ke:=Ux ⟨n,l⟩ hr;by_cases h1:jR ⟨n,l⟩=0
  case neg =>
   rw[aM h1]at hW;simp (disch:=omega) [-getElem?_pos,wrap64,IC,hk,ke,h1];exact hW
  rw[ay (by omega)]at hW
  by_cases h2:12<n
  ·rw[aM h2]at hW
   simp (disch:=omega) [-getElem?_pos,wrap64,IC,hk,ke,h1,h2];exact hW
  rw[ay h2]at hW;by_cases h3:6<s.length
  ·rw[aM h3]at hW
   have ja:(6:Int)<s.length:=by omega
   simp (disch:=omega) [-getElem?_pos,wrap64,IC,hk,ke,h1,h2,ja];exact hW
  rw[ay h3]at hW;have ja:¬ (6:Int)<s.length:=by omega
  simp (disch:=omega) [-getElem?_pos,wrap64,IC,hk,ke,h1,h2,ja];refine go_loop (fun i:Nat=>amy (tX s) s.length i (Cs.row ⟨⟨n,l⟩,s⟩) G) (fun i=>i≤s.length∧dH (AH ⟨⟨n,l⟩,s⟩) (s.length-i) i=W) (fun i=>s.length-i) 0 rfl (by simp) ⟨by omega,hW⟩ ?_
  rintro i ⟨hi,hq⟩;simp (disch:=omega) [-getElem?_pos,wrap64,Z9];refine bT (fun h5=>?_) (fun h5=>?_)
  ·have h5:i<s.length:=by omega
   rw[kZ h5]at hq;have hE:AH ⟨⟨n,l⟩,s⟩ i=if 0≤(nth s i).n∧(nth s i).n<n then (if 0<i∧(nth s i).n≤(nth s (i-1)).n then 4 else fF (nth s i).d) else 41:=rfl
   by_cases a1:(nth s i).n<0
   ·rw[ay (by omega)]at hE
    rw[hE,ay (by decide)]at hq
    simp (disch:=omega) [-getElem?_pos,wrap64,bf (l:=s),a1];exact hq
   by_cases a2:n≤(nth s i).n
   ·rw[ay (by omega)]at hE
    rw[hE,ay (by decide)]at hq
    simp (disch:=omega) [-getElem?_pos,wrap64,bf (l:=s),a1,a2];exact hq
   rw[aM (by omega)]at hE
   by_cases a4:0<i∧(nth s i).n≤(nth s (i-1)).n
   ·rw[aM a4]at hE
    rw[hE,ay (by decide)]at hq
    simp (disch:=omega) [-getElem?_pos,wrap64,bf (l:=s),a1,a2,a4.1,a4.2];exact hq
   rw[ay a4]at hE;have done:fF (nth s i).d=0→dH (AH ⟨⟨n,l⟩,s⟩) (s.length-(i+1)) (i+1)=W:=fun h=>by rwa [hE,h,aM rfl]at hq
   have stop:fF (nth s i).d≠0→fF (nth s i).d=W:=fun h=>by rwa [hE,ay h]at hq
   have hd:=DT (nth s i).d;have xd:=DU (nth s i).d;rcases (by omega:¬ 0<i∨(0<i∧¬ (nth s i).n≤(nth s (i-1)).n)) with a5 | ⟨a5,a6⟩
   ·by_cases hz:fF (nth s i).d=0
    ·simp (disch:=omega) [-getElem?_pos,wrap64,bf (l:=s),a1,a2,a5,hd,xd,hz]
     exact bP (i+1) (by simp) ⟨by omega,done hz⟩ (by omega)
    ·simp (disch:=omega) [-getElem?_pos,wrap64,bf (l:=s),a1,a2,a5,hd,xd,hz]
     exact stop hz
   ·by_cases hz:fF (nth s i).d=0
    ·simp (disch:=omega) [-getElem?_pos,wrap64,bf (l:=s),a1,a2,a5,a6,hd,xd,hz]
     exact bP (i+1) (by simp) ⟨by omega,done hz⟩ (by omega)
    ·simp (disch:=omega) [-getElem?_pos,wrap64,bf (l:=s),a1,a2,a5,a6,hd,xd,hz]
     exact stop hz
  ·obtain rfl:i=s.length:=by omega
   rw[mO]at hq;exact hq)
structure yW(c:Cs):Prop where
 k:jR c.r=0
 n:c.r.n≤12
 s:c.s.length≤6
 site:∀i,i<c.s.length→AH c i=0
theorem qe{c:Cs}(h:e8 c=0):yW c:=by
 unfold e8 at h;split at h
 ·rename_i h1;exact absurd h h1
 split at h
 ·cases h
 split at h
 ·cases h
 rename_i h1 h2 h3;exact⟨g7 h1,by omega,by omega,fun i hi=>sK h i (by omega) (by omega)⟩
theorem aup(c:Cs)(hs:c.s.length≤1000)(l:List Ds)(G:List aS):aZ F 166 [cs c,xH l] G=some (.bool (decide (oN c l)),G) :=
 bM rfl rfl (by
  obtain⟨r,s⟩:=c;simp only at hs;generalize hW:decide (oN ⟨r,s⟩ l)=W;have no:¬ oN ⟨r,s⟩ l→W=false:=fun h=>by rw[←hW];simp[h]
  have yes:oN ⟨r,s⟩ l→W=true:=fun h=>by rw[←hW];simp[h]
  unfold oN at no yes;simp only at no yes;by_cases h1:l.length=s.length
  case neg =>
   have jm:¬ (l.length:Int)=s.length:=by omega
   simp (disch:=omega) [-getElem?_pos,wrap64,Sa,jm];exact no (fun g=>h1 g.1)
  have jm:(l.length:Int)=s.length:=by omega
  simp (disch:=omega) [-getElem?_pos,wrap64,Sa,jm];refine go_loop (fun i:Nat=>ao9 (xH l) (tX s) s.length i G) (fun i=>i≤s.length∧∀j,j<i→fF (nth s j).d=0∧ik (nth s j).d (nth l j)) (fun i=>s.length-i) 0 rfl (by simp) (by simp) ?_
  rintro i ⟨hi,hj⟩;simp (disch:=omega) [-getElem?_pos,wrap64,abV];refine bT (fun h5=>?_) (fun h5=>?_)
  ·have h5:i<s.length:=by omega
   have h6:i<l.length:=by omega
   by_cases h7:fF (nth s i).d=0∧ik (nth s i).d (nth l i)
   ·simp (disch:=omega) [-getElem?_pos,wrap64,bf (l:=s),bf (l:=l),afb,h7.1,h7.2]
    refine bP (i+1) (by simp) ⟨by omega,fun j h8=>?_⟩ (by omega)
    rcases cF j i with h9|h9
    ·exact hj j h9
    ·rwa [show j=i by omega]
   ·have h7':decide (fF (nth s i).d=0∧ik (nth s i).d (nth l i))=false:=by simp only[h7,decide_false]
    have hv:=afb (nth s i).d (nth l i);rw[h7']at hv;simp (disch:=omega) [-getElem?_pos,wrap64,bf (l:=s),bf (l:=l),hv];exact no (fun g=>h7 (g.2 i h5))
  ·obtain rfl:i=s.length:=by omega
   exact yes ⟨h1,hj⟩)
theorem afO(c:Cs)(hs:c.s.length≤1000)(hr:lh c.r)(f:Fl)(hf:oe f)(G:List aS):aZ F 126 [cs c,fl f] G=some (.bool (decide (eR c f)),G) :=
 bM rfl rfl (by
  have ez:=aup c hs f.d;obtain⟨⟨n,l⟩,s⟩:=c;obtain⟨t,d,w⟩:=f;generalize hW:decide (eR ⟨⟨n,l⟩,s⟩ ⟨t,d,w⟩)=W;have no:¬ eR ⟨⟨n,l⟩,s⟩ ⟨t,d,w⟩→W=false:=fun h=>by rw[←hW];simp[h]
  have yes:eR ⟨⟨n,l⟩,s⟩ ⟨t,d,w⟩→W=true:=fun h=>by rw[←hW];simp[h]
  unfold eR Gd at no yes;simp only at no yes ez;unfold oe at hf;obtain⟨qW,oZ⟩:=hr;simp only at hf qW oZ;by_cases a1:t<0
  ·simp (disch:=omega) [-getElem?_pos,wrap64,FA,a1]
   exact no (by omega)
  by_cases a2:16777216<t
  ·simp (disch:=omega) [-getElem?_pos,wrap64,FA,a1,a2]
   exact no (by omega)
  by_cases a3:oN ⟨⟨n,l⟩,s⟩ d
  case neg =>
   simp (disch:=omega) [-getElem?_pos,wrap64,FA,a1,a2,ez,a3];exact no (fun g=>a3 g.2.1)
  by_cases a4:w.length=l.length
  case neg =>
   have DZ:¬ (w.length:Int)=l.length:=by omega
   simp (disch:=omega) [-getElem?_pos,wrap64,FA,a1,a2,ez,a3,DZ];exact no (fun g=>a4 g.2.2.1)
  have DZ:(w.length:Int)=l.length:=by omega
  simp (disch:=omega) [-getElem?_pos,wrap64,FA,a1,a2,ez,a3,DZ];refine go_loop (fun i:Nat=>aof (od l) l.length i (Fl.row ⟨t,d,w⟩) G) (fun i=>i≤l.length∧∀j,j<i→e7 (nth l j).r=0∧iB (nth l j).r (nth w j)) (fun i=>l.length-i) 0 rfl (by simp) (by simp) ?_
  rintro i ⟨hi,hj⟩;simp (disch:=omega) [-getElem?_pos,wrap64,abb];refine bT (fun h5=>?_) (fun h5=>?_)
  ·have h5:i<l.length:=by omega
   have h6:i<w.length:=by omega
   have hv:=aud (nth l i).r (oZ i h5) (nth w i) (hf i);by_cases h7:e7 (nth l i).r=0∧iB (nth l i).r (nth w i)
   ·rw[jf h7]at hv
    simp (disch:=omega) [-getElem?_pos,wrap64,bf (l:=l),bf (l:=w),hv];refine bP (i+1) (by simp) ⟨by omega,fun j h8=>?_⟩ (by omega)
    rcases cF j i with h9|h9
    ·exact hj j h9
    ·rwa [show j=i by omega]
   ·rw[decide_eq_false h7]at hv
    simp (disch:=omega) [-getElem?_pos,wrap64,bf (l:=l),bf (l:=w),hv];exact no (fun g=>h7 (g.2.2.2 i h5))
  ·obtain rfl:i=l.length:=by omega
   exact yes ⟨by omega,a3,a4,hj⟩)
theorem aur(c:Cs)(hr:lh c.r)(f:Fl)(hf:oe f)(G:List aS):aZ F 83 [cs c,fl f] G=some (.bool (decide (e8 c=0∧eR c f)),G) :=
 bM rfl rfl (by
  have h1:=Uy c hr;by_cases hz:e8 c=0
  ·have h2:=afO c (by have:=(qe hz).s;omega) hr f hf
   simp[wrap64,RG,h1,h2,hz]
  ·simp[wrap64,RG,h1,hz])
noncomputable def kO(c:Cs)(f:Fl):Int:=if e8 c≠0 then e8 c else if eR c f then 0 else 50
theorem afP(c:Cs)(hr:lh c.r)(f:Fl)(hf:oe f)(G:List aS):aZ F 128 [cs c,fl f] G=some (i64 (kO c f),G) :=
 bM rfl rfl (by
  have h1:=Uy c hr;unfold kO;by_cases hz:e8 c=0
  ·have h2:=afO c (by have:=(qe hz).s;omega) hr f hf
   by_cases hf:eR c f
   ·simp[wrap64,Mn,h1,h2,hz,hf]
   ·simp[wrap64,Mn,h1,h2,hz,hf]
  ·simp[wrap64,Mn,h1,hz])
theorem Ge(x m:Int)(G:List aS):aZ F 98 [i64 x,i64 m] G=some (.bool (decide (0≤x)&&decide (x≤m)),G) :=
 bM rfl rfl (by simp +contextual [wrap64,aaH])
theorem afQ(c:Cs)(hr:lh c.r)(f:Fl)(hf:oe f)(G:List aS):aZ F 56 [cs c,fl f] G=some (.bool (decide (e8 c=0∧eR c f)),G) :=
 bM rfl rfl (by
  have hc:=Uz c hr;obtain⟨⟨n,l⟩,s⟩:=c;obtain⟨t,d,w⟩:=f;generalize hW:decide (e8 ⟨⟨n,l⟩,s⟩=0∧eR ⟨⟨n,l⟩,s⟩ ⟨t,d,w⟩)=W;have no:¬ (e8 ⟨⟨n,l⟩,s⟩=0∧eR ⟨⟨n,l⟩,s⟩ ⟨t,d,w⟩)→W=false:=fun h=>by rw[←hW];simp[h]
  have yes:(e8 ⟨⟨n,l⟩,s⟩=0∧eR ⟨⟨n,l⟩,s⟩ ⟨t,d,w⟩)→W=true:=fun h=>by rw[←hW];simp[h]
  unfold eR Gd oN at no yes;simp only at no yes;unfold oe at hf;obtain⟨qW,oZ⟩:=hr;simp only at hf qW oZ;by_cases a0:e8 ⟨⟨n,l⟩,s⟩=0
  case neg =>
   simp (disch:=omega) [-getElem?_pos,wrap64,Fx,hc,a0];exact no (fun g=>a0 g.1)
  have Nw:=(qe a0).s;simp only at Nw;by_cases a1:0≤t∧t≤16777216
  case neg =>
   have ml:(decide (0≤t)&&decide (t≤16777216))=false:=by simp;omega
   simp (disch:=omega) [-getElem?_pos,wrap64,Fx,hc,a0,Ge,ml];exact no (fun g=>a1 g.2.1)
  have ml:(decide (0≤t)&&decide (t≤16777216))=true:=by simp;exact a1
  by_cases a3:d.length=s.length
  case neg =>
   have Nx:¬ (d.length:Int)=s.length:=by omega
   simp (disch:=omega) [-getElem?_pos,wrap64,Fx,hc,a0,Ge,ml,Nx];exact no (fun g=>a3 g.2.2.1.1)
  have Nx:(d.length:Int)=s.length:=by omega
  by_cases a4:w.length=l.length
  case neg =>
   have DZ:¬ (w.length:Int)=l.length:=by omega
   simp (disch:=omega) [-getElem?_pos,wrap64,Fx,hc,a0,Ge,ml,Nx,DZ];exact no (fun g=>a4 g.2.2.2.1)
  have DZ:(w.length:Int)=l.length:=by omega
  simp (disch:=omega) [-getElem?_pos,wrap64,Fx,hc,a0,Ge,ml,Nx,DZ];refine go_loop (fun i:Nat=>amA (tX s) s.length i (Cs.row ⟨⟨n,l⟩,s⟩) (Fl.row ⟨t,d,w⟩) G) (fun i=>i≤s.length∧∀j,j<i→fF (nth s j).d=0∧ik (nth s j).d (nth d j)) (fun i=>s.length-i) 0 rfl (by simp) (by simp) ?_
  rintro i ⟨hi,hj⟩;simp (disch:=omega) [-getElem?_pos,wrap64,aaa];refine bT (fun h5=>?_) (fun h5=>?_)
  ·have h5:i<s.length:=by omega
   have h6:i<d.length:=by omega
   have hv:=TT (nth s i).d (nth d i);by_cases h7:fF (nth s i).d=0∧ik (nth s i).d (nth d i)
   ·rw[jf h7]at hv
    simp (disch:=omega) [-getElem?_pos,wrap64,bf (l:=s),bf (l:=d),hv];refine bP (i+1) (by simp) ⟨by omega,fun j h8=>?_⟩ (by omega)
    rcases cF j i with h9|h9
    ·exact hj j h9
    ·rwa [show j=i by omega]
   ·rw[decide_eq_false h7]at hv
    simp (disch:=omega) [-getElem?_pos,wrap64,bf (l:=s),bf (l:=d),hv];exact no (fun g=>h7 (g.2.2.1.2 i h5))
  ·obtain rfl:i=s.length:=by omega
   have pV:=hj;refine go_loop (fun i:Nat=>amC (od l) l.length i (Fl.row ⟨t,d,w⟩) G) (fun i=>i≤l.length∧∀j,j<i→e7 (nth l j).r=0∧iB (nth l j).r (nth w j)) (fun i=>l.length-i) 0 rfl (by simp) (by simp) ?_
   rintro i ⟨hi,hj⟩;simp (disch:=omega) [-getElem?_pos,wrap64,aab];refine bT (fun h5=>?_) (fun h5=>?_)
   ·have h5:i<l.length:=by omega
    have h6:i<w.length:=by omega
    have hv:=afH (nth l i).r (oZ i h5) (nth w i) (hf i);by_cases h7:e7 (nth l i).r=0∧iB (nth l i).r (nth w i)
    ·rw[jf h7]at hv
     simp (disch:=omega) [-getElem?_pos,wrap64,bf (l:=l),bf (l:=w),hv];refine bP (i+1) (by simp) ⟨by omega,fun j h8=>?_⟩ (by omega)
     rcases cF j i with h9|h9
     ·exact hj j h9
     ·rwa [show j=i by omega]
    ·rw[decide_eq_false h7]at hv
     simp (disch:=omega) [-getElem?_pos,wrap64,bf (l:=l),bf (l:=w),hv];exact no (fun g=>h7 (g.2.2.2.2 i h5))
   ·obtain rfl:i=l.length:=by omega
    exact yes ⟨a0,a1,⟨a3,pV⟩,a4,hj⟩)
end Go.Proofs.YtmppfkgfnnebeaaGreatDoor
namespace Go.Proofs.YtmppfkgfnnebeaaGreatDoor
set_option linter.all false
open Go.Vm
theorem Ny{α:Type}{row:α→List V}{k:Nat}(hk:∀a,(row a).length=k):∀l:List α,(l.map row).flatten.length=l.length*k
 |[]=>by simp
 |a::l=>by
  rw[oq,ue,m9,hk,Ny hk l,u4,qi,KA,Kt]
theorem UA{α:Type}[Inhabited α]{row:α→List V}{k:Nat}(hk:∀a,(row a).length=k):∀{l:List α} {i:Nat},i<l.length→((l.map row).flatten.drop (i*k)).take k=row (nth l i)
 |[],i,h=>by simp at h
 |a::l,0,_=>by
  rw[G6,uY,oq,ue,List.take_append_of_le_length (by rw[hk];exact bV _),mo (by rw[hk];exact bV _)]
  rfl
 |a::l,i+1,h=>by
  have ih:=UA hk (l:=l) (i:=i) (by simpa using h)
  rw[oq,ue,show(i+1)*k=k+i*k by rw[qi,KA,Kt],← uX,List.drop_left' (hk a),ih]
  rfl
theorem UB{x:V}:∀{vs cs:List V} {off:Nat},iF (x::cs) (off+1) vs=x::iF cs off vs
 |[],_,_=>rfl
 |v::vs,cs,off=>by
  simp only[iF,List.set_cons_succ];exact UB
theorem afR:∀{p:List V} {cs vs:List V} {off:Nat},iF (p++cs) (p.length+off) vs=p++iF cs off vs
 |[],cs,vs,off=>by simp
 |a::p,cs,vs,off=>by
  rw[ud,u4,show p.length+1+off=(p.length+off)+1 by omega,UB,afR,ud]
theorem afS:∀{vs p cs:List V},p.length=vs.length→iF (p++cs) 0 vs=vs++cs
 |[],p,cs,h=>by
  have:p=[]:=oo.1 (by simpa using h)
  subst this;rfl
 |v::vs,[],cs,h=>by simp at h
 |v::vs,a::p,cs,h=>by
  simp only[iF,ud,Kr];rw[UB,afS (by simpa using h)]
theorem Nz{α:Type}{row:α→List V}{k:Nat}(hk:∀a,(row a).length=k){x:α}:∀{l:List α} {i:Nat},i<l.length→iF (l.map row).flatten (i*k) (row x)=((l.set i x).map row).flatten
 |[],i,h=>by simp at h
 |a::l,0,_=>by
  rw[G6,oq,ue,afS (by rw[hk,hk])]
  rfl
 |a::l,i+1,h=>by
  have ih:=Nz hk (x:=x) (l:=l) (i:=i) (by simpa using h)
  rw[oq,ue,show(i+1)*k=(row a).length+i*k by rw[hk,qi,KA,Kt],afR,ih]
  rfl
theorem uR{α:Type}[Inhabited α]{l:List α}{i j:Nat}{x:α}(h:i<l.length):nth (l.set i x) j=if j=i then x else nth l j:=by
 unfold nth;rw[VS,VS,jU];by_cases hj:j=i
 ·subst hj;simp[h]
 ·rw[ay hj,ay (fun e=>hj e.symm)]
end Go.Proofs.YtmppfkgfnnebeaaGreatDoor
namespace Go.Proofs.YtmppfkgfnnebeaaGreatDoor
set_option linter.all false
open Go.Vm
attribute [local simp] lZ l7 lX lY
theorem NA{α:Type}{row:α→List V}{k:Nat}(hk:∀a,(row a).length=k):∀{l:List α} {cs:List V} {off:Nat},cs.drop off=(l.map row).flatten→chunks k cs off l.length=l.map row
 |[],cs,off,h=>by simp[chunks]
 |a::l,cs,off,h=>by
  rw[oq,ue]at h;have h2:cs.drop (off+k)=(l.map row).flatten:=by
   rw[←uX,h,List.drop_left' (hk a)]
  rw[u4,chunks,NA hk h2,h,List.take_left' (hk a),oq]
theorem NB{α:Type}{row:α→List V}{sh:Sh}(h:∀a,nb sh (row a)=some (row a)):∀l:List α,kc sh (l.map row)=some (l.map row)
 |[]=>rfl
 |a::l=>by simp[kc,h,NB h l]
def jS(l:List Ds):List V:=(l.map Ds.row).flatten
theorem afT(l:List Ds):(l.map Ds.row).flatten=jS l:=rfl
@[simp] theorem aCF{l:List Ds}:(jS l).length=l.length*4:=Ny (row:=Ds.row) (fun _=>rfl) l
theorem B3{l:List Ds}{n:Nat}(h:n=l.length):kc [none,none,some 3,some 2] (chunks 4 (jS l) 0 n)=some (l.map Ds.row):=by
 subst h;rw[NA (row:=Ds.row) (fun _=>rfl) rfl];exact NB (fun a=>by simp) l
theorem afU{l:List Ds}{a:Ds}:jS l++a.row=jS (l++[a]):=by simp[jS]
def lI(l:List (List Int)):List V:=(l.map fun p=>[ints p]).flatten
theorem afV(l:List (List Int)):(l.map fun p=>[ints p]).flatten=lI l:=rfl
@[simp] theorem aCG{l:List (List Int)}:(lI l).length=l.length:=by
 have:=Ny (row:=fun p=>[ints p]) (k:=1) (fun _=>rfl) l
 rwa [El]at this
theorem Gf{l:List (List Int)}{n:Nat}(h:n=l.length):kc [some 1] (chunks 1 (lI l) 0 n)=some (l.map fun p=>[ints p]):=by
 subst h;rw[NA (row:=fun p=>[ints p]) (fun _=>rfl) rfl];exact NB (fun a=>by simp) l
theorem afW{l:List (List Int)}{a:List Int}:lI l++[ints a]=lI (l++[a]):=by simp[lI]
theorem NC{α:Type}{row:α→List V}{p:V→Bool}(h:∀a,(row a).all p=true):∀l:List α,(l.map row).flatten.all p=true
 |[]=>rfl
 |a::l=>by rw[oq,ue,List.all_append,h,NC h l];rfl
theorem JS{α:Type}{row:α→List V}{f:V→V}(h:∀a,(row a).map f=row a):∀l:List α,(l.map row).flatten.map f=(l.map row).flatten
 |[]=>rfl
 |a::l=>by rw[oq,ue,GV,h,JS h l]
@[simp] theorem aCH{l:List Ds}{d:Nat}:((jS l).all fun v => !V.cA d v)=true:=NC (row:=Ds.row) (fun a=>by simp) l
@[simp] theorem aCI{l:List (List Int)}{d:Nat}:((lI l).all fun v => !V.cA d v)=true:=NC (row:=fun p=>[ints p]) (fun a=>by simp) l
@[simp] theorem aCJ{l:List Ds}{a b:Nat}:(jS l).map (V.jD a b)=jS l:=JS (row:=Ds.row) (fun a=>by simp) l
@[simp] theorem aCK{l:List (List Int)}{a b:Nat}:(lI l).map (V.jD a b)=lI l:=JS (row:=fun p=>[ints p]) (fun a=>by simp) l
@[simp] theorem aCL{l:List Ds}:(jS l).map V.jr=jS l:=JS (row:=Ds.row) (fun a=>by simp) l
@[simp] theorem aCM{l:List (List Int)}:(lI l).map V.jr=lI l:=JS (row:=fun p=>[ints p]) (fun a=>by simp) l
def JT(l:List Ds):Prop:=l.length≤1000∧∀i,i<l.length→(nth l i).u.length≤1000∧(nth l i).g.length≤1000
def UC(l:List (List Int)):Prop:=l.length≤1000∧∀i,i<l.length→(nth l i).length≤17592186044416
theorem afX(l:List Ds)(h:JT l)(G:List aS):aZ F 129 [xH l] G=some (.c5 G.length 4 l.length,G++[.cells (jS l)]) :=
 bM rfl rfl (by
  obtain⟨hl,hs⟩:=h;simp (disch:=omega) [-getElem?_pos,wrap64,abd];refine go_loop (fun i:Nat=>aoh i (xH l) l.length i (jS (l.take i)) G) (fun i=>i≤l.length) (fun i=>l.length-i) 0 rfl (by simp[jS]) (by simp) ?_
  rintro i hi;simp (disch:=omega) [-getElem?_pos,wrap64,abc];refine bT (fun h5=>?_) (fun h5=>?_)
  ·have h5:i<l.length:=by omega
   have hu:=at7 (nth l i).u (hs i h5).1;have hg:=aua (nth l i).g (hs i h5).2;have hm:Nat.min i l.length=i:=wI hi;simp (disch:=omega) [-getElem?_pos,wrap64,bf (l:=l),hu,hg];exact bP (i+1) (by simp[kq h5,← afU]) (by omega) (by omega)
  ·obtain rfl:i=l.length:=by omega
   simp (disch:=omega) [-getElem?_pos,wrap64,B3,afT,na])
theorem UD(l:List Int)(hl:l.length≤17592186044416)(G:List aS):aZ F 67 [ints l] G=some (.slice (some 0) 1 (l.map fun n=>[i64 n]),G):=by
 cases l with
 |nil =>
  refine Qs (p:=0) (m:=1) rfl rfl rfl rfl ?_ ?_
  ·simp (disch:=omega) [wrap64,Ma]
  ·simp (disch:=omega) [wrap64,Ma]
 |cons a l =>
  have hl:l.length+1≤17592186044416:=by simpa using hl
  show aZ F 67 [.slice none 1 ([i64 a]::l.map fun n=>[i64 n])] G=some (.slice (some 0) 1 ([i64 a]::l.map fun n=>[i64 n]),G);refine Qt (p:=0) rfl rfl rfl (fun m=>by simp) ?_
  simp (disch:=omega) [wrap64,Ma]
theorem afY(l:List (List Int))(h:UC l)(G:List aS):aZ F 130 [lH l] G=some (.c5 G.length 1 l.length,G++[.cells (lI l)]) :=
 bM rfl rfl (by
  obtain⟨hl,hs⟩:=h;simp (disch:=omega) [-getElem?_pos,wrap64,abf];refine go_loop (fun i:Nat=>aoj i (lH l) l.length i (lI (l.take i)) G) (fun i=>i≤l.length) (fun i=>l.length-i) 0 rfl (by simp[lI]) (by simp) ?_
  rintro i hi;simp (disch:=omega) [-getElem?_pos,wrap64,abe];refine bT (fun h5=>?_) (fun h5=>?_)
  ·have h5:i<l.length:=by omega
   have hu:=UD (nth l i) (hs i h5);have hm:Nat.min i l.length=i:=wI hi;simp (disch:=omega) [-getElem?_pos,wrap64,bf (l:=l),hu];exact bP (i+1) (by simp[kq h5,← afW]) (by omega) (by omega)
  ·obtain rfl:i=l.length:=by omega
   simp (disch:=omega) [-getElem?_pos,wrap64,Gf,afV,na])
theorem afZ(l:List Ds)(h:JT l)(G:List aS):aZ F 100 [xH l] G=some (.c5 G.length 4 l.length,G++[.cells (jS l)]) :=
 bM rfl rfl (by
  obtain⟨hl,hs⟩:=h;simp (disch:=omega) [-getElem?_pos,wrap64,aaK];refine go_loop (fun i:Nat=>ant i (xH l) l.length i (jS (l.take i)) G) (fun i=>i≤l.length) (fun i=>l.length-i) 0 rfl (by simp[jS]) (by simp) ?_
  rintro i hi;simp (disch:=omega) [-getElem?_pos,wrap64,aaJ];refine bT (fun h5=>?_) (fun h5=>?_)
  ·have h5:i<l.length:=by omega
   have hu:=(hs i h5).1;have hg:=(hs i h5).2;have hm:Nat.min i l.length=i:=wI hi;simp (disch:=omega) [-getElem?_pos,wrap64,bf (l:=l)];exact bP (i+1) (by simp[kq h5,← afU]) (by omega) (by omega)
  ·obtain rfl:i=l.length:=by omega
   simp (disch:=omega) [-getElem?_pos,wrap64,B3,afT,na])
theorem aus(f:Fl)(h:JT f.d)(hw:UC f.w)(G:List aS):aZ F 58 [fl f] G=some (.agg [i64 f.t,.c5 G.length 4 f.d.length,.c5 (G.length+1) 1 f.w.length],G++[.cells (jS f.d),.cells (lI f.w)]) :=
 bM rfl rfl (by
  obtain⟨t,d,l⟩:=f;simp only at h hw;have hd:=afZ d h;obtain⟨hl,hs⟩:=hw;simp (disch:=omega) [-getElem?_pos,wrap64,aaf,hd];refine go_loop (fun i:Nat=>amG i (lH l) l.length i [i64 t,.c5 G.length 4 d.length,lH l] [i64 0,.cb,.cb] (lI (l.take i)) (G++[.cells (jS d)])) (fun i=>i≤l.length) (fun i=>l.length-i) 0 rfl (by simp[lI]) (by simp) ?_
  rintro i hi;simp (disch:=omega) [-getElem?_pos,wrap64,aae];refine bT (fun h5=>?_) (fun h5=>?_)
  ·have h5:i<l.length:=by omega
   have hu:=hs i h5;have hm:Nat.min i l.length=i:=wI hi;simp (disch:=omega) [-getElem?_pos,wrap64,bf (l:=l)];exact bP (i+1) (by simp[kq h5,← afW]) (by omega) (by omega)
  ·obtain rfl:i=l.length:=by omega
   simp (disch:=omega) [-getElem?_pos,wrap64,Gf,afV,na])
def fd(p:Nat→Bool):Nat→Nat→Option Nat
 |0,_=>none
 |m+1,i=>if p i then some i else fd p m (i+1)
theorem af0{p:Nat→Bool}{i n:Nat}(h:i<n):fd p (n-i) i=if p i then some i else fd p (n-(i+1)) (i+1):=by
 obtain⟨m,hm⟩:∃m,n-i=m+1:=⟨n-i-1,by omega⟩
 rw[hm,fd,show n-(i+1)=m by omega]
theorem af1{p:Nat→Bool}{n:Nat}:fd p (n-n) n=none:=by rw[sb];rfl
theorem AI{p:Nat→Bool}:∀{m i k:Nat},fd p m i=some k→(i≤k∧k<i+m)∧p k=true∧∀j,i≤j→j<k→p j=false
 |0,i,k,h=>by simp[fd]at h
 |m+1,i,k,h=>by
  unfold fd at h;split at h
  ·rename_i h1;cases h;exact⟨by omega,h1,fun j a b=>by omega⟩
  ·rename_i h1
   have:=AI h;refine⟨by omega,this.2.1,fun j a b=>?_⟩
   by_cases hj:j=i
   ·subst hj;simpa using h1
   ·exact this.2.2 j (by omega) b
theorem UE{p:Nat→Bool}:∀{m i:Nat},fd p m i=none→∀j,i≤j→j<i+m→p j=false
 |0,i,_,j,a,b=>by omega
 |m+1,i,h,j,a,b=>by
  unfold fd at h;split at h
  ·cases h
  ·rename_i h1
   by_cases hj:j=i
   ·subst hj;simpa using h1
   ·exact UE h j (by omega) (by omega)
def uS:Option Nat→Int
 |some k=>k
 |none => -1
def lJ(s:List Si)(n:Int):Option Nat:=fd (fun i=>decide ((nth s i).n=n)) s.length 0
def mC(l:List Lk)(n:Int):Option Nat:=fd (fun i=>decide ((nth l i).f=n)) l.length 0
theorem aut(s:List Si)(hs:s.length≤1000)(n:Int){k:Nat}{G:List aS}(hG:G[k]?=some (.cells [i64 n])) :
  aZ F 199 [tX s,.fn 200 [.bm k 0]] G=some (i64 (uS (lJ s n)),G) :=
 bM rfl rfl (by
  generalize hW:uS (lJ s n)=W;have hp:∀x:Si,aZ F 200 [.agg x.row,.bm k 0] G=some (.bool (decide (x.n=n)),G):=fun x=>bM rfl rfl (by
   simp (disch:=omega) [-getElem?_pos,wrap64,acr,hG])
  simp (disch:=omega) [-getElem?_pos,wrap64,acq];refine go_loop (fun i:Nat=>apz (tX s) (.fn 200 [.bm k 0]) s.length i G) (fun i=>i≤s.length∧uS (fd (fun i=>decide ((nth s i).n=n)) (s.length-i) i)=W) (fun i=>s.length-i) 0 rfl (by simp) ⟨by omega,hW⟩ ?_
  rintro i ⟨hi,hq⟩;simp (disch:=omega) [-getElem?_pos,wrap64,acp];refine bT (fun h5=>?_) (fun h5=>?_)
  ·have h5:i<s.length:=by omega
   rw[af0 h5]at hq;simp (disch:=omega) [-getElem?_pos,wrap64,bf (l:=s),hp];refine bT (fun h6=>?_) (fun h6=>?_)
   ·rw[aM (jf h6)]at hq
    exact hq
   ·rw[ay (by simp[h6])]at hq
    exact bP (i+1) (by simp) ⟨by omega,hq⟩ (by omega)
  ·obtain rfl:i=s.length:=by omega
   rw[af1]at hq;exact hq)
theorem auu(s:List Lk)(hs:s.length≤1000)(n:Int){k:Nat}{G:List aS}(hG:G[k]?=some (.cells [i64 n])) :
  aZ F 203 [od s,.fn 204 [.bm k 0]] G=some (i64 (uS (mC s n)),G) :=
 bM rfl rfl (by
  generalize hW:uS (mC s n)=W;have hp:∀x:Lk,aZ F 204 [.agg x.row,.bm k 0] G=some (.bool (decide (x.f=n)),G):=fun x=>bM rfl rfl (by
   simp (disch:=omega) [-getElem?_pos,wrap64,acw,hG])
  simp (disch:=omega) [-getElem?_pos,wrap64,acv];refine go_loop (fun i:Nat=>apB (od s) (.fn 204 [.bm k 0]) s.length i G) (fun i=>i≤s.length∧uS (fd (fun i=>decide ((nth s i).f=n)) (s.length-i) i)=W) (fun i=>s.length-i) 0 rfl (by simp) ⟨by omega,hW⟩ ?_
  rintro i ⟨hi,hq⟩;simp (disch:=omega) [-getElem?_pos,wrap64,acu];refine bT (fun h5=>?_) (fun h5=>?_)
  ·have h5:i<s.length:=by omega
   rw[af0 h5]at hq;simp (disch:=omega) [-getElem?_pos,wrap64,bf (l:=s),hp];refine bT (fun h6=>?_) (fun h6=>?_)
   ·rw[aM (jf h6)]at hq
    exact hq
   ·rw[ay (by simp[h6])]at hq
    exact bP (i+1) (by simp) ⟨by omega,hq⟩ (by omega)
  ·obtain rfl:i=s.length:=by omega
   rw[af1]at hq;exact hq)
theorem auv(x:Int)(G:List aS):aZ F 175 [i64 x] G=some (.bool (!decide (0≤x∧x≤1073741824)),G) :=
 bM rfl rfl (by
  by_cases h1:x<0
  ·rw[decide_eq_false (by omega)]
   simp[wrap64,Ms,h1]
  ·by_cases h2:1073741824<x
   ·rw[decide_eq_false (by omega)]
    simp[wrap64,Ms,h1,h2]
   ·rw[jf (by omega)]
    simp[wrap64,Ms,h1,h2])
theorem auw(a b c:List Int)(h:a.length+b.length+c.length≤1000)(G:List aS):aZ F 174 [.slice none 1 [[ints a],[ints b],[ints c]]] G=some (ints (a++b++c),G) :=
 bM rfl rfl (by
  simp (disch:=omega) [wrap64,ab2,abZ,abY,ab1,ab0,vX];refine bT (fun g=>absurd g (by omega)) (fun _=>bT (fun g=>absurd g (by omega)) (fun _=>bT (fun g=>absurd g (by omega)) (fun _=>?_)))
  simp (disch:=omega) [wrap64,LR (l:=a++(b++c)) (n:=a.length+b.length+c.length) (by simp;omega)])
structure Sp where
 a:List Int
 b:List Int
 c:List Int
abbrev Sp.row(p:Sp):List V:=[ints p.a,ints p.b,ints p.c]
abbrev sv(p:Sp):V:=.agg p.row
def og(c:Cs)(p:Sp):Prop:=(p.a.length:Int)=c.r.n∧p.b.length=c.s.length∧p.c.length=c.s.length
instance {c:Cs} {p:Sp}:Decidable (og c p):=inferInstanceAs (Decidable (_∧_∧_))
theorem auy(c:Cs)(p:Sp)(G:List aS):aZ F 173 [cs c,sv p] G=some (.bool (decide (og c p)),G) :=
 bM rfl rfl (by
  obtain⟨⟨n,l⟩,s⟩:=c;obtain⟨a,b,c⟩:=p;generalize hW:decide (og ⟨⟨n,l⟩,s⟩ ⟨a,b,c⟩)=W;have no:¬ og ⟨⟨n,l⟩,s⟩ ⟨a,b,c⟩→W=false:=fun h=>by rw[←hW];simp[h]
  have yes:og ⟨⟨n,l⟩,s⟩ ⟨a,b,c⟩→W=true:=fun h=>by rw[←hW];simp[h]
  unfold og at no yes;simp only at no yes;by_cases h1:(a.length:Int)=n
  ·by_cases h2:(b.length:Int)=s.length
   ·by_cases h3:(c.length:Int)=s.length
    ·simp[wrap64,IV,h1,h2,h3]
     exact yes (by omega)
    ·simp[wrap64,IV,h1,h2,h3]
     exact no (by omega)
   ·simp[wrap64,IV,h1,h2]
    exact no (by omega)
  ·simp[wrap64,IV,h1]
   exact no (by omega))
theorem UF(l:List Int)(hl:l.length≤1000)(m:Int)(G:List aS):aZ F 57 [ints l,i64 m] G=some (.bool (decide (fa l m)),G) :=
 bM rfl rfl (by
  generalize hW:decide (fa l m)=W;simp (disch:=omega) [-getElem?_pos,wrap64,aad];refine go_loop (fun i:Nat=>amE m (ints l) l.length i G) (fun i=>i≤l.length∧∀j,j<i→0≤nth l j∧nth l j≤m) (fun i=>l.length-i) 0 rfl (by simp) (by simp) ?_
  rintro i ⟨hi,hj⟩;simp (disch:=omega) [-getElem?_pos,wrap64,aac];refine bT (fun h5=>?_) (fun h5=>?_)
  ·have h5:i<l.length:=by omega
   by_cases h6:0≤nth l i∧nth l i≤m
   ·have iz:(decide (0≤nth l i)&&decide (nth l i≤m))=true:=by simp;exact h6
    simp (disch:=omega) [-getElem?_pos,wrap64,ei (l:=l),Ge,iz];refine bP (i+1) (by simp) ⟨by omega,fun j h7=>?_⟩ (by omega)
    rcases cF j i with h8|h8
    ·exact hj j h8
    ·rwa [show j=i by omega]
   ·have iz:(decide (0≤nth l i)&&decide (nth l i≤m))=false:=by simp;omega
    simp (disch:=omega) [-getElem?_pos,wrap64,ei (l:=l),Ge,iz];rw[←hW,decide_eq_false (fun g:fa l m=>h6 (g i h5))]
  ·obtain rfl:i=l.length:=by omega
   rw[←hW,jf (show fa l m from hj)])
structure Kv(r:Rr):Prop where
 n:1≤r.n∧r.n≤40
 e:∀i,i<r.l.length→lE r i=0
theorem oh{r:Rr}(h:jR r=0):Kv r:=by
 unfold jR at h;split at h
 ·cases h
 ·exact⟨by omega,fun i hi=>sK h i (by omega) (by omega)⟩
theorem Kv.link{r:Rr}(h:Kv r){i:Nat}(hi:i<r.l.length):(0≤(nth r.l i).f∧(nth r.l i).f<(nth r.l i).t∧(nth r.l i).t≤r.n-1)∧(0<i→(nth r.l (i-1)).f<(nth r.l i).f)∧e7 (nth r.l i).r=0:=by
 have he:=h.e i hi;unfold lE at he;simp only at he;split at he
 ·split at he
  ·cases he
  ·split at he
   ·cases he
   ·exact⟨by omega,fun h0=>by omega,he⟩
 ·cases he
theorem Kv.up{r:Rr}(h:Kv r):∀{i:Nat},i<r.l.length→(i:Int)≤(nth r.l i).f
 |0,hi=>by have:=(h.link hi).1;omega
 |i+1,hi=>by
  have:=h.up (i:=i) (by omega)
  have:=(h.link hi).2.1 (by omega)
  simp only[sa]at this;omega
theorem Kv.len{r:Rr}(h:Kv r):r.l.length≤39:=by
 have h1:=h.n;by_cases h0:r.l.length=0
 ·omega
 ·have h2:=h.up (i:=r.l.length-1) (by omega)
  have h3:=(h.link (i:=r.l.length-1) (by omega)).1
  omega
theorem af2:∀n:Nat,kc [some 1] (List.replicate n [V.cb])=some (List.replicate n [ints []])
 |0=>rfl
 |n+1=>by rw[AY,kc,af2 n];rfl
theorem auz{n:Nat}:kc [some 1] (chunks 1 (List.replicate n V.cb) 0 n)=some (List.replicate n [ints []]):=by
 rw[Il _ _ _ rfl (by simp),uY,mo (by simp),Ko]
 exact af2 n
theorem af3:∀n:Nat,(List.replicate n [V.cb]).flatten=List.replicate n V.cb
 |0=>rfl
 |n+1=>by rw[AY,ue,af3 n];rfl
theorem auA(r:Rr)(hr:lh r)(G:List aS):aZ F 120 [rr r] G=some (.tuple (if jR r=0 then [lH (List.replicate r.l.length []),i64 0] else [.slice (some 0) 1 [],i64 (jR r)]),G) :=
 bM rfl rfl (by
  have h1:=Uu r hr;have h2:=Ux r hr;obtain⟨n,l⟩:=r;by_cases hz:jR ⟨n,l⟩=0
  ·have hl:=(oh hz).len
   simp only at hl;rw[aM hz];simp (disch:=omega) [wrap64,RV,h1,h2,hz,af3,auz]
  ·rw[ay hz]
   simp (disch:=omega) [wrap64,RV,h1,h2,hz])
noncomputable def yX(c:Cs)(l:List Ds):Int:=if e8 c≠0 then e8 c else if oN c l then 0 else 3
def oi(c:Cs)(l:List Ds):Fl:=⟨0,l,List.replicate c.r.l.length []⟩
noncomputable def AJ(c:Cs)(l:List Ds):V:=.tuple (if yX c l=0 then [fl (oi c l),i64 0] else [.agg [i64 0,.slice (some 0) 4 [],.slice (some 0) 1 []],i64 (yX c l)])
theorem ND{c:Cs}(h:e8 c=0){l:List Ds}(hl:oN c l):JT l:=by
 have h6:=(qe h).s;have h7:=hl.1;refine⟨by omega,fun i hi=>?_⟩
 have h8:=hl.2 i (by omega)
 have h9:=AB h8.1;have a:=h9.u;have b:=h9.g;have c:=h8.2.2.2.1;have d:=h8.2.2.2.2.1;omega
theorem UG{c:Cs}(h:e8 c=0){l:List Ds}:eR c (oi c l)↔oN c l:=by
 refine⟨fun g=>g.2.1,fun g=>⟨by simp[oi],g,by simp[oi],fun i hi=>?_⟩⟩
 have hk:=(oh (qe h).k).link hi;refine⟨hk.2.2,?_⟩;have e:nth (oi c l).w i=[]:=by simp[oi,nth,hi]
 rw[e];exact⟨by simp,by simp,fun j hj=>by simp at hj⟩
theorem auB(c:Cs)(l:List Ds):oe (oi c l):=fun i=>by
 rcases cF i c.r.l.length with h|h
 ·simp[oi,nth,h]
 ·have e:nth (oi c l).w i=[]:=by
   simp[oi,nth,jT (show(List.replicate c.r.l.length ([]:List Int)).length≤i by simpa using h)]
   rfl
  rw[e];simp
theorem auC(c:Cs)(hr:lh c.r)(l:List Ds)(JN:JT l):∃G',aZ F 79 [cs c,xH l] []=some (AJ c l,G'):=by
 have h1:=Uz c hr;by_cases hz:e8 c=0
 ·have h3:=auA c.r hr
  rw[aM (qe hz).k]at h3;have h4:=afZ l JN;have h5:=afQ c hr (oi c l) (auB c l);by_cases hs:oN c l
  ·rw[jf ⟨hz,(UG hz).2 hs⟩]at h5
   rw[show AJ c l=.tuple [fl (oi c l),i64 0] by unfold AJ;rw[show yX c l=0 by unfold yX;rw[ay (by omega),aM hs]];rfl]
   refine⟨[.cells []],bM rfl rfl ?_⟩;simp only[fl,Fl.row,oi,lH,Ko]at h5;simp[wrap64,Mb,h1,hz,h3,h4,h5,B3,oi]
  ·rw[decide_eq_false (fun g=>hs ((UG hz).1 g.2))]at h5
   rw[show AJ c l=.tuple [.agg [i64 0,.slice (some 0) 4 [],.slice (some 0) 1 []],i64 3] by unfold AJ;rw[show yX c l=3 by unfold yX;rw[ay (by omega),ay hs]];rfl]
   refine⟨[.cells []],bM rfl rfl ?_⟩;simp only[fl,Fl.row,oi,lH,Ko]at h5;simp[wrap64,Mb,h1,hz,h3,h4,h5,B3]
 ·rw[show AJ c l=.tuple [.agg [i64 0,.slice (some 0) 4 [],.slice (some 0) 1 []],i64 (e8 c)] by unfold AJ;rw[show yX c l=e8 c by unfold yX;rw[aM hz]];rw[ay hz]]
  refine⟨[],bM rfl rfl ?_⟩;simp[wrap64,Mb,h1,hz]
end Go.Proofs.YtmppfkgfnnebeaaGreatDoor
