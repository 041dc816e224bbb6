/- - -/
import Derived.Test.YtabckmbjnjnegaaGreatDoorDb
attribute [local simp] Go.Vm.wrap64
namespace Go.Proofs.YtabckmbjnjnegaaGreatDoor
set_option linter.all false
set_option maxRecDepth 100000
open Go.Vm
section
attribute [local simp] mX mY lX mW
noncomputable def DS(us:List Un)(ss:List Us)(g:Int):Int :=
 if 6<us.length then 10 else if us.length≠ss.length then 3 else if ¬Fu us ss then 3 else if g<1\/1073741824<g then 1 else 0
def axq(us:List Un)(ss:List Us)(g:Int)(G:List aM):aX F 196 [ma us,lF ss,i64 g] G=some (i64 (DS us ss g),G) :=
 bD rfl rfl (by
  generalize hE:DS us ss g=E;unfold DS at hE;simp +contextual (disch:=omega) [-getElem?_pos,agn];refine bO (λh1=>?_) (λh1=>jb (λh2=>?_) (λh2=>?_))
  .rw[aJ']at hE
   exact hE
  .simp[-List.length_eq_zero_iff,-Int.natCast_eq_zero]at h2
   rw[ax',aJ']at hE
   exact hE
  .simp[-List.length_eq_zero_iff,-Int.natCast_eq_zero]at h2
   have hl:us.length=ss.length:=by omega
   rw[ax',ax']at hE
   refine go_loop (λi:Nat=>au1 (lF ss) g (ma us) us.length i G) (λi=>i<=us.length/\∀j,j<i->fH (nth us j) (nth ss j)) (λi=>us.length-i) 0 rfl (by simp) ⟨by omega,by omega⟩ ?_
   rintro i ⟨hi,hv⟩;simp +contextual (disch:=omega) [-getElem?_pos,agm];refine bO (λh3=>?_) (λh3=>?_)
   .have h3:i<us.length:=by omega
    by_cases h4:fH (nth us i) (nth ss i)
    .simp +contextual (disch:=omega) [-getElem?_pos,bc (l:=us),bc (l:=ss),AJ,h4]
     refine bB' (i+1) ⟨by omega,λj hj=>?_⟩
     rcases cS j i with h5|h5
     .exact hv j h5
     .rwa [show j=i by omega]
    .rw[aJ (λh=>h4 (h i h3))]at hE
     simp +contextual (disch:=omega) [-getElem?_pos,bc (l:=us),bc (l:=ss),AJ,h4];exact hE
   .obtain rfl:i=us.length:=by omega
    rw[ax (λh=>h hv)]at hE;refine jb (λh5=>?_) (λh5=>?_)
    .simp[-List.length_eq_zero_iff,-Int.natCast_eq_zero]at h5
     rw[aJ']at hE
     exact hE
    .simp[-List.length_eq_zero_iff,-Int.natCast_eq_zero]at h5
     rw[ax']at hE
     exact hE)
noncomputable def w8(u:Un)(s:Us)(g:Int):List Int:=([0,s.cF]++fL u g).filter λq=>decide (lp u s q)
variable{u:Un}{s:Us}{g:Int}
def aii{q:Int}:q∈w8 u s g<->q∈tV u s g:=by
 rw[Ii];simp only[w8,vq,jD,ka,iA,Gu,or_false];constructor
 .rintro⟨(h|h)|h,h2⟩
  .exact⟨.inr (.inl h),h2⟩
  .exact⟨.inr (.inr h),h2⟩
  .exact⟨.inl h,h2⟩
 .rintro⟨h|h|h,h2⟩
  .exact⟨.inr h,h2⟩
  .exact⟨.inl (.inl h),h2⟩
  .exact⟨.inl (.inr h),h2⟩
def axr(h:iK u g=0):(w8 u s g).length<=202:=by
 have h1:=W5 h;have:(w8 u s g).length<=([0,s.cF]++fL u g).length:=ui _ _;simp at this;omega
def axs(hv:fH u s)(g:Int)(G:List aM):aX F 213 [un u,us s,i64 g] G =
  some (if iK u g=0 then .tuple [.slice (some 0) 1 ((w8 u s g).map λn=>[i64 n]),i64 0] else .tuple [.slice (some 0) 1 [],i64 (iK u g)],G) :=
 bD rfl rfl (by
  by_cases he:iK u g=0
  .have hlen:=W5 he
   have hf:qx u g=fL u g:=by simp[qx,he]
   have hc:w8 u s g=(0::s.cF::fL u g).filter λq=>decide (lp u s q):=rfl;rw[aJ he,hc];generalize hL:(0::s.cF::fL u g)=L;have hLl:L.length=(fL u g).length+2:=by rw[<-hL];simp
   have hLm:[i64 0]::[i64 s.cF]::(fL u g).map (λn=>[i64 n])=L.map λn=>[i64 n]:=by rw[<-hL];rfl
   simp (disch:=omega) [-getElem?_pos,Wf,H7,he,hf,hLm];refine go_loop (λi:Nat=>avf (.slice (some 1039) 1 (((L.take i).filter λq=>decide (lp u s q)).map λn=>[i64 n])) (.slice (some 1024) 1 (L.map λn=>[i64 n])) L.length i u.row s.row L.length ((L.take i).filter λq=>decide (lp u s q)).length G)
    (λi=>i<=L.length) (λi=>L.length-i) 0 rfl (by simp[hLl];omega) (by omega) ?_
   intro i hi;have abh:((L.take i).filter λq=>decide (lp u s q)).length<=i:=iO (ui _ _) (by simp;omega)
   simp (disch:=omega) [-getElem?_pos,agC];refine bO (λh1=>?_) (λh1=>?_)
   .have h1:i<L.length:=by omega
    have hM:=WM u s (nth L i) [];by_cases h3:lp u s (nth L i)
    .have h4:decide (fH u s/\lD u s (nth L i))=true:=fJ h3
     rw[h4]at hM;have h5:(L.take (i+1)).filter (λq=>decide (lp u s q))=(L.take i).filter (λq=>decide (lp u s q))++[nth L i]:=by
      rw[jV h1,xp];simp[h3]
     simp (disch:=omega) [-getElem?_pos,dQ h1,hM];exact bB (i+1) (by rw[h5];simp) (by omega) (by omega)
    .have h4:decide (fH u s/\lD u s (nth L i))=false:=decide_eq_false h3
     rw[h4]at hM;have h5:(L.take (i+1)).filter (λq=>decide (lp u s q))=(L.take i).filter (λq=>decide (lp u s q)):=by
      rw[jV h1,xp];simp[h3]
     simp (disch:=omega) [-getElem?_pos,dQ h1,hM];exact bB (i+1) (by rw[h5];simp) (by omega) (by omega)
   .obtain rfl:i=L.length:=by omega
    rw[mL]
  .rw[ax he]
   have hf:qx u g=[]:=by simp[qx,he]
   simp (disch:=omega) [-getElem?_pos,Wf,H7,he,hf])
noncomputable abbrev P4(g:Int)(u:Un)(s:Us):List V:=[.slice none 1 ((w8 u s g).map λn=>[i64 n])]
noncomputable def DT(us:List Un)(g:Int):Int:=if Fv us g then 0 else 10
def axv{us:List Un}{ss:List Us}(hl:us.length=ss.length)(hn:us.length<=1000)(hv:Fu us ss)(g:Int)(G:List aM):aX F 197 [ma us,lF ss,i64 g] G =
  some (.tuple [.slice (some 0) 1 (if DT us g=0 then List.zipWith (P4 g) us ss else []),i64 (DT us g)],G) :=
 bD rfl rfl (by
  generalize hE:DT us g=E;generalize hW:V.tuple [.slice (some 0) 1 (if E=0 then List.zipWith (P4 g) us ss else []),i64 E]=W
  unfold DT at hE;simp (disch:=omega) [-getElem?_pos,agp];refine go_loop (λi:Nat=>au3 (lF ss) g (.slice (some 1035) 1 (List.zipWith (P4 g) (us.take i) (ss.take i))) (ma us) us.length i i G)
   (λi=>i<=us.length/\∀j,j<i->iK (nth us j) g=0) (λi=>us.length-i) 0 rfl (by simp) ⟨by omega,by omega⟩ ?_
  rintro i ⟨hi,hf⟩;simp (disch:=omega) [-getElem?_pos,ago];refine bO (λh3=>?_) (λh3=>?_)
  .have h3:i<us.length:=by omega
   have il:i<ss.length:=by omega
   have hC:=axs (hv i h3) g [];by_cases h4:iK (nth us i) g=0
   .rw[aJ h4]at hC
    simp (disch:=omega) [-getElem?_pos,bc (l:=us),bc (l:=ss),hC];refine bB (i+1) ?_ ⟨by omega,λj hj=>?_⟩ (by omega)
    .rw[BX h3 il];simp
    rcases cS j i with h5|h5
    .exact hf j h5
    .rwa [show j=i by omega]
   .rw[ax h4]at hC
    rw[ax (λh=>h4 (h i h3))]at hE;subst hE;simp (disch:=omega) [-getElem?_pos,bc (l:=us),bc (l:=ss),hC,h4];exact hW
  .obtain rfl:i=us.length:=by omega
   rw[aJ (show Fv us g from hf)]at hE;subst hE;rw[mL,kD (by omega)]
   simp[<-hW])
end
def Vd:List Nat->List Nat->Prop
 |[],[]=>True
 |n::ns,d::a=>d<n/\Vd ns a
 |_,_=>False
def tZ:List Nat->Nat
 |[]=>1
 |n::ns=>n*tZ ns
def rk:List Nat->List Nat->Nat
 |_::ns,d::a=>d*tZ ns+rk ns a
 |_,_=>0
def inc:List Nat->List Nat->Option (List Nat)
 |n::ns,d::a=>match inc ns a with
  |some b=>some (d::b)
  |none=>if d+1<n then some ((d+1)::List.replicate a.length 0) else none
 |_,_=>none
def Ij:∀{ns a:List Nat},Vd ns a->a.length=ns.length
 |[],[],_=>rfl
 |_::_,_::_,h=>by simp[Ij h.2]
 |[],_::_,h=>h.elim
 |_::_,[],h=>h.elim
def B0:∀{ns a:List Nat},Vd ns a->∀i,i<ns.length->nth a i<nth ns i
 |n::ns,d::a,h,i,hi=>by
  cases i with
  |zero=>exact h.1
  |succ i=>exact B0 h.2 i (by simpa using hi)
def Ik:∀{ns a:List Nat},Vd ns a->rk ns a<tZ ns
 |[],[],_=>by simp[rk,tZ]
 |n::ns,d::a,h=>by
  have ih:=Ik h.2;have h1:=uk (tZ ns) (show d+1<=n from h.1);simp only[rk,tZ];rw[rY]at h1;omega
 |[],_::_,h=>h.elim
 |_::_,[],h=>h.elim
def aij:∀{ns a b:List Nat},Vd ns a->Vd ns b->rk ns a=rk ns b->a=b
 |[],[],[],_,_,_=>rfl
 |n::ns,d::a,e::b,ha,hb,h=>by
  have h1:=Ik ha.2;have h2:=Ik hb.2;simp only[rk]at h;have hde:d=e:=by
   rcases Js d e with h3|h3|h3
   .have:=uk (tZ ns) (show d+1<=e from h3)
    rw[rY]at this;omega
   .exact h3
   .have:=uk (tZ ns) (show e+1<=d from h3)
    rw[rY]at this;omega
  subst hde;rw[aij ha.2 hb.2 (by omega)]
 |[],_::_,_,h,_,_=>h.elim
 |[],[],_::_,_,h,_=>h.elim
 |_::_,[],_,h,_,_=>h.elim
 |_::_,_::_,[],_,h,_=>h.elim
def W9:∀{ns:List Nat} {k:Nat},rk ns (List.replicate k 0)=0
 |[],k=>by cases k<;>rfl
 |_::ns,0=>rfl
 |_::ns,k+1=>by simp[CM,rk,W9]
def Xa:∀{ns:List Nat},(∀n∈ns,0<n)->Vd ns (List.replicate ns.length 0)
 |[],_=>trivial
 |n::ns,h=>⟨h n (by simp),Xa λm hm=>h m (by simp[hm])⟩
def aik:∀{ns a:List Nat},Vd ns a->match inc ns a with
  |none=>rk ns a+1=tZ ns
  |some b=>Vd ns b/\rk ns b=rk ns a+1
 |[],[],_=>by simp[inc,rk,tZ]
 |n::ns,d::a,h=>by
  have ih:=aik h.2;have hl:=Ij h.2;unfold inc;cases hi:inc ns a with
  |some b =>
   rw[hi]at ih;simp only at ih ⊢;exact⟨⟨h.1,ih.1⟩,by simp only[rk];omega⟩
  |none =>
   rw[hi]at ih;simp only at ih ⊢;have hp:∀m∈ns,0<m:=λm hm=>by
    obtain⟨i,hi,rfl⟩:=Ig hm;have:=B0 h.2 i hi;omega
   by_cases hd:d+1<n
   .simp only[hd,if_true]
    refine⟨⟨hd,by rw[hl];exact Xa hp⟩,?_⟩
    simp only[rk,W9];rw[rY];omega
   .simp only[hd,if_false]
    have:n=d+1:=by have:=h.1;omega
    subst this;simp only[rk,tZ];rw[rY];omega
 |[],_::_,h=>h.elim
 |_::_,[],h=>h.elim
def Xb:∀{ns a:List Nat},Vd ns a->(∀j,j<ns.length->nth a j+1=nth ns j)->inc ns a=none
 |[],[],_,_=>rfl
 |n::ns,d::a,h,hm=>by
  have ih:=Xb h.2 λj hj=>hm (j+1) (by simpa using hj)
  have h0:=hm 0 (by simp)
  simp only[inc,ih];have:¬d+1<n:=by simp[nth]at h0;omega
  simp[this]
 |[],_::_,h,_=>h.elim
 |_::_,[],h,_=>h.elim
def ail:∀{ns a:List Nat} {i:Nat},Vd ns a->i<ns.length->(∀j,i<j->j<ns.length->nth a j+1=nth ns j)->nth a i+1<nth ns i ->
  inc ns a=some (a.take i++(nth a i+1)::List.replicate (ns.length-1-i) 0)
 |n::ns,d::a,0,h,_,hm,bJ=>by
  have ih:=Xb h.2 λj hj=>hm (j+1) (by omega) (by simpa using hj)
  have hl:=Ij h.2;have:d+1<n:=by simpa [nth] using bJ
  simp only[inc,ih,this,if_true];simp[nth,hl]
 |n::ns,d::a,i+1,h,hi,hm,bJ=>by
  have sY:i<ns.length:=by simpa using hi
  have ih:=ail h.2 sY (λj h1 h2=>hm (j+1) (by omega) (by simpa using h2)) bJ
  simp only[inc,ih];simp[nth];omega
 |[],[],_,_,hi,_,_=>by simp at hi
 |[],_::_,_,h,_,_,_=>h.elim
 |_::_,[],_,h,_,_,_=>h.elim
def eK(R:List (List Int))(a:List Nat):List Int:=List.zipWith (λo k=>nth o k) R a
def LP:List (List Int)->List Int->Prop
 |[],[]=>True
 |o::R,q::F=>q∈o/\LP R F
 |_,_=>False
def Xc:∀{R:List (List Int)} {a:List Nat},Vd (R.map List.length) a->LP R (eK R a)
 |[],[],_=>trivial
 |o::R,d::a,h=>⟨tY h.1,Xc h.2⟩
 |[],_::_,h=>h.elim
 |_::_,[],h=>h.elim
def Xd:∀{R:List (List Int)} {F:List Int},LP R F->∃a,Vd (R.map List.length) a/\eK R a=F
 |[],[],_=>⟨[],trivial,rfl⟩
 |o::R,q::F,h=>by
  obtain⟨a,h1,h2⟩:=Xd h.2;obtain⟨d,h3,h4⟩:=Ig h.1;exact⟨d::a,⟨h3,h1⟩,by simp only[eK,List.zipWith_cons_cons]at h2 ⊢;rw[h2,h4]⟩
 |[],_::_,h=>h.elim
 |_::_,[],h=>h.elim
noncomputable def pS(us:List Un)(ss:List Us)(g:Int):List (List Int):=List.zipWith (λu s=>w8 u s g) us ss
def LQ{g:Int}:∀{us:List Un} {ss:List Us} {F:List Int},us.length=ss.length->(LP (pS us ss g) F<->oI g us ss F)
 |[],[],[],_=>Iff.rfl
 |[],[],_::_,_=>Iff.rfl
 |[],_::_,_,h=>by simp at h
 |_::_,[],_,h=>by simp at h
 |_::_,_::_,[],_=>Iff.rfl
 |u::us,s::ss,q::F,h=>by
  have ih:=LQ (g:=g) (us:=us) (ss:=ss) (F:=F) (by simpa using h)
  show(q∈w8 u s g/\LP (pS us ss g) F)<->(q∈tV u s g/\oI g us ss F);rw[aii,ih]
variable{g:Int}
def axx{u:Un}{s:Us}(hv:fH u s):0<(w8 u s g).length:=by
 have:s.cF∈w8 u s g:=by
  rw[aii,Ii];refine⟨.inr (.inr rfl),hv,?_⟩;obtain⟨hc,h1,h2⟩:=hv;unfold lD;split
  next h=>rw[h];intro h3;omega
  next h=>
   rcases h2 with h2 | ⟨h2,h3⟩
   .exact absurd h2 h
   .exact⟨h2,λh4=>h h4.1,h3⟩
 exact List.length_pos_of_mem this
def Kn(us:List Un)(ss:List Us)(R:List (List Int))(release:Int)(r:Nat):Option (List Int)->Prop
 |none=>∀b,Vd (R.map List.length) b->rk (R.map List.length) b<r->release<(eK R b).sum
 |some F=>(∃b,Vd (R.map List.length) b/\eK R b=F/\F.sum<=release) /\
   ∀b,Vd (R.map List.length) b->rk (R.map List.length) b<r->(eK R b).sum<=release->¬lG (jW us (eK R b),jX ss (eK R b)) (jW us F,jX ss F) (eK R b) F
noncomputable def yf(us:List Un)(ss:List Us)(release:Int)(P:List Int):Option (List Int)->Option (List Int)
 |none=>if P.sum<=release then some P else none
 |some F=>if P.sum<=release then (if lG (jW us P,jX ss P) (jW us F,jX ss F) P F then some P else some F) else some F
variable{ss:List Us}{release:Int}{best:Option (List Int)}
def axy{us:List Un}{R:List (List Int)}{a:List Nat}(ha:Vd (R.map List.length) a)(h:Kn us ss R release (rk (R.map List.length) a) best) :
  Kn us ss R release (rk (R.map List.length) a+1) (yf us ss release (eK R a) best):=by
 have split:∀b,Vd (R.map List.length) b->rk (R.map List.length) b<rk (R.map List.length) a+1->rk (R.map List.length) b<rk (R.map List.length) a\/b=a:=λb hb bJ=>by
  rcases cS (rk (R.map List.length) b) (rk (R.map List.length) a) with h1|h1
  .exact .inl h1
  .exact .inr (aij hb ha (by omega))
 cases best with
 |none =>
  unfold yf;by_cases hs:(eK R a).sum<=release
  .simp only[hs,if_true]
   refine⟨⟨a,ha,rfl,hs⟩,λb hb bJ zK=>?_⟩;rcases split b hb bJ with h1|rfl
   .have:=h b hb h1;omega
   .exact aih
  .simp only[hs,if_false]
   intro b hb bJ;rcases split b hb bJ with h1|rfl
   .exact h b hb h1
   .omega
 |some F =>
  obtain⟨h1,h2⟩:=h;unfold yf;by_cases hs:(eK R a).sum<=release
  .simp only[hs,if_true]
   by_cases hb:lG (jW us (eK R a),jX ss (eK R a)) (jW us F,jX ss F) (eK R a) F
   .simp only[hb,if_true]
    refine⟨⟨a,ha,rfl,hs⟩,λb kZ bJ zK=>?_⟩;rcases split b kZ bJ with h3|rfl
    .exact λh4=>h2 b kZ h3 zK (axp h4 hb)
    .exact aih
   .simp only[hb,if_false]
    refine⟨h1,λb kZ bJ zK=>?_⟩;rcases split b kZ bJ with h3|rfl
    .exact h2 b kZ h3 zK
    .exact hb
  .simp only[hs,if_false]
   refine⟨h1,λb kZ bJ zK=>?_⟩;rcases split b kZ bJ with h3|rfl
   .exact h2 b kZ h3 zK
   .omega
def aim{us:List Un}(hl:us.length=ss.length)(h:Kn us ss (pS us ss g) release (tZ ((pS us ss g).map List.length)) best) :
  match best with
  |none=>∀F,oI g us ss F->release<F.sum
  |some F=>Fy g us ss release F:=by
 cases best with
 |none =>
  intro F hF;obtain⟨b,hb,rfl⟩:=Xd ((LQ hl).2 hF);exact h b hb (Ik hb)
 |some F =>
  obtain⟨⟨b,hb,e,hs⟩,h2⟩:=h;refine⟨?_,hs,λE hE hEs=>?_⟩
  .rw[<-e];exact(LQ hl).1 (Xc hb)
  .obtain⟨c,hc,rfl⟩:=Xd ((LQ hl).2 hE)
   exact h2 c hc (Ik hc) hEs
section
attribute [local simp] mX mY lX mW
abbrev LR(R:List (List Int)):V:=.slice none 1 (R.map λo=>[ints o])
def rb(best:Option (List Int)):V:=match best with
 |none=>.cj
 |some F=>ints F
noncomputable def rv(us:List Un)(ss:List Us)(best:Option (List Int)):List V:=match best with
 |none=>[i64 0,i64 0]
 |some F=>[i64 (jW us F),i64 (jX ss F)]
def jY(a:List Nat):List V:=dM (a.map λd:Nat=>(d:Int))
def ob(o:Option (List V)):List (Nat×List V):=match o with
 |none=>[]
 |some c=>[(56,c)]
variable{best:Option (List Int)}{d:Nat}
@[simp] theorem Xe:(rb best).cI d=false:=by cases best<;>rfl
variable{ss:List Us}
@[simp] theorem aHQ{us:List Un}:((rv us ss best).all λv => !v.cQ d)=true:=by cases best<;>rfl
variable{a:List Nat}
@[simp] theorem aHR:((jY a).all λv => !v.cQ d)=true:=abM
variable{o:Option (List V)}
@[simp] theorem aHS:zi 56 (ob o)=[]:=by cases o<;>rfl
@[simp] theorem aHT:ob none=[]:=rfl
@[simp] theorem aHU{c:List V}:ob (some c)=[(56,c)]:=rfl
@[simp] theorem aHV:kp (Go.Vm.look 56 (ob o)) 56 []=ob o:=by cases o<;>rfl
variable{i:Nat}
def Il(h:i<a.length):(jY a)[i]?=some (i64 ((nth a i:Nat):Int)):=by
 have:=nG (l:=a.map λd:Nat=>(d:Int)) (i:=i) (by simpa using h)
 rw[AN h]at this;exact this
@[simp] theorem aHW:(jY a).length=a.length:=by simp[jY]
def LS:(jY a).set i (i64 (d:Int))=jY (a.set i d):=by
 simp[jY,Na]
variable{α:Type}
def axA[Inhabited α]{l m:List α}(h:l.length<=i):nth (l++m) i=nth m (i-l.length):=by
 simp[nth,wy h]
def DU[Inhabited α]{l:List α}{k:Nat}(h:i<k):nth (l.take k) i=nth l i:=by
 simp[nth,jP,h]
def axB{n:Nat}:nth (List.replicate n (0:Int)) i=0:=by
 simp only[nth,List.getD,RU];split<;>rfl
def ain{l:List Int}{B:Int}(h:∀x∈l,0<=x/\x<=B):∀j:Nat,j<=l.length->0<=(l.take j).sum/\(l.take j).sum<=B*j
 |0,_=>by simp
 |j+1,hj=>by
  have ih:=ain h j (by omega)
  have:=h _ (tY (show j<l.length from hj));rw[jV hj];simp only[Nc,R3,List.sum_nil];have e:B*((j+1:Nat):Int)=B*j+B:=by
   rw[show((j+1:Nat):Int)=(j:Int)+1 from rfl,RM,Int.mul_one]
  omega
def aio{R:List (List Int)}(h:a.length=R.length):(eK R a).length=R.length:=by simp[eK,h]
variable{release:Int}{G:List aM}{K:cT}
def axC{R:List (List Int)}{us:List Un}{fd:Bool}(hn:R.length<=6)(ha:Vd (R.map List.length) a)
  (hb:∀o∈R,∀q∈o,0<=q/\q<=1073741824)
  (hK:∀z,K (.exit 2) ⟨[(0,ma us),(1,lF ss),(3,i64 release),(11,LR R),(13,.bool fd),(14,rb best),(15,.bn 15 0),(16,.bY 53 1 R.length),(17,.bY 56 1 R.length),(18,i64 (eK R a).sum),(57,.bY 53 1 R.length),(58,i64 R.length),(59,i64 R.length),(60,z)],
   [(15,rv us ss best),(53,jY a),(56,dM (eK R a))],[],G⟩) :
  go (aX F) afO (afP (ma us) (lF ss) release (LR R) fd (rb best) R.length R.length 0 R.length R.length 0 (rv us ss best) (jY a) (dM (List.replicate R.length 0)) G) K:=by
 have uG:=Ij ha;simp only[yy]at uG;have nZ:=aio uG;have hpm:∀x∈eK R a,0<=x/\x<=1073741824:=by
  intro x hx;obtain⟨i,hi,rfl⟩:=Ig hx;rw[nZ]at hi;have h1:nth (eK R a) i=nth (nth R i) (nth a i):=Ih hi (by omega)
  have h2:=B0 ha i (by simpa using hi)
  rw[AN hi]at h2;rw[h1];exact hb _ (tY hi) _ (tY h2)
 refine go_loop (λj:Nat=>afP (ma us) (lF ss) release (LR R) fd (rb best) R.length R.length ((eK R a).take j).sum R.length R.length j (rv us ss best) (jY a) (dM ((eK R a).take j++List.replicate (R.length-j) 0)) G)
  (λj=>j<=R.length) (λj=>R.length-j) 0 rfl (by simp) (by omega) ?_
 intro j hj;have hs:=ain hpm j (by omega)
 simp (disch:=omega) [-getElem?_pos,afN];refine bO (λh1=>?_) (λh1=>?_)
 .have h1:j<R.length:=by omega
  have h2:j<a.length:=by omega
  have h3:=B0 ha j (by simpa using h1)
  rw[AN h1]at h3;have h4:nth (eK R a) j=nth (nth R j) (nth a j):=Ih h1 h2;have h5:=hpm _ (tY (show j<(eK R a).length by omega))
  have h6:(dM ((eK R a).take j++List.replicate (R.length-j) 0))[j]?=some (i64 0):=by
   rw[nG (by simp;omega),axA (by simp;omega),axB]
  have e2:((eK R a).take j++List.replicate (R.length-j) (0:Int)).set j (nth (nth R j) (nth a j))=(eK R a).take (j+1)++List.replicate (R.length-(j+1)) 0:=by
   rw[wz _ _ (by simp;omega),jV (show j<(eK R a).length by omega),h4]
   have:j-((eK R a).take j).length=0:=by simp;omega
   rw[this];obtain⟨m,hm⟩:∃m,R.length-j=m+1:=⟨R.length-j-1,by omega⟩
   rw[hm,CM,En,show R.length-(j+1)=m by omega]
   simp
  have e3:((eK R a).take (j+1)).sum=((eK R a).take j).sum+nth (nth R j) (nth a j):=by
   rw[jV (show j<(eK R a).length by omega),h4];simp
  have h7:(dM ((eK R a).take (j+1)++List.replicate (R.length-(j+1)) 0))[j]?=some (i64 (nth (nth R j) (nth a j))):=by
   rw[nG (by simp;omega),tW (by simp;omega),DU (by omega),h4]
  rw[h4]at h5;simp (disch:=omega) [-getElem?_pos,Il h2,bc (l:=R),dQ h3,h6,e2,h7];exact bB (j+1) (by simp[e3]) (by omega) (by omega)
 .obtain rfl:j=R.length:=by omega
  rw[kD (by omega)]
  simpa using hK _
noncomputable abbrev Im(us:List Un)(ss:List Us)(R:List (List Int))(release:Int)(fd:Bool)(best:Option (List Int))(x:Int)(a:List Nat)(o:Option (List V))(G:List aM):St :=
 ⟨[(0,ma us),(1,lF ss),(3,i64 release),(11,LR R),(13,.bool fd),(14,rb best),(15,.bn 15 0),(16,.bY 53 1 R.length),(26,i64 x)],(15,rv us ss best)::(53,jY a)::ob o,[],G⟩
def P5{R:List (List Int)}{us:List Un}{fd:Bool}(hn:R.length<=6)(ha:Vd (R.map List.length) a)(hlen:∀o∈R,o.length<=1000)
  (h0:∀z b,inc (R.map List.length) a=none->K (.exit 4) { Im us ss R release fd best (-1) b o G with env:=(Im us ss R release fd best (-1) b o G).env++[(124,z)] })
  (h1:∀z (i:Nat),i<R.length->nth a i+1<nth (R.map List.length) i->inc (R.map List.length) a=some (a.take i++(nth a i+1)::List.replicate (R.length-1-i) 0) ->
   K (.exit 4) { Im us ss R release fd best i (a.take (i+1)++List.replicate (R.length-1-i) 0) o G with env:=(Im us ss R release fd best i a o G).env++[(124,z)] }) :
  go (aX F) afQ (Im us ss R release fd best (R.length-1) a o G) K:=by
 have uG:=Ij ha;simp only[yy]at uG;refine go_loop (λk:Nat=>Im us ss R release fd best (k-1) (a.take k++List.replicate (R.length-k) 0) o G)
  (λk=>k<=R.length/\∀j,k<=j->j<R.length->nth a j+1=nth (R.map List.length) j) (λk=>k) R.length rfl (by rw[kD (by omega)];simp) ⟨by omega,by omega⟩ ?_
 rintro k ⟨hk,hm⟩;by_cases wV:k=0
 .subst wV
  simp +contextual (disch:=omega) [-getElem?_pos,V1];exact h0 _ _ (Xb ha λj hj=>hm j (by omega) (by simpa using hj))
 .have e1:0<=(k:Int)-1:=by omega
  have e2:((k:Int)-1).toNat=k-1:=by omega
  have h3:k-1<R.length:=by omega
  have h4:(jY (a.take k++List.replicate (R.length-k) 0))[k-1]?=some (i64 ((nth a (k-1):Nat):Int)):=by
   rw[Il (by simp;omega),tW (by simp;omega),DU (by omega)]
  have h5:=hlen _ (tY h3);have h6:=B0 ha (k-1) (by simpa using h3)
  rw[AN h3]at h6;have h7:(jY (a.take k++List.replicate (R.length-k) 0)).set (k-1) (i64 0)=jY (a.take (k-1)++List.replicate (R.length-(k-1)) 0):=by
   have:=LS (a:=a.take k++List.replicate (R.length-k) 0) (i:=k-1) (d:=0);rw[show(i64 ((0:Nat):Int))=i64 0 from rfl]at this;rw[this];congr 1;obtain⟨m,rfl⟩:∃m,k=m+1:=⟨k-1,by omega⟩
   rw[jV (show m<a.length by omega)]
   have hl:(a.take m).length=m:=by simp;omega
   rw[ov,rW,wz _ _ (by omega),hl,pA]
   simp only[ZB,En];rw[show R.length-m=(R.length-(m+1))+1 by omega,CM]
  have h8:nth (R.map List.length) (k-1)=(nth R (k-1)).length:=AN h3;simp +contextual (disch:=omega) [-getElem?_pos,V1,e1,e2,h4,bc (l:=R)];refine bO (λh9=>?_) (λh9=>?_)
  .have il:k<=(jY (a.take k++List.replicate (R.length-k) 0)).length:=by simp;omega
   simp +contextual (disch:=omega) [-getElem?_pos,il,h7];refine bB (k-1) ?_ ⟨by omega,λj a1 a2=>?_⟩ (by omega)
   .rw[show(((k-1:Nat)):Int)=(k:Int)-1 by omega]
    simp
   .rcases cS j k with mQ|mQ
    .obtain rfl:j=k-1:=by omega
     rw[h8];omega
    .exact hm j mQ a2
  .have bJ:nth a (k-1)+1<nth (R.map List.length) (k-1):=by rw[h8];omega
   have hi:=ail (i:=k-1) ha (by simpa using h3) (λj a1 a2=>hm j (by omega) (by simpa using a2)) bJ
   simp only[yy]at hi;have:=h1 (.bool (decide (((nth a (k-1):Nat):Int)=((nth R (k-1)).length:Int)-1))) (k-1) h3 bJ hi;rw[show(((k-1:Nat)):Int)=(k:Int)-1 by omega,show k-1+1=k by omega,show R.length-1-(k-1)=R.length-k by omega]at this
   exact this
variable{g:Int}
def aiq{us:List Un}(h:us.length=ss.length):(pS us ss g).length=us.length:=by simp[pS,h]
def axD(us:List Un)(ss:List Us)(g:Int):List.zipWith (P4 g) us ss=(pS us ss g).map λo=>[ints o]:=by
 rw[pS,List.map_zipWith]
def axE{us:List Un}(h:PY us ss g){o:List Int}(ho:o∈pS us ss g):(0<o.length/\o.length<=1000)/\∀q∈o,0<=q/\q<=1073741824:=by
 have hl:=h.len;obtain⟨i,hi,rfl⟩:=Ig ho;rw[aiq hl]at hi;have e:nth (pS us ss g) i=w8 (nth us i) (nth ss i) g:=Ih hi (by omega)
 rw[e];have h1:=axr (s:=nth ss i) (h.ahY i hi);refine⟨⟨axx (h.valid i hi),by omega⟩,λq hq=>?_⟩
 simp only[w8,vq,jD]at hq;exact PU hq.2
noncomputable abbrev P6(us:List Un)(ss:List Us)(R:List (List Int))(release:Int)(best:Option (List Int))(a:List Nat)(o:Option (List V))(G:List aM):St :=
 ⟨[(0,ma us),(1,lF ss),(3,i64 release),(11,LR R),(13,.bool best.isSome),(14,rb best),(15,.bn 15 0),(16,.bY 53 1 R.length)],(15,rv us ss best)::(53,jY a)::ob o,[],G⟩
def axF{R:List (List Int)}{us:List Un}(hn:R.length<=6)(y8:us.length<=6)(hRl:R.length=us.length)(yg:∀o∈R,(0<o.length/\o.length<=1000)/\∀q∈o,0<=q/\q<=1073741824)
  (qt:∀a,Vd (R.map List.length) a->Ft us ss (eK R a)=some ((eK R a).sum,jW us (eK R a),jX ss (eK R a)))
  (hz:Vd (R.map List.length) (List.replicate R.length 0))
  (hK:∀best b o z,Kn us ss R release (tZ (R.map List.length)) best->K (.exit 0) { P6 us ss R release best b o G with env:=(P6 us ss R release best b o G).env++[(26,i64 (-1)),(131,z)] }) :
  go (aX F) afS (P6 us ss R release none (List.replicate R.length 0) none G) K:=by
 refine go_loop (λx:List Nat×Option (List Int)×Option (List V)=>P6 us ss R release x.2.1 x.1 x.2.2 G) (λx=>Vd (R.map List.length) x.1/\Kn us ss R release (rk (R.map List.length) x.1) x.2.1)
  (λx=>tZ (R.map List.length)-rk (R.map List.length) x.1) (List.replicate R.length 0,none,none) rfl (by simp[rb]) ⟨hz,by simp only[W9];intro b _ h;omega⟩ ?_
 rintro⟨a,best,o⟩ ⟨ha,kS⟩;simp only at ha kS;have hrk:=Ik ha;have uG:=Ij ha;simp only[yy]at uG;have nZ:=aio uG;have jm:=aik ha;replace kS:=axy ha kS;have hva:=qt a ha;have hV:=ahU us ss (eK R a) (by omega) []
 rw[hva]at hV;simp only[Ic]at hV;have Xf:(List.replicate R.length [V.int .i64 0]).flatten=dM (List.replicate R.length 0):=by
  rw[dM];simp
 simp (disch:=omega) [-getElem?_pos,afR,Xf];refine axC hn ha (λo ho=>(yg o ho).2) λz=>?_;simp (disch:=omega) [-getElem?_pos];refine bO (λh1=>?_) (λh1=>?_)
 .have Xg:ju [none] (chunks 1 (dM (eK R a)) 0 R.length)=some ((eK R a).map λn=>[V.int .i64 n]):=OF (by omega)
  cases best with
  |none =>
   have Br:yf us ss release (eK R a) none=some (eK R a):=by simp[yf,h1]
   rw[Br]at kS;simp (disch:=omega) [-getElem?_pos,Xg,hV,rb,rv];refine P5 (best:=some (eK R a)) (o:=none) (fd:=true) hn ha (λo ho=>(yg o ho).1.2) (λz b he=>?_) (λz i hi bJ he=>?_)
   .rw[he]at jm
    simp only at jm;rw[jm]at kS;simp (disch:=omega) [-getElem?_pos,rb,rv];exact hK _ b none _ kS
   .rw[he]at jm
    simp only at jm;rw[<-jm.2]at kS;have q1:(jY (a.take (i+1)++List.replicate (R.length-1-i) 0))[i]?=some (i64 ((nth a i:Nat):Int)):=by
     rw[Il (by simp;omega),tW (by simp;omega),DU (by omega)]
    have q2:=B0 ha i (by simpa using hi)
    rw[AN hi]at q2;have q3:=(yg _ (tY hi)).1.2;have q7:¬(i:Int)<0:=by omega
    have q4:i<a.length:=by omega
    have q5:(jY (a.take (i+1)++List.replicate (R.length-1-i) 0)).set i (i64 (((nth a i:Nat):Int)+1))=jY (a.take i++(nth a i+1)::List.replicate (R.length-1-i) 0):=by
     have:=LS (a:=a.take (i+1)++List.replicate (R.length-1-i) 0) (i:=i) (d:=nth a i+1);rw[show(i64 ((nth a i+1:Nat):Int))=i64 (((nth a i:Nat):Int)+1) from rfl]at this;rw[this,jV q4,ov,wz _ _ (by simp;omega)]
     have:(a.take i).length=i:=by simp;omega
     rw[this,pA];rfl
    have q6:i<(jY (a.take (i+1)++List.replicate (R.length-1-i) 0)).length:=by simp;omega
    simp (disch:=omega) [-getElem?_pos,q1,q5,q6,q7,rb,rv];exact bB (a.take i++(nth a i+1)::List.replicate (R.length-1-i) 0,some (eK R a),none) (by simp[rb,rv]) ⟨jm.1,kS⟩ (by simp only;omega)
  |some E =>
   by_cases BY:lG (jW us (eK R a),jX ss (eK R a)) (jW us E,jX ss E) (eK R a) E
   .have Br:yf us ss release (eK R a) (some E)=some (eK R a):=by simp[yf,h1,BY]
    rw[Br]at kS;have hB:=ahT (jW us (eK R a),jX ss (eK R a)) (jW us E,jX ss E) (eK R a) E (by omega) []
    rw[fJ BY]at hB;simp (disch:=omega) [-getElem?_pos,Xg,hV,rb,rv,hB];refine P5 (best:=some (eK R a)) (o:=none) (fd:=true) hn ha (λo ho=>(yg o ho).1.2) (λz b he=>?_) (λz i hi bJ he=>?_)
    .rw[he]at jm
     simp only at jm;rw[jm]at kS;simp (disch:=omega) [-getElem?_pos,rb,rv];exact hK _ b none _ kS
    .rw[he]at jm
     simp only at jm;rw[<-jm.2]at kS;have q1:(jY (a.take (i+1)++List.replicate (R.length-1-i) 0))[i]?=some (i64 ((nth a i:Nat):Int)):=by
      rw[Il (by simp;omega),tW (by simp;omega),DU (by omega)]
     have q2:=B0 ha i (by simpa using hi)
     rw[AN hi]at q2;have q3:=(yg _ (tY hi)).1.2;have q7:¬(i:Int)<0:=by omega
     have q4:i<a.length:=by omega
     have q5:(jY (a.take (i+1)++List.replicate (R.length-1-i) 0)).set i (i64 (((nth a i:Nat):Int)+1))=jY (a.take i++(nth a i+1)::List.replicate (R.length-1-i) 0):=by
      have:=LS (a:=a.take (i+1)++List.replicate (R.length-1-i) 0) (i:=i) (d:=nth a i+1);rw[show(i64 ((nth a i+1:Nat):Int))=i64 (((nth a i:Nat):Int)+1) from rfl]at this;rw[this,jV q4,ov,wz _ _ (by simp;omega)]
      have:(a.take i).length=i:=by simp;omega
      rw[this,pA];rfl
     have q6:i<(jY (a.take (i+1)++List.replicate (R.length-1-i) 0)).length:=by simp;omega
     simp (disch:=omega) [-getElem?_pos,q1,q5,q6,q7,rb,rv];exact bB (a.take i++(nth a i+1)::List.replicate (R.length-1-i) 0,some (eK R a),none) (by simp[rb,rv]) ⟨jm.1,kS⟩ (by simp only;omega)
   .have Br:yf us ss release (eK R a) (some E)=some E:=by simp[yf,h1,BY]
    rw[Br]at kS;have hB:=ahT (jW us (eK R a),jX ss (eK R a)) (jW us E,jX ss E) (eK R a) E (by omega) []
    rw[decide_eq_false BY]at hB;simp (disch:=omega) [-getElem?_pos,Xg,hV,rb,rv,hB];refine P5 (best:=some E) (o:=none) (fd:=true) hn ha (λo ho=>(yg o ho).1.2) (λz b he=>?_) (λz i hi bJ he=>?_)
    .rw[he]at jm
     simp only at jm;rw[jm]at kS;simp (disch:=omega) [-getElem?_pos,rb,rv];exact hK _ b none _ kS
    .rw[he]at jm
     simp only at jm;rw[<-jm.2]at kS;have q1:(jY (a.take (i+1)++List.replicate (R.length-1-i) 0))[i]?=some (i64 ((nth a i:Nat):Int)):=by
      rw[Il (by simp;omega),tW (by simp;omega),DU (by omega)]
     have q2:=B0 ha i (by simpa using hi)
     rw[AN hi]at q2;have q3:=(yg _ (tY hi)).1.2;have q7:¬(i:Int)<0:=by omega
     have q4:i<a.length:=by omega
     have q5:(jY (a.take (i+1)++List.replicate (R.length-1-i) 0)).set i (i64 (((nth a i:Nat):Int)+1))=jY (a.take i++(nth a i+1)::List.replicate (R.length-1-i) 0):=by
      have:=LS (a:=a.take (i+1)++List.replicate (R.length-1-i) 0) (i:=i) (d:=nth a i+1);rw[show(i64 ((nth a i+1:Nat):Int))=i64 (((nth a i:Nat):Int)+1) from rfl]at this;rw[this,jV q4,ov,wz _ _ (by simp;omega)]
      have:(a.take i).length=i:=by simp;omega
      rw[this,pA];rfl
     have q6:i<(jY (a.take (i+1)++List.replicate (R.length-1-i) 0)).length:=by simp;omega
     simp (disch:=omega) [-getElem?_pos,q1,q5,q6,q7,rb,rv];exact bB (a.take i++(nth a i+1)::List.replicate (R.length-1-i) 0,some E,none) (by simp[rb,rv]) ⟨jm.1,kS⟩ (by simp only;omega)
 .have Br:yf us ss release (eK R a) best=best:=by
   cases best with
   |none=>simp[yf,h1]
   |some F=>simp[yf,h1]
  rw[Br]at kS;refine P5 (best:=best) (o:=(some (dM (eK R a)))) (fd:=best.isSome) hn ha (λo ho=>(yg o ho).1.2) (λz b he=>?_) (λz i hi bJ he=>?_)
  .rw[he]at jm
   simp only at jm;rw[jm]at kS;simp (disch:=omega) [-getElem?_pos,Xe];exact hK _ b (some (dM (eK R a))) _ kS
  .rw[he]at jm
   simp only at jm;rw[<-jm.2]at kS;have q1:(jY (a.take (i+1)++List.replicate (R.length-1-i) 0))[i]?=some (i64 ((nth a i:Nat):Int)):=by
    rw[Il (by simp;omega),tW (by simp;omega),DU (by omega)]
   have q2:=B0 ha i (by simpa using hi)
   rw[AN hi]at q2;have q3:=(yg _ (tY hi)).1.2;have q7:¬(i:Int)<0:=by omega
   have q4:i<a.length:=by omega
   have q5:(jY (a.take (i+1)++List.replicate (R.length-1-i) 0)).set i (i64 (((nth a i:Nat):Int)+1))=jY (a.take i++(nth a i+1)::List.replicate (R.length-1-i) 0):=by
    have:=LS (a:=a.take (i+1)++List.replicate (R.length-1-i) 0) (i:=i) (d:=nth a i+1);rw[show(i64 ((nth a i+1:Nat):Int))=i64 (((nth a i:Nat):Int)+1) from rfl]at this;rw[this,jV q4,ov,wz _ _ (by simp;omega)]
    have:(a.take i).length=i:=by simp;omega
    rw[this,pA];rfl
   have q6:i<(jY (a.take (i+1)++List.replicate (R.length-1-i) 0)).length:=by simp;omega
   simp (disch:=omega) [-getElem?_pos,q1,q5,q6,q7,Xe];exact bB (a.take i++(nth a i+1)::List.replicate (R.length-1-i) 0,best,(some (dM (eK R a)))) (by simp[Xe]) ⟨jm.1,kS⟩ (by simp only;omega)
def axH(us:List Un)(ss:List Us)(g release:Int)(G:List aM):∃t,aX F 160 [ma us,lF ss,i64 g,i64 release] G=some (.tuple [.slice t 1 ((jo us ss g release).map λn=>[i64 n]),i64 (mc us ss g release)],G):=by
 suffices h:∀Q:V->Prop,(∀t,Q (.tuple [.slice t 1 ((jo us ss g release).map λn=>[i64 n]),i64 (mc us ss g release)]))->gz (aX F) 160 [ma us,lF ss,i64 g,i64 release] G λv G'=>Q v/\G'=G by
  obtain⟨_,_,h,⟨t,rfl⟩,rfl⟩:=h (λv=>∃t,v=.tuple [.slice t 1 ((jo us ss g release).map λn=>[i64 n]),i64 (mc us ss g release)]) λt=>⟨t,rfl⟩;exact⟨t,h⟩
 intro Q hQ;refine gN rfl rfl ?_;have LU:=axq us ss g [];by_cases hw:DS us ss g=0
 .obtain⟨w1,w2,w3,w4⟩:us.length<=6/\us.length=ss.length/\Fu us ss/\(1<=g/\g<=1073741824):=by
   unfold DS at hw;split at hw
   .cases hw
   .split at hw
    .cases hw
    .split at hw
     .cases hw
     .split at hw
      .cases hw
      next a1 a2 a3 a4=>
       exact⟨by omega,jf a2,jf a3,by omega⟩
  have sE:tX us ss g release=if g<1\/1073741824<g\/release<0\/1073741824<release then 1 else if 200*g<release then 10 else if ¬Fv us g then 10 else 0:=by
   unfold tX;rw[ax',ax (λh=>h w2),ax (λh=>h w3)]
  by_cases hr:release<0\/1073741824<release
  .rw[aJ']at sE
   have eL:jo us ss g release=[]:=by simp[jo,sE]
   have eE:mc us ss g release=1:=by simp[mc,sE]
   rw[eL,eE]at hQ;have h8:(!decide (0<=release) || !decide (release<=1073741824))=true:=by simp;omega
   simp (disch:=omega) [H0,LU,hw,dj,h8];exact hQ _
  .rw[ax']at sE
   have h8:(!decide (0<=release) || !decide (release<=1073741824))=false:=by simp;omega
   by_cases h9:200*g<release
   .rw[aJ h9]at sE
    have eL:jo us ss g release=[]:=by simp[jo,sE]
    have eE:mc us ss g release=10:=by simp[mc,sE]
    rw[eL,eE]at hQ;simp (disch:=omega) [H0,LU,hw,dj,h8,h9];exact hQ _
   .rw[ax h9]at sE
    have hA:=axv w2 (by omega) w3 g []
    by_cases hF:Fv us g
    .rw[ax (λh=>h hF)]at sE
     have hE:DT us g=0:=by simp[DT,hF]
     rw[hE,aJ rfl,axD]at hA;have h0:=(W6 sE).1;have FA:=aia h0 (left:=release) (by omega)
     have eL:jo us ss g release=(pj (kB us ss g) release).getD []:=by simp[jo,sE]
     have eE:mc us ss g release=if pj (kB us ss g) release=none then 9 else 0:=by simp[mc,sE]
     have hRl:=aiq (g:=g) w2;have yg:=λo (ho:o∈pS us ss g)=>axE h0 ho;have qt:∀a,Vd ((pS us ss g).map List.length) a->Ft us ss (eK (pS us ss g) a)=some ((eK (pS us ss g) a).sum,jW us (eK (pS us ss g) a),jX ss (eK (pS us ss g) a)):=λa ha=>aid ((LQ w2).1 (Xc ha));have axI:Kn us ss (pS us ss g) release (tZ ((pS us ss g).map List.length)) none->∀F,oI g us ss F->release<F.sum:=aim (g:=g) w2;have axJ:∀F,Kn us ss (pS us ss g) release (tZ ((pS us ss g).map List.length)) (some F)->Fy g us ss release F:=λF=>aim (g:=g) w2;generalize hR:pS us ss g=R at *
     have hz:Vd (R.map List.length) (List.replicate R.length 0):=by
      have:=Xa (ns:=R.map List.length) λn hn=>by
       obtain⟨o,ho,rfl⟩:=nU.1 hn;exact(yg o ho).1.1
      simpa using this
     simp (disch:=omega) [H0,LU,hw,dj,h8,h9,hA];have Xf:List.replicate R.length (V.int .i64 0)=jY (List.replicate R.length 0):=by simp[jY,dM]
     rw[Xf];refine axF (us:=us) (ss:=ss) (release:=release) (by omega) w1 hRl yg qt hz λbest b o z kS=>?_
     cases best with
     |none =>
      have hb:=axI kS;have kI:pj (kB us ss g) release=none:=by
       cases hc:pj (kB us ss g) release with
       |none=>rfl
       |some F =>
        rw[hc]at FA;have:=hb F FA.oI;have:=FA.sum;omega
      rw[eL,eE,kI]at hQ;simp only[if_true,R7]at hQ;simp (disch:=omega) [rb];exact hQ _
     |some F =>
      have hb:=axJ F kS;have hso:pj (kB us ss g) release=some F:=by
       cases hc:pj (kB us ss g) release with
       |none =>
        rw[hc]at FA;have:=FA F hb.oI;have:=hb.sum;omega
       |some E =>
        rw[hc]at FA;rw[Fy.unique FA hb]
      rw[eL,eE,hso]at hQ;simp only[Nm,reduceCtorEq,if_false]at hQ;simp (disch:=omega) [rb];exact hQ _
    .rw[aJ hF]at sE
     have hE:DT us g=10:=by simp[DT,hF]
     have eL:jo us ss g release=[]:=by simp[jo,sE]
     have eE:mc us ss g release=10:=by simp[mc,sE]
     rw[hE,ax']at hA
     rw[eL,eE]at hQ;simp (disch:=omega) [H0,LU,hw,dj,h8,h9,hA];exact hQ _
 .have sE:tX us ss g release=DS us ss g:=by
   unfold DS at hw ⊢;unfold tX;split
   .rfl
   .split
    .rfl
    .split
     .rfl
     next a1 a2 a3=>
      simp only[a1,a2,a3,if_false]at hw;split at hw
      .rw[aJ',aJ (by assumption)]
      .exact absurd rfl hw
  have axL:¬tX us ss g release=0:=by rw[sE];exact hw
  have eL:jo us ss g release=[]:=by simp[jo,axL]
  have eE:mc us ss g release=DS us ss g:=by simp[mc,sE,hw]
  rw[eL,eE]at hQ;simp (disch:=omega) [H0,LU,hw];exact hQ _
end
section
attribute [local simp] mX mY lX mW
structure Gs where
 o:Int
 j:Bool
 deriving Inhabited,DecidableEq
abbrev Gs.row(s:Gs):List V:=[i64 s.o,.bool s.j]
abbrev gs(s:Gs):V:=.agg s.row
abbrev lH(l:List Gt):V:=.slice none 3 (l.map Gt.row)
abbrev lq(l:List Gs):V:=.slice none 2 (l.map Gs.row)
def yh(l:List Rt)(lv:Int):Option (List Pt):=l.foldl (λa r=>if r.lv<=lv then some r.c else a) none
def uY(l:List Rt)(lv:Int):List Pt:=(yh l lv).getD []
variable{lv:Int}
def LV{l:List Rt}{r:Rt}:yh (l++[r]) lv=if r.lv<=lv then some r.c else yh l lv:=by
 simp[yh,List.foldl_append]
def DV:Option (List Pt)->V
 |none=>.cj
 |some c=>jK c
variable{o:Option (List Pt)}
@[simp] theorem aHY{d:Nat}:(DV o).cQ d=false:=by cases o<;>rfl
@[simp] theorem aHZ:(DV o).c5=true:=by cases o<;>rfl
def wc(c:List Pt)(o:Int):Int:=if c.length=0 then 0 else jy c o
structure Gv(g:Gt):Prop where
 cur:∀i,i<g.r.length->iu (nth g.r i).c=0
 top:∀i,i<g.r.length->(nth (nth g.r i).c ((nth g.r i).c.length-1)).y<=1073741824
 bot:∀i,i<g.r.length->(nth (nth g.r i).c 0).x=0/\(nth (nth g.r i).c 0).y=0
 l8:0<g.r.length/\g.r.length<=10
 dF:0<=g.dF/\g.dF<=1000
 move:0<=g.move/\g.move<=1000
def ais{g:Gt}(h:mb g=0):Gv g:=by
 unfold mb at h;split at h
 .cases h
 split at h
 .cases h
 split at h
 next h3=>exact absurd h h3
 split at h
 .cases h
 rename_i h1 h2 h3 h4;have h3:dH (rf g.r) g.r.length 0=0:=jf h3;have at_:∀i,i<g.r.length->iu (nth g.r i).c=0/\((nth (nth g.r i).c 0).x=0/\(nth (nth g.r i).c 0).y=0)/\(nth (nth g.r i).c ((nth g.r i).c.length-1)).y<=1073741824:=λi hi=>by
  have:=tT h3 i (by omega) (by omega)
  unfold rf at this;split at this
  .cases this
  split at this
  .cases this
  split at this
  next h5=>exact absurd this h5
  split at this
  .cases this
  split at this
  .cases this
  rename_i h5 h6 h7;exact⟨jf h5,jf h6,by omega⟩
 exact⟨λi hi=>(at_ i hi).1,λi hi=>(at_ i hi).2.2,λi hi=>(at_ i hi).2.1,by omega,by omega,by omega⟩
def ait{P:List Pt->Prop}{l:List Rt}(h:∀i,i<l.length->P (nth l i).c):uY l lv=[]\/P (uY l lv):=by
 have key:∀k,k<=l.length->∀c,yh (l.take k) lv=some c->P c:=by
  intro k;induction k with
  |zero=>intro _ c hc;simp[yh]at hc
  |succ k ih =>
   intro hk c hc;rw[jV (by omega),LV]at hc
   split at hc
   .cases hc;exact h k (by omega)
   .exact ih (by omega) c hc
 have:=key l.length (b8 _);rw[mL]at this;unfold uY;cases hc:yh l lv with
 |none=>exact .inl rfl
 |some c=>exact .inr (this c hc)
def aiu{g:Gt}(hv:Gv g)(lv:Int)(G:List aM):∃t,aX F 236 [gt g,i64 lv] G=some (.agg [.slice t 2 ((uY g.r lv).map Pt.row),i64 0],G):=by
 suffices h:∀Q:V->List aM->Prop,(∀t,Q (.agg [.slice t 2 ((uY g.r lv).map Pt.row),i64 0]) G)->gz (aX F) 236 [gt g,i64 lv] G Q by
  obtain⟨_,_,h,t,rfl,rfl⟩:=h (λv G'=>∃t,v=.agg [.slice t 2 ((uY g.r lv).map Pt.row),i64 0]/\G'=G) λt=>⟨t,rfl,rfl⟩;exact⟨t,h⟩
 intro Q hQ;obtain⟨l,dF,move⟩:=g;have Ib:=hv.l8;simp only at Ib;refine gN rfl rfl ?_;simp (disch:=omega) [-getElem?_pos,ag0];refine go_loop (λi:Nat=>avV lv (Fs l) l.length i [.cj,i64 0] [DV (yh (l.take i) lv),i64 0] G) (λi=>i<=l.length) (λi=>l.length-i) 0 rfl (by simp[yh,DV]) (by omega) ?_
 rintro i hi;simp (disch:=omega) [-getElem?_pos,agZ];refine bO (λh3=>?_) (λh3=>?_)
 .have h3:i<l.length:=by omega
  by_cases h4:(nth l i).lv<=lv
  .simp (disch:=omega) [-getElem?_pos,bc (l:=l),h3,h4]
   refine bB (i+1) (by simp[jV h3,LV,h4,DV]) (by omega) (by omega)
  .simp (disch:=omega) [-getElem?_pos,bc (l:=l),h3,h4]
   refine bB (i+1) (by simp[jV h3,LV,h4,DV]) (by omega) (by omega)
 .obtain rfl:i=l.length:=by omega
  rw[mL];cases hc:yh l lv with
  |none =>
   simp only[uY,hc]at hQ;simp (disch:=omega) [-getElem?_pos,DV];exact hQ _
  |some c =>
   simp only[uY,hc]at hQ;simp (disch:=omega) [-getElem?_pos,DV];exact hQ _
variable{c:List Pt}
def Xh(h:c=[]\/iu c=0)(w o:Int)(G:List aM):aX F 238 [.agg [jK c,i64 w],i64 o] G=some (i64 (wc c o),G) :=
 bD rfl rfl (by
  rcases h with rfl|h
  .simp[Ws,wc]
  .have hp:=w6 h
   have h1:¬ c.length=0:=by omega
   have h2:¬ (c.length:Int)=0:=by omega
   simp[Ws,wc,PL (oG h),h1,h2])
def axM(h:c=[]\/iu c=0)(w o:Int)(G:List aM):aX F 235 [.agg [jK c,i64 w],i64 o] G=some (.bool (decide (w<=wc c o)),G) :=
 bD rfl rfl (by
  simp[agY,Xh h])
def km(g:Gt)(o lv:Int):Int:=wc (uY g.r lv) o
def axN{g:Gt}(h:Gv g)(o lv:Int)(G:List aM):aX F 202 [gt g,i64 o,i64 lv] G=some (i64 (km g o lv),G) :=
 bD rfl rfl (by
  obtain⟨l,dF,move⟩:=g;have Xi:=h.cur;have Ib:=h.l8;simp only at Xi Ib;generalize hW:km ⟨l,dF,move⟩ o lv=W;unfold km uY at hW;simp only at hW;simp (disch:=omega) [-getElem?_pos,agr];refine go_loop (λi:Nat=>au5 o lv (wc ((yh (l.take i) lv).getD []) o) (Fs l) l.length i G) (λi=>i<=l.length) (λi=>l.length-i) 0 rfl (by simp[yh,wc]) (by omega) ?_
  rintro i hi;simp (disch:=omega) [-getElem?_pos,agq];refine bO (λh3=>?_) (λh3=>?_)
  .have h3:i<l.length:=by omega
   have hp:=w6 (Xi i h3);have hn:¬ (nth l i).c=[]:=λe=>by rw[e]at hp;simp at hp
   by_cases h4:(nth l i).lv<=lv
   .simp (disch:=omega) [-getElem?_pos,bc (l:=l),h3,h4,WH,Xi]
    refine bB (i+1) (by simp[jV h3,LV,h4,wc,hn]) (by omega) (by omega)
   .simp (disch:=omega) [-getElem?_pos,bc (l:=l),h3,h4]
    refine bB (i+1) (by simp[jV h3,LV,h4]) (by omega) (by omega)
  .obtain rfl:i=l.length:=by omega
   rw[mL];simp (disch:=omega) [-getElem?_pos,hW])
def pU(g:Gt)(s:Gs):Prop:=0<=s.o/\s.o<=g.dF
instance {g:Gt} {s:Gs}:Decidable (pU g s):=inferInstanceAs (Decidable (_/\_))
def fI(g:Gt)(s:Gs):Bd:=if s.j then ⟨s.o,s.o⟩ else ⟨max (s.o-g.move) 0,min (s.o+g.move) g.dF⟩
def aiv{g:Gt}{s:Gs}(h:Gv g)(hs:pU g s)(G:List aM):aX F 237 [gt g,gs s] G=some (.agg (fI g s).row,G) :=
 bD rfl rfl (by
  obtain⟨l,dF,move⟩:=g;obtain⟨o,j⟩:=s;have h1:=h.dF;have h2:=h.move;have h3:=hs.1;have h4:=hs.2;simp only at h1 h2 h3 h4;cases j with
  |true=>simp (disch:=omega) [Wr,fI]
  |false =>
   have e1:max (0:Int) (o-move)=max (o-move) 0:=RL _ _;have e2:min dF (o+move)=min (o+move) dF:=MX _ _;simp (disch:=omega) [Wr,fI,e1,e2])
def axO{g:Gt}{s:Gs}(h:Gv g)(hs:pU g s)(G:List aM):aX F 201 [gt g,gs s] G=some (.agg (fI g s).row,G) :=
 bD rfl rfl (by
  obtain⟨l,dF,move⟩:=g;obtain⟨o,j⟩:=s;have h1:=h.dF;have h2:=h.move;have h3:=hs.1;have h4:=hs.2;simp only at h1 h2 h3 h4;cases j with
  |true=>simp (disch:=omega) [We,fI]
  |false =>
   have e1:max (0:Int) (o-move)=max (o-move) 0:=RL _ _;have e2:min dF (o+move)=min (o+move) dF:=MX _ _;simp (disch:=omega) [We,fI,e1,e2])
def P7(g:Gt)(s:Gs)(G:List aM):aX F 252 [gt g,gs s] G=some (.bool (decide (pU g s)),G) :=
 bD rfl rfl (by
  simp[Wu,V0,dZ,dj,pU];by_cases h1:0<=s.o<;>by_cases h2:s.o<=g.dF<;>simp[h1,h2])
def DW(g:Gt)(s:Gs)(G:List aM):aX F 159 [gt g,gs s] G=some (.bool (decide (pU g s)),G) :=
 bD rfl rfl (by
  simp[Wu,V0,dZ,dj,pU];by_cases h1:0<=s.o<;>by_cases h2:s.o<=g.dF<;>simp[h1,h2])
def B3(g:List Gt)(s:List Gs):Prop:=∀i,i<g.length->pU (nth g i) (nth s i)
noncomputable instance {g:List Gt} {s:List Gs}:Decidable (B3 g s):=Classical.propDecidable _
noncomputable def aE(g:List Gt)(s:List Gs)(lv:Int):Int :=
 if 8<g.length then 10 else if g.length≠s.length then 3 else if ¬B3 g s then 3
 else if dH (λi=>mb (nth g i)) g.length 0≠0 then dH (λi=>mb (nth g i)) g.length 0 else if ¬(0<=lv/\lv<=16777216) then 1 else 0
def aiw(g:List Gt)(s:List Gs)(lv:Int)(G:List aM):aX F 247 [lH g,lq s,i64 lv] G=some (i64 (aE g s lv),G) :=
 bD rfl rfl (by
  generalize hW:aE g s lv=W;unfold aE at hW;simp (disch:=omega) [-getElem?_pos,Wt,V3];refine bO (λh1=>?_) (λh1=>jb (λh2=>?_) (λh2=>?_))
  .rw[aJ']at hW
   exact hW
  .simp[-List.length_eq_zero_iff,-Int.natCast_eq_zero]at h2
   rw[ax',aJ']at hW
   exact hW
  .simp[-List.length_eq_zero_iff,-Int.natCast_eq_zero]at h2
   rw[ax',ax']at hW
   have hl:g.length=s.length:=by omega
   refine go_loop (λi:Nat=>awa (lH g) (lq s) lv (lH g) g.length i G) (λi=>i<=g.length/\∀j,j<i->pU (nth g j) (nth s j)) (λi=>g.length-i) 0 rfl (by simp) ⟨by omega,by omega⟩ ?_
   rintro i ⟨hi,hv⟩;simp (disch:=omega) [-getElem?_pos,ahc];refine bO (λh3=>?_) (λh3=>?_)
   .have h3:i<g.length:=by omega
    by_cases h4:pU (nth g i) (nth s i)
    .simp (disch:=omega) [-getElem?_pos,bc (l:=g),bc (l:=s),P7,DW,h4]
     refine bB' (i+1) ⟨by omega,λj hj=>?_⟩
     rcases cS j i with h5|h5
     .exact hv j h5
     .rwa [show j=i by omega]
    .rw[aJ (λh=>h4 (h i h3))]at hW
     simp (disch:=omega) [-getElem?_pos,bc (l:=g),bc (l:=s),P7,DW,h4];exact hW
   .obtain rfl:i=g.length:=by omega
    rw[ax (λh=>h hv)]at hW;refine go_loop (λi:Nat=>awc lv (lH g) g.length i G) (λi=>i<=g.length/\dH (λi=>mb (nth g i)) (g.length-i) i=dH (λi=>mb (nth g i)) g.length 0) (λi=>g.length-i) 0 rfl (by simp) ⟨by omega,rfl⟩ ?_
    rintro i ⟨hi,hq⟩;simp (disch:=omega) [-getElem?_pos,ahd];refine bO (λh3=>?_) (λh3=>?_)
    .have h3:i<g.length:=by omega
     rw[kl h3]at hq;by_cases h4:mb (nth g i)=0
     .rw[aJ h4]at hq
      simp (disch:=omega) [-getElem?_pos,bc (l:=g),DP,DQ,h4];exact bB' (i+1) ⟨by omega,hq⟩
     .rw[ax h4]at hq
      rw[<-hq,aJ h4]at hW;simp (disch:=omega) [-getElem?_pos,bc (l:=g),DP,DQ,h4];exact hW
    .obtain rfl:i=g.length:=by omega
     rw[l7]at hq;rw[<-hq,ax']at hW
     by_cases m1:0<=lv/\lv<=16777216
     .have m2:(!decide (0<=lv) || !decide (lv<=16777216))=false:=by simp;omega
      rw[ax']at hW
      simp (disch:=omega) [-getElem?_pos,dZ,dj,m2];exact hW
     .have m2:(!decide (0<=lv) || !decide (lv<=16777216))=true:=by simp;omega
      rw[aJ']at hW
      simp (disch:=omega) [-getElem?_pos,dZ,dj,m2];exact hW)
def P8(g:List Gt)(s:List Gs)(lv:Int)(G:List aM):aX F 163 [lH g,lq s,i64 lv] G=some (i64 (aE g s lv),G) :=
 bD rfl rfl (by
  generalize hW:aE g s lv=W;unfold aE at hW;simp (disch:=omega) [-getElem?_pos,Wt,V3];refine bO (λh1=>?_) (λh1=>jb (λh2=>?_) (λh2=>?_))
  .rw[aJ']at hW
   exact hW
  .simp[-List.length_eq_zero_iff,-Int.natCast_eq_zero]at h2
   rw[ax',aJ']at hW
   exact hW
  .simp[-List.length_eq_zero_iff,-Int.natCast_eq_zero]at h2
   rw[ax',ax']at hW
   have hl:g.length=s.length:=by omega
   refine go_loop (λi:Nat=>auC (lH g) (lq s) lv (lH g) g.length i G) (λi=>i<=g.length/\∀j,j<i->pU (nth g j) (nth s j)) (λi=>g.length-i) 0 rfl (by simp) ⟨by omega,by omega⟩ ?_
   rintro i ⟨hi,hv⟩;simp (disch:=omega) [-getElem?_pos,afU];refine bO (λh3=>?_) (λh3=>?_)
   .have h3:i<g.length:=by omega
    by_cases h4:pU (nth g i) (nth s i)
    .simp (disch:=omega) [-getElem?_pos,bc (l:=g),bc (l:=s),P7,DW,h4]
     refine bB' (i+1) ⟨by omega,λj hj=>?_⟩
     rcases cS j i with h5|h5
     .exact hv j h5
     .rwa [show j=i by omega]
    .rw[aJ (λh=>h4 (h i h3))]at hW
     simp (disch:=omega) [-getElem?_pos,bc (l:=g),bc (l:=s),P7,DW,h4];exact hW
   .obtain rfl:i=g.length:=by omega
    rw[ax (λh=>h hv)]at hW;refine go_loop (λi:Nat=>auE lv (lH g) g.length i G) (λi=>i<=g.length/\dH (λi=>mb (nth g i)) (g.length-i) i=dH (λi=>mb (nth g i)) g.length 0) (λi=>g.length-i) 0 rfl (by simp) ⟨by omega,rfl⟩ ?_
    rintro i ⟨hi,hq⟩;simp (disch:=omega) [-getElem?_pos,afV];refine bO (λh3=>?_) (λh3=>?_)
    .have h3:i<g.length:=by omega
     rw[kl h3]at hq;by_cases h4:mb (nth g i)=0
     .rw[aJ h4]at hq
      simp (disch:=omega) [-getElem?_pos,bc (l:=g),DP,DQ,h4];exact bB' (i+1) ⟨by omega,hq⟩
     .rw[ax h4]at hq
      rw[<-hq,aJ h4]at hW;simp (disch:=omega) [-getElem?_pos,bc (l:=g),DP,DQ,h4];exact hW
    .obtain rfl:i=g.length:=by omega
     rw[l7]at hq;rw[<-hq,ax']at hW
     by_cases m1:0<=lv/\lv<=16777216
     .have m2:(!decide (0<=lv) || !decide (lv<=16777216))=false:=by simp;omega
      rw[ax']at hW
      simp (disch:=omega) [-getElem?_pos,dZ,dj,m2];exact hW
     .have m2:(!decide (0<=lv) || !decide (lv<=16777216))=true:=by simp;omega
      rw[aJ']at hW
      simp (disch:=omega) [-getElem?_pos,dZ,dj,m2];exact hW)
variable{i:Nat}
def axP:sx c i (nth c (i-1)).x=(nth c (i-1)).y:=by simp[sx]
variable{x:Int}
def axQ(h:Cv c){k:Nat}(hk:k<c.length)(hx:x<=(nth c k).x):jy c x<=(nth c k).y:=by
 rcases WE h x with h1 | ⟨i,a,b,d,e⟩ | h1
 .rw[Fo h h1];exact h.le (by omega) hk
 .rw[AH h a b d e]
  have h2:=Lz h a b d e;rcases cS k i with h3|h3
  .rcases cS k (i-1) with h4|h4
   .have:=h.lt h4 (by omega);omega
   .obtain rfl:k=i-1:=by omega
    have:x=(nth c (i-1)).x:=by omega
    rw[this,axP];omega
  .have:=h.le h3 hk
   unfold sx;omega
 .have hp:=h.pos
  rcases cS k (c.length-1) with h4|h4
  .have:=h.lt h4 (by omega);omega
  .obtain rfl:k=c.length-1:=by omega
   rw[PK h h1];omega
def Xj(h:Cv c){x':Int}(hx:x<=x'):jy c x<=jy c x':=by
 rcases WE h x' with h1 | ⟨i,a,b,d,e⟩ | h1
 .rw[Fo h h1,Fo h (by omega)];omega
 .by_cases h2:(nth c (i-1)).x<=x
  .rw[AH h a b d e,AH h a b h2 (by omega)]
   have h3:=h.up i a b;have h4:=h.mono i a b;unfold sx;have:=Int.tdiv_le_tdiv (a:=((nth c i).y-(nth c (i-1)).y)*(x-(nth c (i-1)).x)) (b:=((nth c i).y-(nth c (i-1)).y)*(x'-(nth c (i-1)).x)) (c:=(nth c i).x-(nth c (i-1)).x) (by omega)
    (MZ (by omega) (by omega))
   omega
  .have h5:=axQ h (k:=i-1) (by omega) (x:=x) (by omega)
   have h6:=Lz h a b d e;rw[AH h a b d e];unfold sx;omega
 .rw[PK h h1]
  exact(H6 h x).2
variable{o':Int}
def axR(h:c=[]\/iu c=0){o:Int}(ho:o<=o'):wc c o<=wc c o':=by
 rcases h with rfl|h
 .simp[wc]
 .unfold wc
  rw[ax (by have:=w6 h;omega),ax (by have:=w6 h;omega)]
  exact Xj (oG h) ho
def Xk{g:Gt}(h:Gv g)(lv:Int):uY g.r lv=[]\/iu (uY g.r lv)=0:=ait (P:=λc=>iu c=0) h.cur
def axS{g:Gt}(h:Gv g){o:Int}(ho:o<=o'):km g o lv<=km g o' lv:=axR (Xk h lv) ho
def w9{g:Gt}(h:Gv g)(o lv:Int):0<=km g o lv/\km g o lv<=1073741824:=by
 unfold km wc;have h1:=ait (P:=λc=>iu c=0/\(nth c (c.length-1)).y<=1073741824) (l:=g.r) (lv:=lv) (λi hi=>⟨h.cur i hi,h.top i hi⟩);rcases h1 with h1 | ⟨h1,h2⟩
 .rw[h1];simp
 .rw[ax (by have:=w6 h1;omega)]
  have h3:=H6 (oG h1) o;have h4:=(oG h1).y0 0 (w6 h1);omega
variable{g:List Gt}{s:List Gs}
def LW(h:aE g s lv=0):g.length<=8/\g.length=s.length/\B3 g s/\(∀i,i<g.length->Gv (nth g i))/\0<=lv/\lv<=16777216:=by
 unfold aE at h;split at h
 .cases h
 split at h
 .cases h
 split at h
 .cases h
 split at h
 next h1=>exact absurd h h1
 split at h
 .cases h
 rename_i h1 h2 h3 h4 h5;have h4:=jf h4;exact⟨by omega,by omega,jf h3,λi hi=>ais (tT h4 i (by omega) (by omega)),by omega⟩
def nK(f:Gt->Gs->Int)(g:List Gt)(s:List Gs)(i:Nat):Int:=(List.zipWith f (g.take i) (s.take i)).sum
variable{f:Gt->Gs->Int}
def LX:nK f g s 0=0:=by simp[nK]
def FB(h1:i<g.length)(h2:i<s.length):nK f g s (i+1)=nK f g s i+f (nth g i) (nth s i):=by
 unfold nK;rw[BX h1 h2,Nc];simp
def Xl(hl:g.length=s.length)(h:∀i,i<g.length->0<=f (nth g i) (nth s i)/\f (nth g i) (nth s i)<=1073741824):∀i,i<=g.length->0<=nK f g s i/\nK f g s i<=1073741824*i:=by
 intro i;induction i with
 |zero=>intro _;rw[LX];omega
 |succ i ih =>
  intro hi;rw[FB (by omega) (by omega)]
  have:=ih (by omega)
  have:=h i (by omega)
  omega
def iv(lv:Int)(g:Gt)(s:Gs):Int:=km g (fI g s).lo lv
def P9(lv:Int)(g:Gt)(s:Gs):Int:=km g (fI g s).hi lv
noncomputable def Io(g:List Gt)(s:List Gs)(lv:Int):V:=if aE g s lv=0 then .tuple [.agg [i64 (nK (iv lv) g s g.length),i64 (nK (P9 lv) g s g.length)],i64 0] else .tuple [.agg [i64 0,i64 0],i64 (aE g s lv)]
def Xm(g:List Gt)(s:List Gs)(lv:Int)(G:List aM):aX F 234 [lH g,lq s,i64 lv] G=some (Io g s lv,G) :=
 bD rfl rfl (by
  generalize hW:Io g s lv=W;unfold Io at hW;by_cases he:aE g s lv=0
  .rw[aJ he]at hW
   obtain⟨h1,h2,h3,h4,h5⟩:=LW he;have r1:=Xl (f:=iv lv) h2 (λi hi=>w9 (h4 i hi) _ _);have r2:=Xl (f:=P9 lv) h2 (λi hi=>w9 (h4 i hi) _ _);simp (disch:=omega) [-getElem?_pos,Wq,aiw,he];refine go_loop (λi:Nat=>avT (lq s) lv (lH g) g.length i [i64 0,i64 0] [i64 (nK (iv lv) g s i),i64 (nK (P9 lv) g s i)] G) (λi=>i<=g.length) (λi=>g.length-i) 0 rfl (by simp[LX]) (by omega) ?_
   rintro i hi;simp (disch:=omega) [-getElem?_pos,agX];refine bO (λh6=>?_) (λh6=>?_)
   .have h6:i<g.length:=by omega
    have h7:i<s.length:=by omega
    obtain⟨t,ht⟩:=aiu (h4 i h6) lv [];have hr:=aiv (h4 i h6) (h3 i h6);have hf:=Xh (Xk (h4 i h6) lv);have b1:=r1 i (by omega)
    have b2:=r2 i (by omega)
    have b3:=w9 (h4 i h6) (fI (nth g i) (nth s i)).lo lv;have b4:=w9 (h4 i h6) (fI (nth g i) (nth s i)).hi lv;unfold km at b3 b4;simp (disch:=omega) [-getElem?_pos,bc (l:=g),bc (l:=s),ht,hr,hf];exact bB (i+1) (by simp[FB h6 h7,iv,P9,km]) (by omega) (by omega)
   .obtain rfl:i=g.length:=by omega
    exact hW
  .rw[ax he]at hW
   simp (disch:=omega) [-getElem?_pos,Wq,aiw,he];exact hW)
def nL(f:Bd->Int)(g:List Gt)(s:List Gs):List Int:=List.zipWith (λg s=>f (fI g s)) g s
def DX{f:Bd->Int}(h:g.length=s.length):(nL f g s).length=g.length:=by simp[nL,h]
def LY{f:Bd->Int}(h1:i<g.length)(h2:i<s.length):nth (nL f g s) i=f (fI (nth g i) (nth s i)):=Ih h1 h2
def axT(hl:g.length=s.length)(hn:g.length<=8)(hs:B3 g s)(hv:∀i,i<g.length->Gv (nth g i))(G:List aM) :
  aX F 164 [lH g,lq s] G=some (.tuple [own (nL Bd.lo g s),own (nL Bd.hi g s)],G) :=
 bD rfl rfl (by
  simp (disch:=omega) [-getElem?_pos,afX];refine go_loop (λi:Nat=>auG (lq s) (.slice (some 1028) 1 ((nL Bd.lo (g.take i) (s.take i)).map λn=>[i64 n])) (.slice (some 1033) 1 ((nL Bd.hi (g.take i) (s.take i)).map λn=>[i64 n])) (lH g) g.length i i i G) (λi=>i<=g.length) (λi=>g.length-i) 0 rfl (by simp[nL]) (by omega) ?_
  rintro i hi;have e1:(nL Bd.lo (g.take i) (s.take i)).length=i:=by rw[DX (by simp;omega)];simp;omega
  have e2:(nL Bd.hi (g.take i) (s.take i)).length=i:=by rw[DX (by simp;omega)];simp;omega
  simp (disch:=omega) [-getElem?_pos,afW,e1,e2];refine bO (λh6=>?_) (λh6=>?_)
  .have h6:i<g.length:=by omega
   have h7:i<s.length:=by omega
   have hr:=axO (hv i h6) (hs i h6);simp (disch:=omega) [-getElem?_pos,bc (l:=g),bc (l:=s),hr,e1,e2];refine bB (i+1) ?_ (by omega) (by omega)
   unfold nL;rw[BX h6 h7,BX h6 h7];simp
  .obtain rfl:i=g.length:=by omega
   have t1:g.take g.length=g:=mL;have t2:s.take g.length=s:=by rw[hl];exact mL
   rw[t1,t2]at *;simp (disch:=omega) [-getElem?_pos,e1,e2])
def tp(g:List Gt)(l:List Int)(lv:Int)(i:Nat):Int:=(List.zipWith (λg o=>km g o lv) (g.take i) (l.take i)).sum
variable{l:List Int}
def Qa:tp g l lv 0=0:=by simp[tp]
def LZ(h1:i<g.length)(h2:i<l.length):tp g l lv (i+1)=tp g l lv i+km (nth g i) (nth l i) lv:=by
 unfold tp;rw[BX h1 h2,Nc];simp
def axU(hl:g.length=l.length)(hv:∀i,i<g.length->Gv (nth g i)):∀i,i<=g.length->0<=tp g l lv i/\tp g l lv i<=1073741824*i:=by
 intro i;induction i with
 |zero=>intro _;rw[Qa];omega
 |succ i ih =>
  intro hi;rw[LZ (by omega) (by omega)]
  have:=ih (by omega)
  have:=w9 (hv i (by omega)) (nth l i) lv
  omega
def L0(hl:g.length=l.length)(hn:g.length<=8)(hv:∀i,i<g.length->Gv (nth g i))(lv:Int)(G:List aM) :
  aX F 165 [lH g,ints l,i64 lv] G=some (i64 (tp g l lv g.length),G) :=
 bD rfl rfl (by
  generalize hW:tp g l lv g.length=W;simp (disch:=omega) [-getElem?_pos,afZ];refine go_loop (λi:Nat=>auK (ints l) lv (tp g l lv i) (lH g) g.length i G) (λi=>i<=g.length) (λi=>g.length-i) 0 rfl (by simp[Qa]) (by omega) ?_
  rintro i hi;simp (disch:=omega) [-getElem?_pos,afY];refine bO (λh6=>?_) (λh6=>?_)
  .have h6:i<g.length:=by omega
   have h7:i<l.length:=by omega
   have hr:=axN (hv i h6);have b1:=axU (lv:=lv) hl hv i (by omega)
   have b2:=w9 (hv i h6) (nth l i) lv;simp (disch:=omega) [-getElem?_pos,bc (l:=g),dQ h7,hr];exact bB (i+1) (by simp[LZ h6 h7]) (by omega) (by omega)
  .obtain rfl:i=g.length:=by omega
   exact hW)
def axV{f:Bd->Int}(hl:g.length=s.length):∀i,i<=g.length->tp g (nL f g s) lv i=nK (λg s=>km g (f (fI g s)) lv) g s i:=by
 intro i;induction i with
 |zero=>intro _;rw[Qa,LX]
 |succ i ih =>
  intro hi;rw[LZ (by omega) (by rw[DX hl];omega),FB (by omega) (by omega),ih (by omega),LY (by omega) (by omega)]
def L1{n:Int}(h1:0<=n)(h2:n<=18446744073709551615):IntKind.u64.wrap n=n:=by
 simp[IntKind.wrap,IntKind.bits,IntKind.signed];omega
def aix(f:FuncId)(cap:List V)(G:List aM)(N:Int)(p:Int->Bool):Prop:=∀m,0<=m->m<N->aX F f (i64 m::cap) G=some (.bool (p m),G)
variable{cap:List V}{G:List aM}{p:Int->Bool}
def axW{f:FuncId}{N:Int}(hN:0<=N)(oJ:N<=1000000)(h:aix f cap G N p) :
  ∃r,aX F 248 [i64 N,.fn f cap] G=some (i64 r,G)/\0<=r/\r<=N/\(0<r->p (r-1)=false)/\(r<N->p r=true):=by
 suffices hs:∀Q:V->List aM->Prop,(∀r,0<=r->r<=N->(0<r->p (r-1)=false)->(r<N->p r=true)->Q (i64 r) G)->gz (aX F) 248 [i64 N,.fn f cap] G Q by
  obtain⟨_,_,h,r,rfl,rfl,h1⟩:=hs (λv G'=>∃r,v=i64 r/\G'=G/\0<=r/\r<=N/\(0<r->p (r-1)=false)/\(r<N->p r=true)) λr a b c d=>⟨r,rfl,rfl,a,b,c,d⟩;exact⟨r,h,h1⟩
 intro Q hQ;refine gN rfl rfl ?_;simp (disch:=omega) [ahf];refine go_loop (λs:Int×Int=>awe (.fn f cap) s.1 s.2 G) (λs=>0<=s.1/\s.1<=s.2/\s.2<=N/\(0<s.1->p (s.1-1)=false)/\(s.2<N->p s.2=true)) (λs=>(s.2-s.1).toNat) (0,N) rfl (by simp) ⟨by simp,by simpa using hN,by simp,by simp,by simp⟩ ?_
 rintro⟨a,b⟩ ⟨h1,h2,h3,h4,h5⟩;simp only at h1 h2 h3 h4 h5;simp (disch:=omega) [ahe];refine bO (λh6=>?_) (λh6=>?_)
 .have e1:IntKind.u64.wrap (a+b)=a+b:=L1 (by omega) (by omega)
  have e2:(a+b).fdiv 2=(a+b) / 2:=Zg _ (by omega)
  have hp:=h ((a+b) / 2) (by omega) (by omega)
  have e3:(2:Int) ^ (min 1 IntKind.u64.bits)=2:=rfl;simp (disch:=omega) [e1,e2,e3,hp];cases hq:p ((a+b) / 2) with
  |false =>
   simp (disch:=omega);refine bB ((a+b) / 2+1,b) (by simp) ⟨by simp;omega,by simp;omega,h3,λ_=>?_,h5⟩ (by simp;omega)
   simpa using hq
  |true =>
   simp (disch:=omega);exact bB (a,(a+b) / 2) (by simp) ⟨h1,by simp;omega,by simp;omega,h4,λ_=>hq⟩ (by simp;omega)
 .obtain rfl:a=b:=by omega
  exact hQ a (by omega) (by omega) h4 h5
def yi(p:Int->Bool):Nat->Int->Int
 |0,o=>o
 |n+1,o=>if p o then o else yi p n (o+1)
def Xn{p:Int->Bool}:∀{n:Nat} {o x:Int},o<=x->x<=o+n->(∀m,o<=m->m<x->p m=false)->(x<o+n->p x=true)->yi p n o=x
 |0,o,x,h1,h2,_,_=>by simp[yi];omega
 |n+1,o,x,h1,h2,h3,h4=>by
  unfold yi;by_cases h:o=x
  .subst h
   rw[aJ (h4 (by omega))]
  .rw[ax (by rw[h3 o (by omega) (by omega)];simp)]
   exact Xn (by omega) (by omega) (λm a b=>h3 m (by omega) b) (λa=>h4 (by omega))
variable{j:Nat}{lo hi m:Int}
def axX{f:FuncId}{b:Bool}(h1:G[i]?=some (.cells [.fn f cap]))(h2:G[j]?=some (.cells [i64 lo,i64 hi]))
  (hw:-1000000<=lo+m/\lo+m<=1000000) (h:aX F f (i64 (lo+m)::cap) G=some (.bool b,G)):aX F 249 [i64 m,.bu i 0,.bu j 0] G=some (.bool b,G) :=
 bD rfl rfl (by
  have e:IntKind.i64.wrap (lo+m)=lo+m:=wrap64 (by omega) (by omega)
  simp[ahg,h1,h2,h,e])
def axY{f:FuncId}(hl:0<=lo/\lo<=hi/\hi<=1000)(hp:∀m m',p m=true->m<=m'->p m'=true)
  (h:∀E m,lo<=m->m<=hi->aX F f (i64 m::cap) (G++E)=some (.bool (p m),G++E)) :
  aX F 239 [.agg [i64 lo,i64 hi],.fn f cap] G=some (i64 (yi p (hi-lo).toNat lo),G++[.cells [i64 lo,i64 hi],.cells [.fn f cap]]):=by
 have hs:aix 249 [.bu (G.length+1) 0,.bu G.length 0] (G++[.cells [i64 lo,i64 hi],.cells [.fn f cap]]) (hi-lo+1) (λm=>p (lo+m)):=λm a b =>
  axX gl1 Hz (by omega) (h _ _ (by omega) (by omega))
 obtain⟨r,h1,h2,h3,h4,h5⟩:=axW (by omega) (by omega) hs
 have e:yi p (hi-lo).toNat lo=min (lo+r) hi:=by
  refine Xn (by omega) (by omega) (λm a b=>?_) (λa=>?_)
  .have h6:=h4 (by omega)
   cases hq:p m with
   |false=>rfl
   |true =>
    have:=hp m (lo+(r-1)) hq (by omega)
    rw[h6]at this;cases this
  .have:=h5 (by omega)
   rw[show min (lo+r) hi=lo+r by omega]
   exact this
 rw[e];exact bD rfl rfl (by
  simp (disch:=omega) [ag1,h1,Hz,gl1])
variable{w:Int}
def axZ(h1:G[i]?=some (.cells [.fn 235 []]))(h2:G[j]?=some (.cells [jK c,i64 w]))(hc:c=[]\/iu c=0) :
  aX F 240 [i64 m,.bu i 0,.bu j 0] G=some (.bool (decide (w<=wc c m)),G) :=
 bD rfl rfl (by
  simp[ag2,h1,h2,axM hc])
def tq(lv w:Int)(g:Gt)(s:Gs)(sum:Int):Int :=
 if sum<w then yi (λo=>decide (w-(sum-iv lv g s)<=km g o lv)) ((fI g s).hi-(fI g s).lo).toNat (fI g s).lo else (fI g s).lo
def bs(lv w:Int)(g:List Gt)(s:List Gs):Nat->List Int×Int
 |0=>(nL Bd.lo g s,nK (iv lv) g s g.length)
 |i+1=>((bs lv w g s i).1.set i (tq lv w (nth g i) (nth s i) (bs lv w g s i).2),(bs lv w g s i).2-iv lv (nth g i) (nth s i)+km (nth g i) (tq lv w (nth g i) (nth s i) (bs lv w g s i).2) lv)
def Ip(o:Int)(s:Gs):Gs:=⟨o,s.j⟩
def pq(l:List Int)(s:List Gs):List Gs:=List.zipWith Ip l s
noncomputable def m9(g:List Gt)(s:List Gs)(lv w:Int):Int:=if aE g s lv≠0 then aE g s lv else if ¬(0<=w/\w<=1073741824) then 1 else 0
noncomputable def rj(g:List Gt)(s:List Gs)(lv w:Int):List Gs:=if m9 g s lv w=0 then pq (bs lv w g s g.length).1 s else []
noncomputable def qA(g:List Gt)(s:List Gs)(lv w:Int):Int:=if m9 g s lv w=0 then (bs lv w g s g.length).2 else 0
def rm{lv w:Int}{g:List Gt}{s:List Gs}(hl:g.length=s.length):∀i,(bs lv w g s i).1.length=g.length
 |0=>DX hl
 |i+1=>by simp[bs,rm hl i]
def FC{g:Gt}{s:Gs}(h:Gv g)(hs:pU g s):0<=(fI g s).lo/\(fI g s).lo<=(fI g s).hi/\(fI g s).hi<=g.dF:=by
 have h1:=h.dF;have h2:=h.move;have h3:=hs.1;have h4:=hs.2;unfold fI;split
 .simp only;omega
 .simp only;omega
def aiy{p:Int->Bool}:∀{n:Nat} {o:Int},o<=yi p n o/\yi p n o<=o+n
 |0,o=>by simp[yi]
 |n+1,o=>by
  unfold yi;have:=aiy (p:=p) (n:=n) (o:=o+1);split
  .omega
  .omega
def ax0{g:Gt}{s:Gs}(h:Gv g)(hs:pU g s)(sum:Int):(fI g s).lo<=tq lv w g s sum/\tq lv w g s sum<=(fI g s).hi:=by
 have:=FC h hs;unfold tq;split
 .have:=aiy (p:=λo=>decide (w-(sum-iv lv g s)<=km g o lv)) (n:=((fI g s).hi-(fI g s).lo).toNat) (o:=(fI g s).lo)
  omega
 .omega
def ax1(hl:g.length=s.length)(hs:B3 g s)(hv:∀i,i<g.length->Gv (nth g i)):∀i,i<=g.length ->
  nK (iv lv) g s g.length-nK (iv lv) g s i<=(bs lv w g s i).2/\(bs lv w g s i).2<=nK (iv lv) g s g.length-nK (iv lv) g s i+1073741824*i:=by
 intro i;induction i with
 |zero=>intro _;simp[bs,LX]
 |succ i ih =>
  intro hi;have h1:=ih (by omega)
  have h2:=w9 (hv i (by omega)) (tq lv w (nth g i) (nth s i) (bs lv w g s i).2) lv
  have h3:=w9 (hv i (by omega)) (fI (nth g i) (nth s i)).lo lv
  rw[FB (by omega) (by omega)]
  simp only[bs,iv]at h1 ⊢;omega
def aiz(hl:g.length=s.length)(hn:g.length<=8)(hs:B3 g s)(hv:∀i,i<g.length->Gv (nth g i))(hi:i<=g.length) :
  0<=(bs lv w g s i).2/\(bs lv w g s i).2<=17179869184/\(i<g.length->iv lv (nth g i) (nth s i)<=(bs lv w g s i).2):=by
 have h1:=ax1 (lv:=lv) (w:=w) hl hs hv i hi;have r:=Xl (f:=iv lv) hl (λi hi=>w9 (hv i hi) _ _);have r1:=r g.length (b8 _);have r2:=r i hi;have mono:∀k,i<=k->k<=g.length->nK (iv lv) g s i<=nK (iv lv) g s k:=by
  intro k h;induction k with
  |zero=>intro _;obtain rfl:i=0:=by omega
         omega
  |succ k ih =>
   intro hk;rcases cS k i with h3|h3
   .obtain rfl:i=k+1:=by omega
    omega
   .rw[FB (by omega) (by omega)]
    have:=ih h3 (by omega)
    have:=w9 (hv k (by omega)) (fI (nth g k) (nth s k)).lo lv
    unfold iv;unfold iv at *;omega
 have m1:=mono g.length hi (b8 _);refine⟨by omega,by omega,λh=>?_⟩
 have m2:=mono (i+1) (by omega) (by omega)
 have m3:nK (iv lv) g s (i+1)<=nK (iv lv) g s g.length:=by
  have ax2:∀k,i+1<=k->k<=g.length->nK (iv lv) g s (i+1)<=nK (iv lv) g s k:=by
   intro k hk;induction k with
   |zero=>omega
   |succ k ih =>
    intro ql;rcases cS k (i+1) with h3|h3
    .obtain rfl:i=k:=by omega
     omega
    .rw[FB (i:=k) (by omega) (by omega)]
     have:=ih h3 (by omega)
     have:=w9 (hv k (by omega)) (fI (nth g k) (nth s k)).lo lv
     unfold iv;unfold iv at *;omega
  exact ax2 g.length (by omega) (b8 _)
 rw[FB (by omega) (by omega)]at m3
 omega
def ax3(g:List Gt)(s:List Gs)(lv w:Int):∃G',aX F 227 [lH g,lq s,i64 lv,i64 w] []=some (.tuple [.slice (some 0) 2 ((rj g s lv w).map Gs.row),i64 (qA g s lv w),i64 (m9 g s lv w)],G'):=by
 suffices h:∀Q:V->List aM->Prop,(∀G',Q (.tuple [.slice (some 0) 2 ((rj g s lv w).map Gs.row),i64 (qA g s lv w),i64 (m9 g s lv w)]) G')->gz (aX F) 227 [lH g,lq s,i64 lv,i64 w] [] Q by
  obtain⟨_,G',h,rfl⟩:=h (λv G'=>v=.tuple [.slice (some 0) 2 ((rj g s lv w).map Gs.row),i64 (qA g s lv w),i64 (m9 g s lv w)]) λ_=>rfl;exact⟨G',h⟩
 intro Q hQ;refine gN rfl rfl ?_;by_cases he:aE g s lv=0
 .obtain⟨h1,h2,h3,h4,h5⟩:=LW he
  by_cases hw:0<=w/\w<=1073741824
  .have hE:m9 g s lv w=0:=by simp[m9,he,hw]
   simp only[rj,qA,hE,if_true]at hQ;have wQ:(!decide (0<=w) || !decide (w<=1073741824))=false:=by simp;omega
   have zL:(decide (0<=w)&&decide (w<=1073741824))=true:=by simp;omega
   have e0:bs lv w g s 0=(nL Bd.lo g s,nK (iv lv) g s g.length):=rfl;simp (disch:=omega) [-getElem?_pos,PA,Xm,Io,he,dZ,wQ,zL];have hou:∀i,i<=g.length->(pq ((bs lv w g s i).1.take i) (s.take i)).length=i:=λi hi=>by
    have:=rm (lv:=lv) (w:=w) h2 i;simp[pq];omega
   refine go_loop (λx:Nat×List aM=>avL (lq s) lv w (bs lv w g s x.1).2 (.bu 0 0) (.slice (some 1083) 2 ((pq ((bs lv w g s x.1).1.take x.1) (s.take x.1)).map Gs.row)) (lH g) g.length x.1 x.1 x.2)
    (λx=>x.1<=g.length/\x.2[0]?=some (.cells [.fn 235 []])) (λx=>g.length-x.1) (0,[.cells [.fn 235 []]]) rfl (by simp[bs,pq]) ⟨by simp,rfl⟩ ?_
   rintro⟨i,G⟩ ⟨hi,hG⟩;simp only at hi hG;have Iq:=hou i hi;have Ir:0<G.length:=by
    rcases nV G.length with h|h
    .rw[kW (by omega)]at hG;cases hG
    .exact h
   simp (disch:=omega) [-getElem?_pos,agS];refine bO (λh6=>?_) (λh6=>?_)
   .have h6:i<g.length:=by omega
    have h7:i<s.length:=by omega
    obtain⟨t,ht⟩:=aiu (h4 i h6) lv [];have hr:=aiv (h4 i h6) (h3 i h6);have hk:=Xk (h4 i h6) lv;have hf:=Xh hk;have hro:=FC (h4 i h6) (h3 i h6);have hm:=(h4 i h6).dF;obtain⟨b1,b2,b3⟩:=aiz (lv:=lv) (w:=w) h2 h1 h3 h4 (i:=i) hi;have b3:=b3 h6;have b4:=w9 (h4 i h6) (fI (nth g i) (nth s i)).lo lv;have b5:=w9 (h4 i h6) (tq lv w (nth g i) (nth s i) (bs lv w g s i).2) lv;have FD:=rm (lv:=lv) (w:=w) h2 i;have na:pq ((bs lv w g s (i+1)).1.take (i+1)) (s.take (i+1))=pq ((bs lv w g s i).1.take i) (s.take i)++[Ip (tq lv w (nth g i) (nth s i) (bs lv w g s i).2) (nth s i)]:=by
     unfold pq;rw[BX (by rw[rm h2];exact h6) h7]
     simp only[bs];rw[ZC (b8 _)];congr 2;simp[nth,FD,h6]
    by_cases zK:(bs lv w g s i).2<w
    .have Bl:tq lv w (nth g i) (nth s i) (bs lv w g s i).2=yi (λo=>decide (w-((bs lv w g s i).2-iv lv (nth g i) (nth s i))<=km (nth g i) o lv)) ((fI (nth g i) (nth s i)).hi-(fI (nth g i) (nth s i)).lo).toNat (fI (nth g i) (nth s i)).lo:=by
      unfold tq;rw[aJ zK]
     have hL:=axY (f:=240) (cap:=[.bu 0 0,.bu G.length 0]) (G:=G++[.cells [jK (uY (nth g i).r lv),i64 (w-((bs lv w g s i).2-iv lv (nth g i) (nth s i)))]]) (lo:=(fI (nth g i) (nth s i)).lo) (hi:=(fI (nth g i) (nth s i)).hi)
      (p:=λo=>decide (w-((bs lv w g s i).2-iv lv (nth g i) (nth s i))<=km (nth g i) o lv)) (by omega) (λm m' hp uu=>by
       have:=axS (h4 i h6) (lv:=lv) uu;simp only[jD]at hp ⊢;omega) (λE m _ _=>axZ (by rw[ov,nR Ir];exact hG) (by rw[ov];exact Hz) hk)
     rw[<-Bl]at hL;unfold iv km at hL b3;unfold km at b4 b5;simp (disch:=omega) [-getElem?_pos,bc (l:=g),bc (l:=s),ht,hr,hf,Hz,zK];simp (disch:=omega) [-getElem?_pos,hL,Hz,hf,bc (l:=s),Iq];refine bB (i+1,G++[.cells [jK (uY (nth g i).r lv),i64 (w-((bs lv w g s i).2-iv lv (nth g i) (nth s i)))],.cells [i64 (fI (nth g i) (nth s i)).lo,i64 (fI (nth g i) (nth s i)).hi],.cells [.fn 240 [.bu 0 0,.bu G.length 0]]])
      (by rw[na];simp[bs,iv,km,Ip,Iq]) ⟨by simp;omega,by simp only;rw[nR Ir];exact hG⟩ (by simp;omega)
    .have Bl:tq lv w (nth g i) (nth s i) (bs lv w g s i).2=(fI (nth g i) (nth s i)).lo:=by
      unfold tq;rw[ax zK]
     have hb:(bs lv w g s (i+1)).2=(bs lv w g s i).2:=by
      simp only[bs,iv,Bl];omega
     simp (disch:=omega) [-getElem?_pos,bc (l:=g),bc (l:=s),ht,hr,hf,Hz,zK,Iq];refine bB (i+1,G++[.cells [jK (uY (nth g i).r lv),i64 0]])
      (by rw[na,hb,Bl];simp[Ip,Iq]) ⟨by simp;omega,by simp only;rw[nR Ir];exact hG⟩ (by simp;omega)
   .obtain rfl:i=g.length:=by omega
    have t1:(bs lv w g s g.length).1.take g.length=(bs lv w g s g.length).1:=kD (by rw[rm h2];omega)
    have t2:s.take g.length=s:=kD (by omega)
    rw[t1,t2]at Iq ⊢;simp (disch:=omega) [-getElem?_pos,Iq];exact hQ _
  .have zL:(decide (0<=w)&&decide (w<=1073741824))=false:=by simp;omega
   have hE:m9 g s lv w=1:=by simp[m9,he];omega
   have AO:¬ m9 g s lv w=0:=by rw[hE];omega
   simp only[rj,qA,ax AO]at hQ;rw[hE]at hQ;have wQ:(!decide (0<=w) || !decide (w<=1073741824))=true:=by simp;omega
   simp (disch:=omega) [-getElem?_pos,PA,Xm,Io,he,dZ,wQ,zL];exact hQ _
 .have hE:m9 g s lv w=aE g s lv:=by simp[m9,he]
  have AO:¬ m9 g s lv w=0:=by rw[hE];exact he
  simp only[rj,qA,ax AO]at hQ;rw[hE]at hQ;simp (disch:=omega) [-getElem?_pos,PA,Xm,Io,he];exact hQ _
end
