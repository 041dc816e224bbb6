/- - -/
import Derived.Test.YtabckmbjnjnegaaGreatDoorVm2
namespace Go.Vm
set_option linter.all false
def dO{α:Type}(s k:Nat)(v:α)(r:List (Nat×α)):look s ((k,v)::r)=if k=s then some v else look s r:=by
 simp only[look];by_cases h:k=s
 .subst h;simp
 .rw[tC.2 h,ax h];rfl
def GJ(S:St)(d:Nat)(v:V):S.put (some d) v={ S with env:=(d,v)::S.env }:=rfl
variable{x:Value}
def ZJ{a:Act}{d s:Nat}{y:Value}(hd:d<a.tmps.size):(a.put (some d) x).tmps[s]?=some y<->(if d=s then y=x else a.tmps[s]?=some y):=by
 simp only[Act.put,RB];by_cases h:d=s
 .subst h;simp[hd,eq_comm]
 .simp[h]
def R.put{E:Entry}{g:Gh}{S:St}{a:Act}{w:World}(hR:R E g S a w){dst:Option Nat}{v:V}
  (hd:∀d,dst=some d->d<E.nt) (hx:bh (S.cx g w) v x):R E g (S.put dst v) (a.put dst x) w:=by
 cases dst with
 |none=>exact hR
 |some d =>
  have bJ:d<a.tmps.size:=by rw[hR.kr];exact hd d rfl
  refine⟨λs u hs=>?_,hR.aY,hR.bo,hR.aC,hR.defers,by simp[Act.put,hR.kr],hR.same⟩
  rw[GJ,dO]at hs;by_cases h:d=s
  .subst h
   rw[aJ rfl]at hs;cases hs;exact⟨x,(ZJ bJ).2 (by simp),hx⟩
  .rw[ax h]at hs
   obtain⟨y,hy,hr⟩:=hR.env s u hs;exact⟨y,(ZJ bJ).2 (by simp[h,hy]),hr⟩
structure St.fa(S:St)(d:Nat):Prop where
 env:∀s v,look s S.env=some v->v.cI d=false
 aY:∀id cs,look id S.aY=some cs->∀v∈cs,v.cQ d=false
 obj:look d S.aY=none
 tok:look d S.bo=none
structure Touch(E:Entry)(g:Gh)(S:St)(w:World)(g':Gh)(T':List (Nat×Nat))(N':Nat)(w':World)(B:Nat)(dk dt:Option Nat):Prop where
 os:w'.os=w.os
 tape:w'.tape=w.tape
 output:w'.output=w.output
 size:w.heap.size<=w'.heap.size
 heap:∀b,b≠B->b<w.heap.size->w'.heap[b]?=w.heap[b]?
 m:∀b,b≠B->g'.m b=g.m b
 ow:∀b,b≠B->g'.ow b=g.ow b
 κ:∀i,dk≠some i->g'.κ i=g.κ i
 cp:∀i,dk≠some i->g'.cp i=g.cp i
 τ:∀i,dt≠some i->g'.τ i=g.τ i
 T:∀i,dt≠some i->look i T'=look i S.bo
 γ:∀i,i<S.aC.length->g'.γ i=g.γ i
 eZ:S.aC.length<=N'
 γnew:∀i,S.aC.length<=i->i<N'->E.w0.heap.size<=g'.γ i
 fresh:E.w0.heap.size<=B\/(∃i,i<E.N0/\E.g0.ow B=.aC i)\/E.own B
 jw:∀p q,B<E.w0.heap.size->g'.ow B=.cell p q->E.own B
 lv:∀i,g'.ow B=.aC i->g'.m B=0/\i<N'/\(B<E.w0.heap.size->E.g0.ow B=.aC i/\i<E.N0)
 mM:∀o y,o<g.m B->cellAt w.heap B o=some y->cellAt w'.heap B o=some y
 sO:B<w.heap.size->g.m B<=g'.m B
def R.GK{E:Entry}{g:Gh}{S:St}{a:Act}{w:World}{N':Nat}(hR:R E g S a w){b i:Nat}(ho:g.ow b=.aC i)(hN:S.aC.length<=N'):g.m b=0/\i<N'/\(b<E.w0.heap.size->E.g0.ow b=.aC i/\i<E.N0) :=
 ⟨(hR.aC.z b i ho).1,jC (hR.aC.z b i ho).2 hN,hR.same.lv b i ho⟩
section
variable {E:Entry} {g g':Gh} {S:St} {a:Act} {w w':World} {T':List (Nat×Nat)} {N' B:Nat} {dk dt:Option Nat}
def Touch.le(t:Touch E g S w g' T' N' w' B dk dt):Le (S.cx g w) ⟨w'.heap,g',N',T'⟩ where
 size:=t.size
 cells:=λb o y ho hy=>by
  by_cases h:b=B
  .subst h;exact t.mM o y ho hy
  .show cellAt w'.heap b o=some y
   rw[vy (t.heap b h (CW hy))];exact hy
 m:=λb hb=>by
  by_cases h:b=B
  .subst h;exact t.sO hb
  .exact xr (t.m b h).symm
 eZ:=t.eZ
 γ:=t.γ
variable{i:Nat}
def Touch.keeps(t:Touch E g S w g' T' N' w' B dk dt)(hR:R E g S a w)(hi:dk≠some i)(hj:dt≠some i)(hB:B<w.heap.size->g.ow B≠.tok i) :
  ke (S.cx g w) ⟨w'.heap,g',N',T'⟩ i where
 κ:=t.κ i hi
 cp:=t.cp i hi
 tok:=λk hk=>by
  have lR:look i S.bo=some k:=by rw[<-t.T i hj];exact hk
  refine⟨k,lR,b8 _,λ_=>⟨t.τ i hj,λb hb=>?_⟩⟩;obtain⟨h1,h2,h3⟩:=hR.bo i k b lR hb;have cy:b≠B:=λe=>hB (e ▸ h3) (by rw[<-e];exact h1)
  refine⟨t.m b cy,λc e hc=>⟨c,?_,rfl⟩⟩;show w'.heap[b]?=_;rw[t.heap b cy h3];exact hc
def Touch.same(t:Touch E g S w g' T' N' w' B dk dt)(hR:R E g S a w):ZI E g' N' w' where
 os:=t.os.trans hR.same.os
 tape:=t.tape.trans hR.same.tape
 output:=t.output.trans hR.same.output
 size:=iO hR.same.size t.size
 eZ:=iO hR.same.eZ t.eZ
 γ:=λi hi=>(t.γ i (jC hi hR.same.eZ)).trans (hR.same.γ i hi)
 γnew:=λi h1 h2=>by
  by_cases h:i<S.aC.length
  .rw[t.γ i h];exact hR.same.γnew i h1 h
  .exact t.γnew i (by omega) h2
 lQ:=λb hb kI Ag=>by
  have cy:b≠B:=λe=>by
   rcases t.fresh with h | ⟨i,h1,h2⟩ | h
   .omega
   .exact kI i h1 (e ▸ h2)
   .exact Ag (e ▸ h)
  obtain⟨h1,h2⟩:=hR.same.lQ b hb kI Ag;exact⟨(t.heap b cy (jC hb hR.same.size)).trans h1,(t.m b cy).trans h2⟩
 grow:=λb hb hw=>by
  obtain⟨h1,h2⟩:=hR.same.grow b hb hw;have bJ:=jC hb hR.same.size;by_cases cy:b=B
  .subst cy
   exact⟨λo y ho hy=>t.mM o y (jC ho h2) (h1 o y ho hy),iO h2 (t.sO bJ)⟩
  .exact⟨λo y ho hy=>by rw[vy (t.heap b cy bJ)];exact h1 o y ho hy,by rw[t.m b cy];exact h2⟩
 jw:=λb p q hb ho=>by
  by_cases cy:b=B
  .subst cy;exact t.jw p q hb ho
  .rw[t.ow b cy]at ho;exact hR.same.jw b p q hb ho
 lv:=λb i ho=>by
  by_cases cy:b=B
  .subst cy;exact(t.lv i ho).2.2
  .rw[t.ow b cy]at ho;exact hR.same.lv b i ho
def Touch.env(t:Touch E g S w g' T' N' w' B dk dt)(hR:R E g S a w)(hk:∀i,ke (S.cx g w) ⟨w'.heap,g',N',T'⟩ i\/∀s v,look s S.env=some v->v.cI i=false) :
  ∀s v,look s S.env=some v->∃x,a.tmps[s]?=some x/\bh ⟨w'.heap,g',N',T'⟩ v x:=λs v hs=>by
 obtain⟨x,hx,hr⟩:=hR.env s v hs;exact⟨x,hx,hr.mono t.le λi=>(hk i).imp (λz=>z) λh=>h s v hs⟩
def Touch.obj(t:Touch E g S w g' T' N' w' B dk dt)(hR:R E g S a w){id:Nat}{cs:List V}(ho:look id S.aY=some cs)(hd:dk≠some id)
  (hB:B<w.heap.size->g.ow B≠.obj id) (hk:∀i,ke (S.cx g w) ⟨w'.heap,g',N',T'⟩ i\/∀v∈cs,v.cI i=false) :
  (cs=[]/\g'.cp id=0)\/g'.ow (g'.κ id)=.obj id/\E.w0.heap.size<=g'.κ id/\g'.m (g'.κ id)=0 /\
  ∃c e,w'.heap[g'.κ id]?=some (.cells c e (0,0))/\g'.cp id<=c.size/\∀(j:Nat) (v:V),cs[j]?=some v->v.c5=true/\∃y,c[j]?=some y/\bh ⟨w'.heap,g',N',T'⟩ v y:=by
 rcases hR.aY id cs ho with⟨h1,h2⟩ | ⟨h1,h2,h3,c,e,h4,gM,h5⟩
 .exact .inl ⟨h1,(t.cp id hd).trans h2⟩
 refine .inr ?_;have bJ:g.κ id<w.heap.size:=by
  rcases cS (g.κ id) w.heap.size with h|h
  .exact h
  .simp[ou h]at h4
 have cy:g.κ id≠B:=λe=>hB (e ▸ bJ) (by rw[<-e];exact h1)
 rw[t.κ id hd,t.cp id hd];refine⟨(t.ow _ cy).trans h1,h2,(t.m _ cy).trans h3,c,e,(t.heap _ cy bJ).trans h4,gM,λj v hj=>?_⟩;obtain⟨h6,y,h7,h8⟩:=h5 j v hj;exact⟨h6,y,h7,h8.mono t.le λi=>(hk i).imp (λz=>z) λh=>h v (gw hj)⟩
def Touch.al4(t:Touch E g S w g' T' N' w' B dk dt)(hR:R E g S a w){o:aM}(ho:S.aC[i]?=some o)
  (hB:B<w.heap.size->g.ow B≠.aC i) :
  o=.cells []\/g'.ow (g'.γ i)=.aC i/\Jz w'.heap g' N' (g'.γ i) o:=by
 rcases hR.aC.obj i o ho with h1 | ⟨h1,h2⟩
 .exact .inl h1
 refine .inr ?_;have hi:i<S.aC.length:=by
  rcases cS i S.aC.length with h|h
  .exact h
  .simp[kW h]at ho
 rw[t.γ i hi];cases o with
 |map es =>
  obtain⟨h3,c,e,h4,h5,h6⟩:=h2;have bJ:g.γ i<w.heap.size:=by
   rcases cS (g.γ i) w.heap.size with h|h
   .exact h
   .simp[ou h]at h4
  have cy:g.γ i≠B:=λe=>hB (e ▸ bJ) (by rw[<-e];exact h1)
  refine⟨(t.ow _ cy).trans h1,(t.m _ cy).trans h3,c,e,(t.heap _ cy bJ).trans h4,h5,λj v y hj hy=>?_⟩;obtain⟨h7,h8,h9,il⟩:=h6 j v y hj hy;have le:Le ⟨w.heap,g,S.aC.length,[]⟩ ⟨w'.heap,g',N',[]⟩:=⟨t.le.size,t.le.cells,t.le.m,t.le.eZ,t.le.γ⟩;exact⟨h7,h8,h9.mono le λi=>.inr (h7 i),il.mono le λi=>.inr (yP (h8 i))⟩
 |cells cs =>
  obtain⟨h3,c,e,h4,h5,h6⟩:=h2;have bJ:g.γ i<w.heap.size:=by
   rcases cS (g.γ i) w.heap.size with h|h
   .exact h
   .simp[ou h]at h4
  have cy:g.γ i≠B:=λe=>hB (e ▸ bJ) (by rw[<-e];exact h1)
  refine⟨(t.ow _ cy).trans h1,(t.m _ cy).trans h3,c,e,(t.heap _ cy bJ).trans h4,h5,λj v y hj hy=>?_⟩;obtain⟨h7,h8,h9⟩:=h6 j v y hj hy;have le:Le ⟨w.heap,g,S.aC.length,[]⟩ ⟨w'.heap,g',N',[]⟩:=⟨t.le.size,t.le.cells,t.le.m,t.le.eZ,t.le.γ⟩;exact⟨h7,h8,h9.mono le λi=>.inr (h8 i)⟩
def Touch.owns(t:Touch E g S w g' T' N' w' B dk dt)(hR:R E g S a w){o:aM}(ho:S.aC[i]?=some o)
  (hB:B<w.heap.size->g.ow B≠.aC i/\∀j,g.ow B≠.cell (g.γ i) j):Ey w'.heap g' (g'.γ i) o:=by
 have h3:=hR.aC.own i o ho;rcases hR.aC.obj i o ho with h1 | ⟨h1,h2⟩
 .subst h1;exact λj n es y hj=>by simp at hj
 have hi:i<S.aC.length:=by
  rcases cS i S.aC.length with h|h
  .exact h
  .simp[kW h]at ho
 rw[t.γ i hi];cases o with
 |map es=>trivial
 |cells cs =>
  obtain⟨_,c,e,h4,_⟩:=h2;have bJ:g.γ i<w.heap.size:=by
   rcases cS (g.γ i) w.heap.size with h|h
   .exact h
   .simp[ou h]at h4
  have cy:g.γ i≠B:=λe=>(hB (e ▸ bJ)).1 (by rw[<-e];exact h1)
  intro j n es y hj hy;rw[vy (t.heap _ cy bJ)]at hy;rcases h3 j n es y hj hy with h | ⟨q,cap,c',e',q1,q2,q3,q4,q5,q6⟩
  .exact .inl h
  .have qi:q<w.heap.size:=by
    rcases cS q w.heap.size with h|h
    .exact h
    .simp[ou h]at q4
   have Sa:q≠B:=λe=>(hB (e ▸ qi)).2 j (by rw[<-e];exact q2)
   exact .inr ⟨q,cap,c',e',q1,(t.ow q Sa).trans q2,(t.m q Sa).trans q3,(t.heap q Sa qi).trans q4,q5,q6⟩
def Touch.tok(t:Touch E g S w g' T' N' w' B dk dt)(hR:R E g S a w){f k b:Nat}(hf:look f T'=some k)(hb:g'.τ f=some b)(hd:dt≠some f)
  (hB:B<w.heap.size->g.ow B≠.tok f):g'.ow b=.tok f/\(E.w0.heap.size<=b\/E.own b)/\b<w'.heap.size:=by
 rw[t.T f hd]at hf;rw[t.τ f hd]at hb;obtain⟨h1,h2,h3⟩:=hR.bo f k b hf hb;have cy:b≠B:=λe=>hB (e ▸ h3) (by rw[<-e];exact h1)
 exact⟨(t.ow b cy).trans h1,h2,jC h3 t.size⟩
end
