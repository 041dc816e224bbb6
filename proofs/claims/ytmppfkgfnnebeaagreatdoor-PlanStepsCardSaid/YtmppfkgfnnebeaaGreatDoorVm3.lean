/- The value machine, 3: steps of the relation. -/
import Derived.Test.YtmppfkgfnnebeaaGreatDoorVm2
namespace Go.Vm
set_option linter.all false
theorem dz{α:Type}(s k:Nat)(v:α)(r:List (Nat×α)):look s ((k,v)::r)=if k=s then some v else look s r:=by
 simp only[look];by_cases h:k=s
 ·subst h;simp
 ·rw[A0.2 h,ay h];rfl
theorem Ep(S:St)(d:Nat)(v:V):S.put (some d) v={ S with env:=(d,v)::S.env }:=rfl
theorem awK(S:St)(v:V):S.put none v=S:=rfl
theorem Wc{a:Act}{d s:Nat}{x y:Value}(hd:d<a.tmps.size):(a.put (some d) x).tmps[s]?=some y↔(if d=s then y=x else a.tmps[s]?=some y):=by
 simp only[Act.put,Oe];by_cases h:d=s
 ·subst h;simp[hd,eq_comm]
 ·simp[h]
theorem R.put{E:Entry}{g:Gh}{S:St}{a:Act}{w:World}(hR:R E g S a w){dst:Option Nat}{v:V}{x:Value}
  (hd:∀d,dst=some d→d<E.nt) (hx:bb (S.cx g w) v x):R E g (S.put dst v) (a.put dst x) w:=by
 cases dst with
 |none=>exact hR
 |some d =>
  have bE:d<a.tmps.size:=by rw[hR.js];exact hd d rfl
  refine⟨fun s u hs=>?_,hR.aW,hR.bj,hR.aA,hR.defers,by simp[Act.put,hR.js],hR.same⟩
  rw[Ep,dz]at hs;by_cases h:d=s
  ·subst h
   rw[aM rfl]at hs;cases hs;exact⟨x,(Wc bE).2 (by simp),hx⟩
  ·rw[ay h]at hs
   obtain⟨y,hy,hr⟩:=hR.env s u hs;exact⟨y,(Wc bE).2 (by simp[h,hy]),hr⟩
structure St.eN(S:St)(d:Nat):Prop where
 env:∀s v,look s S.env=some v→v.cq d=false
 aW:∀id cs,look id S.aW=some cs→∀v∈cs,v.cA d=false
 obj:look d S.aW=none
 tok:look d S.bj=none
structure Touch(E:Entry)(g:Gh)(S:St)(w:World)(g':Gh)(T':List (Nat×Nat))(N':Nat)(w':World)(B:Nat)(dk dt:Option Nat):Prop where
 os:w'.os=w.os
 tape:w'.tape=w.tape
 output:w'.output=w.output
 size:w.heap.size≤w'.heap.size
 heap:∀b,b≠B→b<w.heap.size→w'.heap[b]?=w.heap[b]?
 m:∀b,b≠B→g'.m b=g.m b
 ow:∀b,b≠B→g'.ow b=g.ow b
 κ:∀i,dk≠some i→g'.κ i=g.κ i
 cp:∀i,dk≠some i→g'.cp i=g.cp i
 τ:∀i,dt≠some i→g'.τ i=g.τ i
 T:∀i,dt≠some i→look i T'=look i S.bj
 γ:∀i,i<S.aA.length→g'.γ i=g.γ i
 eK:S.aA.length≤N'
 γnew:∀i,S.aA.length≤i→i<N'→E.w0.heap.size≤g'.γ i
 fresh:E.w0.heap.size≤B∨(∃i,i<E.N0∧E.g0.ow B=.aA i)∨E.own B
 iq:∀p q,B<E.w0.heap.size→g'.ow B=.cell p q→E.own B
 lv:∀i,g'.ow B=.aA i→g'.m B=0∧i<N'∧(B<E.w0.heap.size→E.g0.ow B=.aA i∧i<E.N0)
 kb:∀o y,o<g.m B→cellAt w.heap B o=some y→cellAt w'.heap B o=some y
 qn:B<w.heap.size→g.m B≤g'.m B
theorem R.Er{E:Entry}{g:Gh}{S:St}{a:Act}{w:World}{N':Nat}(hR:R E g S a w){b i:Nat}(ho:g.ow b=.aA i)(hN:S.aA.length≤N'):g.m b=0∧i<N'∧(b<E.w0.heap.size→E.g0.ow b=.aA i∧i<E.N0) :=
 ⟨(hR.aA.z b i ho).1,iC (hR.aA.z b i ho).2 hN,hR.same.lv b i ho⟩
section
variable {E:Entry} {g g':Gh} {S:St} {a:Act} {w w':World} {T':List (Nat×Nat)} {N' B:Nat} {dk dt:Option Nat}
theorem Touch.le(t:Touch E g S w g' T' N' w' B dk dt):Le (S.cx g w) ⟨w'.heap,g',N',T'⟩ where
 size:=t.size
 cells:=fun b o y ho hy=>by
  by_cases h:b=B
  ·subst h;exact t.kb o y ho hy
  ·show cellAt w'.heap b o=some y
   rw[tn (t.heap b h (A8 hy))];exact hy
 m:=fun b hb=>by
  by_cases h:b=B
  ·subst h;exact t.qn hb
  ·exact u6 (t.m b h).symm
 eK:=t.eK
 γ:=t.γ
theorem Touch.keeps(t:Touch E g S w g' T' N' w' B dk dt)(hR:R E g S a w){i:Nat}(hi:dk≠some i)(hj:dt≠some i)(hB:B<w.heap.size→g.ow B≠.tok i) :
  jg (S.cx g w) ⟨w'.heap,g',N',T'⟩ i where
 κ:=t.κ i hi
 cp:=t.cp i hi
 tok:=fun k hk=>by
  have ke:look i S.bj=some k:=by rw[←t.T i hj];exact hk
  refine⟨k,ke,bV _,fun _=>⟨t.τ i hj,fun b hb=>?_⟩⟩;obtain⟨h1,h2,h3⟩:=hR.bj i k b ke hb;have cf:b≠B:=fun e=>hB (e ▸ h3) (by rw[←e];exact h1)
  refine⟨t.m b cf,fun c e hc=>⟨c,?_,rfl⟩⟩;show w'.heap[b]?=_;rw[t.heap b cf h3];exact hc
theorem Touch.same(t:Touch E g S w g' T' N' w' B dk dt)(hR:R E g S a w):Wb E g' N' w' where
 os:=t.os.trans hR.same.os
 tape:=t.tape.trans hR.same.tape
 output:=t.output.trans hR.same.output
 size:=iQ hR.same.size t.size
 eK:=iQ hR.same.eK t.eK
 γ:=fun i hi=>(t.γ i (iC hi hR.same.eK)).trans (hR.same.γ i hi)
 γnew:=fun i h1 h2=>by
  by_cases h:i<S.aA.length
  ·rw[t.γ i h];exact hR.same.γnew i h1 h
  ·exact t.γnew i (by omega) h2
 kA:=fun b hb jh yh=>by
  have cf:b≠B:=fun e=>by
   rcases t.fresh with h | ⟨i,h1,h2⟩ | h
   ·omega
   ·exact jh i h1 (e ▸ h2)
   ·exact yh (e ▸ h)
  obtain⟨h1,h2⟩:=hR.same.kA b hb jh yh;exact⟨(t.heap b cf (iC hb hR.same.size)).trans h1,(t.m b cf).trans h2⟩
 grow:=fun b hb hw=>by
  obtain⟨h1,h2⟩:=hR.same.grow b hb hw;have bE:=iC hb hR.same.size;by_cases cf:b=B
  ·subst cf
   exact⟨fun o y ho hy=>t.kb o y (iC ho h2) (h1 o y ho hy),iQ h2 (t.qn bE)⟩
  ·exact⟨fun o y ho hy=>by rw[tn (t.heap b cf bE)];exact h1 o y ho hy,by rw[t.m b cf];exact h2⟩
 iq:=fun b p q hb ho=>by
  by_cases cf:b=B
  ·subst cf;exact t.iq p q hb ho
  ·rw[t.ow b cf]at ho;exact hR.same.iq b p q hb ho
 lv:=fun b i ho=>by
  by_cases cf:b=B
  ·subst cf;exact(t.lv i ho).2.2
  ·rw[t.ow b cf]at ho;exact hR.same.lv b i ho
theorem Touch.env(t:Touch E g S w g' T' N' w' B dk dt)(hR:R E g S a w)(hk:∀i,jg (S.cx g w) ⟨w'.heap,g',N',T'⟩ i∨∀s v,look s S.env=some v→v.cq i=false) :
  ∀s v,look s S.env=some v→∃x,a.tmps[s]?=some x∧bb ⟨w'.heap,g',N',T'⟩ v x:=fun s v hs=>by
 obtain⟨x,hx,hr⟩:=hR.env s v hs;exact⟨x,hx,hr.mono t.le fun i=>(hk i).imp (fun z=>z) fun h=>h s v hs⟩
theorem Touch.obj(t:Touch E g S w g' T' N' w' B dk dt)(hR:R E g S a w){id:Nat}{cs:List V}(ho:look id S.aW=some cs)(hd:dk≠some id)
  (hB:B<w.heap.size→g.ow B≠.obj id) (hk:∀i,jg (S.cx g w) ⟨w'.heap,g',N',T'⟩ i∨∀v∈cs,v.cq i=false) :
  (cs=[]∧g'.cp id=0)∨g'.ow (g'.κ id)=.obj id∧E.w0.heap.size≤g'.κ id∧g'.m (g'.κ id)=0 ∧
  ∃c e,w'.heap[g'.κ id]?=some (.cells c e (0,0))∧g'.cp id≤c.size∧∀(j:Nat) (v:V),cs[j]?=some v→v.cL=true∧∃y,c[j]?=some y∧bb ⟨w'.heap,g',N',T'⟩ v y:=by
 rcases hR.aW id cs ho with⟨h1,h2⟩ | ⟨h1,h2,h3,c,e,h4,fU,h5⟩
 ·exact .inl ⟨h1,(t.cp id hd).trans h2⟩
 refine .inr ?_;have bE:g.κ id<w.heap.size:=by
  rcases cF (g.κ id) w.heap.size with h|h
  ·exact h
  ·simp[mF h]at h4
 have cf:g.κ id≠B:=fun e=>hB (e ▸ bE) (by rw[←e];exact h1)
 rw[t.κ id hd,t.cp id hd];refine⟨(t.ow _ cf).trans h1,h2,(t.m _ cf).trans h3,c,e,(t.heap _ cf bE).trans h4,fU,fun j v hj=>?_⟩;obtain⟨h6,y,h7,h8⟩:=h5 j v hj;exact⟨h6,y,h7,h8.mono t.le fun i=>(hk i).imp (fun z=>z) fun h=>h v (fW hj)⟩
theorem Touch.ahA(t:Touch E g S w g' T' N' w' B dk dt)(hR:R E g S a w){i:Nat}{o:aS}(ho:S.aA[i]?=some o)
  (hB:B<w.heap.size→g.ow B≠.aA i) :
  o=.cells []∨g'.ow (g'.γ i)=.aA i∧Hd w'.heap g' N' (g'.γ i) o:=by
 rcases hR.aA.obj i o ho with h1 | ⟨h1,h2⟩
 ·exact .inl h1
 refine .inr ?_;have hi:i<S.aA.length:=by
  rcases cF i S.aA.length with h|h
  ·exact h
  ·simp[jT h]at ho
 rw[t.γ i hi];cases o with
 |map es =>
  obtain⟨h3,c,e,h4,h5,h6⟩:=h2;have bE:g.γ i<w.heap.size:=by
   rcases cF (g.γ i) w.heap.size with h|h
   ·exact h
   ·simp[mF h]at h4
  have cf:g.γ i≠B:=fun e=>hB (e ▸ bE) (by rw[←e];exact h1)
  refine⟨(t.ow _ cf).trans h1,(t.m _ cf).trans h3,c,e,(t.heap _ cf bE).trans h4,h5,fun j v y hj hy=>?_⟩;obtain⟨h7,h8,h9,gx⟩:=h6 j v y hj hy;have le:Le ⟨w.heap,g,S.aA.length,[]⟩ ⟨w'.heap,g',N',[]⟩:=⟨t.le.size,t.le.cells,t.le.m,t.le.eK,t.le.γ⟩;exact⟨h7,h8,h9.mono le fun i=>.inr (h7 i),gx.mono le fun i=>.inr (wT (h8 i))⟩
 |cells cs =>
  obtain⟨h3,c,e,h4,h5,h6⟩:=h2;have bE:g.γ i<w.heap.size:=by
   rcases cF (g.γ i) w.heap.size with h|h
   ·exact h
   ·simp[mF h]at h4
  have cf:g.γ i≠B:=fun e=>hB (e ▸ bE) (by rw[←e];exact h1)
  refine⟨(t.ow _ cf).trans h1,(t.m _ cf).trans h3,c,e,(t.heap _ cf bE).trans h4,h5,fun j v y hj hy=>?_⟩;obtain⟨h7,h8,h9⟩:=h6 j v y hj hy;have le:Le ⟨w.heap,g,S.aA.length,[]⟩ ⟨w'.heap,g',N',[]⟩:=⟨t.le.size,t.le.cells,t.le.m,t.le.eK,t.le.γ⟩;exact⟨h7,h8,h9.mono le fun i=>.inr (h8 i)⟩
theorem Touch.owns(t:Touch E g S w g' T' N' w' B dk dt)(hR:R E g S a w){i:Nat}{o:aS}(ho:S.aA[i]?=some o)
  (hB:B<w.heap.size→g.ow B≠.aA i∧∀j,g.ow B≠.cell (g.γ i) j):CD w'.heap g' (g'.γ i) o:=by
 have h3:=hR.aA.own i o ho;rcases hR.aA.obj i o ho with h1 | ⟨h1,h2⟩
 ·subst h1;exact fun j n es y hj=>by simp at hj
 have hi:i<S.aA.length:=by
  rcases cF i S.aA.length with h|h
  ·exact h
  ·simp[jT h]at ho
 rw[t.γ i hi];cases o with
 |map es=>trivial
 |cells cs =>
  obtain⟨_,c,e,h4,_⟩:=h2;have bE:g.γ i<w.heap.size:=by
   rcases cF (g.γ i) w.heap.size with h|h
   ·exact h
   ·simp[mF h]at h4
  have cf:g.γ i≠B:=fun e=>(hB (e ▸ bE)).1 (by rw[←e];exact h1)
  intro j n es y hj hy;rw[tn (t.heap _ cf bE)]at hy;rcases h3 j n es y hj hy with h | ⟨q,cap,c',e',q1,q2,q3,q4,q5,q6⟩
  ·exact .inl h
  ·have pP:q<w.heap.size:=by
    rcases cF q w.heap.size with h|h
    ·exact h
    ·simp[mF h]at q4
   have OM:q≠B:=fun e=>(hB (e ▸ pP)).2 j (by rw[←e];exact q2)
   exact .inr ⟨q,cap,c',e',q1,(t.ow q OM).trans q2,(t.m q OM).trans q3,(t.heap q OM pP).trans q4,q5,q6⟩
theorem Touch.tok(t:Touch E g S w g' T' N' w' B dk dt)(hR:R E g S a w){f k b:Nat}(hf:look f T'=some k)(hb:g'.τ f=some b)(hd:dt≠some f)
  (hB:B<w.heap.size→g.ow B≠.tok f):g'.ow b=.tok f∧(E.w0.heap.size≤b∨E.own b)∧b<w'.heap.size:=by
 rw[t.T f hd]at hf;rw[t.τ f hd]at hb;obtain⟨h1,h2,h3⟩:=hR.bj f k b hf hb;have cf:b≠B:=fun e=>hB (e ▸ h3) (by rw[←e];exact h1)
 exact⟨(t.ow b cf).trans h1,h2,iC h3 t.size⟩
end
end Go.Vm
