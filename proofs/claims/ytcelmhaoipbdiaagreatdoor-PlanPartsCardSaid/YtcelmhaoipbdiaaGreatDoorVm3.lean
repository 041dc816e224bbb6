/- The value machine, 3: steps of the relation. -/
import Derived.Test.YtcelmhaoipbdiaaGreatDoorVm2
namespace Go.Vm
set_option linter.all false
theorem dj{α:Type}(s k:Nat)(v:α)(r:List (Nat×α)):look s ((k,v)::r)=if k=s then some v else look s r:=by
 simp only[look];by_cases h:k=s
 ·subst h;simp
 ·rw[E6.2 h,aA h];rfl
theorem CN(S:St)(d:Nat)(v:V):S.put (some d) v={ S with env:=(d,v)::S.env }:=rfl
theorem aqQ(S:St)(v:V):S.put none v=S:=rfl
theorem SZ{a:Act}{d s:Nat}{x y:Value}(hd:d<a.tmps.size):(a.put (some d) x).tmps[s]?=some y↔(if d=s then y=x else a.tmps[s]?=some y):=by
 simp only[Act.put,L3];by_cases h:d=s
 ·subst h;simp[hd,eq_comm]
 ·simp[h]
theorem R.put{E:Entry}{g:Gh}{S:St}{a:Act}{w:World}(hR:R E g S a w){dst:Option Nat}{v:V}{x:Value}
  (hd:∀d,dst=some d→d<E.nt) (hx:aZ (S.cx g w) v x):R E g (S.put dst v) (a.put dst x) w:=by
 cases dst with
 |none=>exact hR
 |some d =>
  have bB:d<a.tmps.size:=by rw[hR.jg];exact hd d rfl
  refine⟨fun s u hs=>?_,hR.aW,hR.bf,hR.ay,hR.defers,by simp[Act.put,hR.jg],hR.same⟩
  rw[CN,dj]at hs;by_cases h:d=s
  ·subst h
   rw[aP rfl]at hs;cases hs;exact⟨x,(SZ bB).2 (by simp),hx⟩
  ·rw[aA h]at hs
   obtain⟨y,hy,hr⟩:=hR.env s u hs;exact⟨y,(SZ bB).2 (by simp[h,hy]),hr⟩
structure St.eM(S:St)(d:Nat):Prop where
 env:∀s v,look s S.env=some v→v.ch d=false
 aW:∀id cs,look id S.aW=some cs→∀v∈cs,v.cA d=false
 obj:look d S.aW=none
 tok:look d S.bf=none
structure Touch(E:Entry)(g:Gh)(S:St)(w:World)(g':Gh)(T':List (Nat×Nat))(N':Nat)(w':World)(B:Nat)(dk dt:Option Nat):Prop where
 os:w'.os=w.os
 tape:w'.tape=w.tape
 output:w'.output=w.output
 size:w.heap.size≤w'.heap.size
 heap:∀b,b≠B→b<w.heap.size→w'.heap[b]?=w.heap[b]?
 m:∀b,b≠B→g'.m b=g.m b
 ow:∀b,b≠B→g'.ow b=g.ow b
 κ:∀i,dk≠some i→g'.κ i=g.κ i
 cp:∀i,dk≠some i→g'.cp i=g.cp i
 τ:∀i,dt≠some i→g'.τ i=g.τ i
 T:∀i,dt≠some i→look i T'=look i S.bf
 γ:∀i,i<S.ay.length→g'.γ i=g.γ i
 eD:S.ay.length≤N'
 γnew:∀i,S.ay.length≤i→i<N'→E.w0.heap.size≤g'.γ i
 fresh:E.w0.heap.size≤B∨(∃i,i<E.N0∧E.g0.ow B=.ay i)∨E.own B
 hY:∀p q,B<E.w0.heap.size→g'.ow B=.cell p q→E.own B
 lv:∀i,g'.ow B=.ay i→g'.m B=0∧i<N'∧(B<E.w0.heap.size→E.g0.ow B=.ay i∧i<E.N0)
 jJ:∀o y,o<g.m B→cellAt w.heap B o=some y→cellAt w'.heap B o=some y
 pC:B<w.heap.size→g.m B≤g'.m B
theorem R.CO{E:Entry}{g:Gh}{S:St}{a:Act}{w:World}{N':Nat}(hR:R E g S a w){b i:Nat}(ho:g.ow b=.ay i)(hN:S.ay.length≤N'):g.m b=0∧i<N'∧(b<E.w0.heap.size→E.g0.ow b=.ay i∧i<E.N0) :=
 ⟨(hR.ay.z b i ho).1,iq (hR.ay.z b i ho).2 hN,hR.same.lv b i ho⟩
section
variable {E:Entry} {g g':Gh} {S:St} {a:Act} {w w':World} {T':List (Nat×Nat)} {N' B:Nat} {dk dt:Option Nat}
theorem Touch.le(t:Touch E g S w g' T' N' w' B dk dt):Le (S.cx g w) ⟨w'.heap,g',N',T'⟩ where
 size:=t.size
 cells:=fun b o y ho hy=>by
  by_cases h:b=B
  ·subst h;exact t.jJ o y ho hy
  ·show cellAt w'.heap b o=some y
   rw[rU (t.heap b h (zK hy))];exact hy
 m:=fun b hb=>by
  by_cases h:b=B
  ·subst h;exact t.pC hb
  ·exact tO (t.m b h).symm
 eD:=t.eD
 γ:=t.γ
theorem Touch.keeps(t:Touch E g S w g' T' N' w' B dk dt)(hR:R E g S a w){i:Nat}(hi:dk≠some i)(hj:dt≠some i)(hB:B<w.heap.size→g.ow B≠.tok i) :
  iM (S.cx g w) ⟨w'.heap,g',N',T'⟩ i where
 κ:=t.κ i hi
 cp:=t.cp i hi
 tok:=fun k hk=>by
  have jh:look i S.bf=some k:=by rw[←t.T i hj];exact hk
  refine⟨k,jh,bR _,fun _=>⟨t.τ i hj,fun b hb=>?_⟩⟩;obtain⟨h1,h2,h3⟩:=hR.bf i k b jh hb;have cf:b≠B:=fun e=>hB (e ▸ h3) (by rw[←e];exact h1)
  refine⟨t.m b cf,fun c e hc=>⟨c,?_,rfl⟩⟩;show w'.heap[b]?=_;rw[t.heap b cf h3];exact hc
theorem Touch.same(t:Touch E g S w g' T' N' w' B dk dt)(hR:R E g S a w):SY E g' N' w' where
 os:=t.os.trans hR.same.os
 tape:=t.tape.trans hR.same.tape
 output:=t.output.trans hR.same.output
 size:=jT hR.same.size t.size
 eD:=jT hR.same.eD t.eD
 γ:=fun i hi=>(t.γ i (iq hi hR.same.eD)).trans (hR.same.γ i hi)
 γnew:=fun i h1 h2=>by
  by_cases h:i<S.ay.length
  ·rw[t.γ i h];exact hR.same.γnew i h1 h
  ·exact t.γnew i (by omega) h2
 kI:=fun b hb ji wI=>by
  have cf:b≠B:=fun e=>by
   rcases t.fresh with h | ⟨i,h1,h2⟩ | h
   ·omega
   ·exact ji i h1 (e ▸ h2)
   ·exact wI (e ▸ h)
  obtain⟨h1,h2⟩:=hR.same.kI b hb ji wI;exact⟨(t.heap b cf (iq hb hR.same.size)).trans h1,(t.m b cf).trans h2⟩
 grow:=fun b hb hw=>by
  obtain⟨h1,h2⟩:=hR.same.grow b hb hw;have bB:=iq hb hR.same.size;by_cases cf:b=B
  ·subst cf
   exact⟨fun o y ho hy=>t.jJ o y (iq ho h2) (h1 o y ho hy),jT h2 (t.pC bB)⟩
  ·exact⟨fun o y ho hy=>by rw[rU (t.heap b cf bB)];exact h1 o y ho hy,by rw[t.m b cf];exact h2⟩
 hY:=fun b p q hb ho=>by
  by_cases cf:b=B
  ·subst cf;exact t.hY p q hb ho
  ·rw[t.ow b cf]at ho;exact hR.same.hY b p q hb ho
 lv:=fun b i ho=>by
  by_cases cf:b=B
  ·subst cf;exact(t.lv i ho).2.2
  ·rw[t.ow b cf]at ho;exact hR.same.lv b i ho
theorem Touch.env(t:Touch E g S w g' T' N' w' B dk dt)(hR:R E g S a w)(hk:∀i,iM (S.cx g w) ⟨w'.heap,g',N',T'⟩ i∨∀s v,look s S.env=some v→v.ch i=false) :
  ∀s v,look s S.env=some v→∃x,a.tmps[s]?=some x∧aZ ⟨w'.heap,g',N',T'⟩ v x:=fun s v hs=>by
 obtain⟨x,hx,hr⟩:=hR.env s v hs;exact⟨x,hx,hr.mono t.le fun i=>(hk i).imp (fun z=>z) fun h=>h s v hs⟩
theorem Touch.obj(t:Touch E g S w g' T' N' w' B dk dt)(hR:R E g S a w){id:Nat}{cs:List V}(ho:look id S.aW=some cs)(hd:dk≠some id)
  (hB:B<w.heap.size→g.ow B≠.obj id) (hk:∀i,iM (S.cx g w) ⟨w'.heap,g',N',T'⟩ i∨∀v∈cs,v.ch i=false) :
  (cs=[]∧g'.cp id=0)∨g'.ow (g'.κ id)=.obj id∧E.w0.heap.size≤g'.κ id∧g'.m (g'.κ id)=0 ∧
  ∃c e,w'.heap[g'.κ id]?=some (.cells c e (0,0))∧g'.cp id≤c.size∧∀(j:Nat) (v:V),cs[j]?=some v→v.cI=true∧∃y,c[j]?=some y∧aZ ⟨w'.heap,g',N',T'⟩ v y:=by
 rcases hR.aW id cs ho with⟨h1,h2⟩ | ⟨h1,h2,h3,c,e,h4,fJ,h5⟩
 ·exact .inl ⟨h1,(t.cp id hd).trans h2⟩
 refine .inr ?_;have bB:g.κ id<w.heap.size:=by
  rcases cF (g.κ id) w.heap.size with h|h
  ·exact h
  ·simp[lU h]at h4
 have cf:g.κ id≠B:=fun e=>hB (e ▸ bB) (by rw[←e];exact h1)
 rw[t.κ id hd,t.cp id hd];refine⟨(t.ow _ cf).trans h1,h2,(t.m _ cf).trans h3,c,e,(t.heap _ cf bB).trans h4,fJ,fun j v hj=>?_⟩;obtain⟨h6,y,h7,h8⟩:=h5 j v hj;exact⟨h6,y,h7,h8.mono t.le fun i=>(hk i).imp (fun z=>z) fun h=>h v (gH hj)⟩
theorem Touch.ac9(t:Touch E g S w g' T' N' w' B dk dt)(hR:R E g S a w){i:Nat}{o:aT}(ho:S.ay[i]?=some o)
  (hB:B<w.heap.size→g.ow B≠.ay i) :
  o=.cells []∨g'.ow (g'.γ i)=.ay i∧Fc w'.heap g' N' (g'.γ i) o:=by
 rcases hR.ay.obj i o ho with h1 | ⟨h1,h2⟩
 ·exact .inl h1
 refine .inr ?_;have hi:i<S.ay.length:=by
  rcases cF i S.ay.length with h|h
  ·exact h
  ·simp[kF h]at ho
 rw[t.γ i hi];cases o with
 |map es =>
  obtain⟨h3,c,e,h4,h5,h6⟩:=h2;have bB:g.γ i<w.heap.size:=by
   rcases cF (g.γ i) w.heap.size with h|h
   ·exact h
   ·simp[lU h]at h4
  have cf:g.γ i≠B:=fun e=>hB (e ▸ bB) (by rw[←e];exact h1)
  refine⟨(t.ow _ cf).trans h1,(t.m _ cf).trans h3,c,e,(t.heap _ cf bB).trans h4,h5,fun j v y hj hy=>?_⟩;obtain⟨h7,h8,h9,fT⟩:=h6 j v y hj hy;have le:Le ⟨w.heap,g,S.ay.length,[]⟩ ⟨w'.heap,g',N',[]⟩:=⟨t.le.size,t.le.cells,t.le.m,t.le.eD,t.le.γ⟩;exact⟨h7,h8,h9.mono le fun i=>.inr (h7 i),fT.mono le fun i=>.inr (vl (h8 i))⟩
 |cells cs =>
  obtain⟨h3,c,e,h4,h5,h6⟩:=h2;have bB:g.γ i<w.heap.size:=by
   rcases cF (g.γ i) w.heap.size with h|h
   ·exact h
   ·simp[lU h]at h4
  have cf:g.γ i≠B:=fun e=>hB (e ▸ bB) (by rw[←e];exact h1)
  refine⟨(t.ow _ cf).trans h1,(t.m _ cf).trans h3,c,e,(t.heap _ cf bB).trans h4,h5,fun j v y hj hy=>?_⟩;obtain⟨h7,h8,h9⟩:=h6 j v y hj hy;have le:Le ⟨w.heap,g,S.ay.length,[]⟩ ⟨w'.heap,g',N',[]⟩:=⟨t.le.size,t.le.cells,t.le.m,t.le.eD,t.le.γ⟩;exact⟨h7,h8,h9.mono le fun i=>.inr (h8 i)⟩
theorem Touch.owns(t:Touch E g S w g' T' N' w' B dk dt)(hR:R E g S a w){i:Nat}{o:aT}(ho:S.ay[i]?=some o)
  (hB:B<w.heap.size→g.ow B≠.ay i∧∀j,g.ow B≠.cell (g.γ i) j):A8 w'.heap g' (g'.γ i) o:=by
 have h3:=hR.ay.own i o ho;rcases hR.ay.obj i o ho with h1 | ⟨h1,h2⟩
 ·subst h1;exact fun j n es y hj=>by simp at hj
 have hi:i<S.ay.length:=by
  rcases cF i S.ay.length with h|h
  ·exact h
  ·simp[kF h]at ho
 rw[t.γ i hi];cases o with
 |map es=>trivial
 |cells cs =>
  obtain⟨_,c,e,h4,_⟩:=h2;have bB:g.γ i<w.heap.size:=by
   rcases cF (g.γ i) w.heap.size with h|h
   ·exact h
   ·simp[lU h]at h4
  have cf:g.γ i≠B:=fun e=>(hB (e ▸ bB)).1 (by rw[←e];exact h1)
  intro j n es y hj hy;rw[rU (t.heap _ cf bB)]at hy;rcases h3 j n es y hj hy with h | ⟨q,cap,c',e',q1,q2,q3,q4,q5,q6⟩
  ·exact .inl h
  ·have oQ:q<w.heap.size:=by
    rcases cF q w.heap.size with h|h
    ·exact h
    ·simp[lU h]at q4
   have MA:q≠B:=fun e=>(hB (e ▸ oQ)).2 j (by rw[←e];exact q2)
   exact .inr ⟨q,cap,c',e',q1,(t.ow q MA).trans q2,(t.m q MA).trans q3,(t.heap q MA oQ).trans q4,q5,q6⟩
theorem Touch.tok(t:Touch E g S w g' T' N' w' B dk dt)(hR:R E g S a w){f k b:Nat}(hf:look f T'=some k)(hb:g'.τ f=some b)(hd:dt≠some f)
  (hB:B<w.heap.size→g.ow B≠.tok f):g'.ow b=.tok f∧(E.w0.heap.size≤b∨E.own b)∧b<w'.heap.size:=by
 rw[t.T f hd]at hf;rw[t.τ f hd]at hb;obtain⟨h1,h2,h3⟩:=hR.bf f k b hf hb;have cf:b≠B:=fun e=>hB (e ▸ h3) (by rw[←e];exact h1)
 exact⟨(t.ow b cf).trans h1,h2,iq h3 t.size⟩
end
end Go.Vm
