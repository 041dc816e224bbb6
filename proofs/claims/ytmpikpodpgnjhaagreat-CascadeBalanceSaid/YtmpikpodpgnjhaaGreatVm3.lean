/- The value machine, 3: steps of the relation. -/
import Derived.Test.YtmpikpodpgnjhaaGreatVm2
namespace Go.Vm
set_option linter.all false
theorem dQ{α:Type}(s k:Nat)(v:α)(r:List (Nat×α)):look s ((k,v)::r)=if k=s then some v else look s r:=by
 simp only[look];by_cases h:k=s
 ·subst h;simp
 ·rw[beq_eq_false_iff_ne.2 h,if_neg h];rfl
theorem z7(S:St)(d:Nat)(v:V):S.put (some d) v={ S with env:=(d,v)::S.env }:=rfl
theorem akK(S:St)(v:V):S.put none v=S:=rfl
theorem NW{a:Act}{d s:Nat}{x y:Value}(hd:d<a.tmps.size):(a.put (some d) x).tmps[s]?=some y↔(if d=s then y=x else a.tmps[s]?=some y):=by
 simp only[Act.put,Array.getElem?_setIfInBounds];by_cases h:d=s
 ·subst h;simp[hd,eq_comm]
 ·simp[h]
theorem R.put{E:Entry}{g:Gh}{S:St}{a:Act}{w:World}(hR:R E g S a w){dst:Option Nat}{v:V}{x:Value}
  (hd:∀d,dst=some d→d<E.nt) (hx:bj (S.cx g w) v x):R E g (S.put dst v) (a.put dst x) w:=by
 cases dst with
 |none=>exact hR
 |some d =>
  have bG:d<a.tmps.size:=by rw[hR.jy];exact hd d rfl
  refine⟨fun s u hs=>?_,hR.bb,hR.bm,hR.az,hR.defers,by simp[Act.put,hR.jy],hR.same⟩
  rw[z7,dQ]at hs;by_cases h:d=s
  ·subst h
   rw[if_pos rfl]at hs;cases hs;exact⟨x,(NW bG).2 (by simp),hx⟩
  ·rw[if_neg h]at hs
   obtain⟨y,hy,hr⟩:=hR.env s u hs;exact⟨y,(NW bG).2 (by simp[h,hy]),hr⟩
structure St.eR(S:St)(d:Nat):Prop where
 env:∀s v,look s S.env=some v→v.cu d=false
 bb:∀id cs,look id S.bb=some cs→∀v∈cs,v.cI d=false
 obj:look d S.bb=none
 tok:look d S.bm=none
structure Touch(E:Entry)(g:Gh)(S:St)(w:World)(g':Gh)(T':List (Nat×Nat))(N':Nat)(w':World)(B:Nat)(dk dt:Option Nat):Prop where
 os:w'.os=w.os
 tape:w'.tape=w.tape
 output:w'.output=w.output
 size:w.heap.size≤w'.heap.size
 heap:∀b,b≠B→b<w.heap.size→w'.heap[b]?=w.heap[b]?
 m:∀b,b≠B→g'.m b=g.m b
 ow:∀b,b≠B→g'.ow b=g.ow b
 κ:∀i,dk≠some i→g'.κ i=g.κ i
 cp:∀i,dk≠some i→g'.cp i=g.cp i
 τ:∀i,dt≠some i→g'.τ i=g.τ i
 T:∀i,dt≠some i→look i T'=look i S.bm
 γ:∀i,i<S.az.length→g'.γ i=g.γ i
 fb:S.az.length≤N'
 γnew:∀i,S.az.length≤i→i<N'→E.w0.heap.size≤g'.γ i
 fresh:E.w0.heap.size≤B∨(∃i,i<E.N0∧E.g0.ow B=.az i)∨E.own B
 ig:∀p q,B<E.w0.heap.size→g'.ow B=.cell p q→E.own B
 lv:∀i,g'.ow B=.az i→g'.m B=0∧i<N'∧(B<E.w0.heap.size→E.g0.ow B=.az i∧i<E.N0)
 jk:∀o y,o<g.m B→cellAt w.heap B o=some y→cellAt w'.heap B o=some y
 oC:B<w.heap.size→g.m B≤g'.m B
theorem R.z8{E:Entry}{g:Gh}{S:St}{a:Act}{w:World}{N':Nat}(hR:R E g S a w){b i:Nat}(ho:g.ow b=.az i)(hN:S.az.length≤N'):g.m b=0∧i<N'∧(b<E.w0.heap.size→E.g0.ow b=.az i∧i<E.N0) :=
 ⟨(hR.az.z b i ho).1,Nat.lt_of_lt_of_le (hR.az.z b i ho).2 hN,hR.same.lv b i ho⟩
section
variable {E:Entry} {g g':Gh} {S:St} {a:Act} {w w':World} {T':List (Nat×Nat)} {N' B:Nat} {dk dt:Option Nat}
theorem Touch.le(t:Touch E g S w g' T' N' w' B dk dt):Le (S.cx g w) ⟨w'.heap,g',N',T'⟩ where
 size:=t.size
 cells:=fun b o y ho hy=>by
  by_cases h:b=B
  ·subst h;exact t.jk o y ho hy
  ·show cellAt w'.heap b o=some y
   rw[rW (t.heap b h (z6 hy))];exact hy
 m:=fun b hb=>by
  by_cases h:b=B
  ·subst h;exact t.oC hb
  ·exact Nat.le_of_eq (t.m b h).symm
 fb:=t.fb
 γ:=t.γ
theorem Touch.keeps(t:Touch E g S w g' T' N' w' B dk dt)(hR:R E g S a w){i:Nat}(hi:dk≠some i)(hj:dt≠some i)(hB:B<w.heap.size→g.ow B≠.tok i) :
  iP (S.cx g w) ⟨w'.heap,g',N',T'⟩ i where
 κ:=t.κ i hi
 cp:=t.cp i hi
 tok:=fun k hk=>by
  have jO:look i S.bm=some k:=by rw[←t.T i hj];exact hk
  refine⟨k,jO,Nat.le_refl _,fun _=>⟨t.τ i hj,fun b hb=>?_⟩⟩;obtain⟨h1,h2,h3⟩:=hR.bm i k b jO hb;have cF:b≠B:=fun e=>hB (e ▸ h3) (by rw[←e];exact h1)
  refine⟨t.m b cF,fun c e hc=>⟨c,?_,rfl⟩⟩;show w'.heap[b]?=_;rw[t.heap b cF h3];exact hc
theorem Touch.same(t:Touch E g S w g' T' N' w' B dk dt)(hR:R E g S a w):NV E g' N' w' where
 os:=t.os.trans hR.same.os
 tape:=t.tape.trans hR.same.tape
 output:=t.output.trans hR.same.output
 size:=Nat.le_trans hR.same.size t.size
 fb:=Nat.le_trans hR.same.fb t.fb
 γ:=fun i hi=>(t.γ i (Nat.lt_of_lt_of_le hi hR.same.fb)).trans (hR.same.γ i hi)
 γnew:=fun i h1 h2=>by
  by_cases h:i<S.az.length
  ·rw[t.γ i h];exact hR.same.γnew i h1 h
  ·exact t.γnew i (by omega) h2
 lz:=fun b hb lh uh=>by
  have cF:b≠B:=fun e=>by
   rcases t.fresh with h | ⟨i,h1,h2⟩ | h
   ·omega
   ·exact lh i h1 (e ▸ h2)
   ·exact uh (e ▸ h)
  obtain⟨h1,h2⟩:=hR.same.lz b hb lh uh;exact⟨(t.heap b cF (Nat.lt_of_lt_of_le hb hR.same.size)).trans h1,(t.m b cF).trans h2⟩
 grow:=fun b hb hw=>by
  obtain⟨h1,h2⟩:=hR.same.grow b hb hw;have bG:=Nat.lt_of_lt_of_le hb hR.same.size;by_cases cF:b=B
  ·subst cF
   exact⟨fun o y ho hy=>t.jk o y (Nat.lt_of_lt_of_le ho h2) (h1 o y ho hy),Nat.le_trans h2 (t.oC bG)⟩
  ·exact⟨fun o y ho hy=>by rw[rW (t.heap b cF bG)];exact h1 o y ho hy,by rw[t.m b cF];exact h2⟩
 ig:=fun b p q hb ho=>by
  by_cases cF:b=B
  ·subst cF;exact t.ig p q hb ho
  ·rw[t.ow b cF]at ho;exact hR.same.ig b p q hb ho
 lv:=fun b i ho=>by
  by_cases cF:b=B
  ·subst cF;exact(t.lv i ho).2.2
  ·rw[t.ow b cF]at ho;exact hR.same.lv b i ho
theorem Touch.env(t:Touch E g S w g' T' N' w' B dk dt)(hR:R E g S a w)(hk:∀i,iP (S.cx g w) ⟨w'.heap,g',N',T'⟩ i∨∀s v,look s S.env=some v→v.cu i=false) :
  ∀s v,look s S.env=some v→∃x,a.tmps[s]?=some x∧bj ⟨w'.heap,g',N',T'⟩ v x:=fun s v hs=>by
 obtain⟨x,hx,hr⟩:=hR.env s v hs;exact⟨x,hx,hr.mono t.le fun i=>(hk i).imp (fun z=>z) fun h=>h s v hs⟩
theorem Touch.obj(t:Touch E g S w g' T' N' w' B dk dt)(hR:R E g S a w){id:Nat}{cs:List V}(ho:look id S.bb=some cs)(hd:dk≠some id)
  (hB:B<w.heap.size→g.ow B≠.obj id) (hk:∀i,iP (S.cx g w) ⟨w'.heap,g',N',T'⟩ i∨∀v∈cs,v.cu i=false) :
  (cs=[]∧g'.cp id=0)∨g'.ow (g'.κ id)=.obj id∧E.w0.heap.size≤g'.κ id∧g'.m (g'.κ id)=0 ∧
  ∃c e,w'.heap[g'.κ id]?=some (.cells c e (0,0))∧g'.cp id≤c.size∧∀(j:Nat) (v:V),cs[j]?=some v→v.cM=true∧∃y,c[j]?=some y∧bj ⟨w'.heap,g',N',T'⟩ v y:=by
 rcases hR.bb id cs ho with⟨h1,h2⟩ | ⟨h1,h2,h3,c,e,h4,fH,h5⟩
 ·exact .inl ⟨h1,(t.cp id hd).trans h2⟩
 refine .inr ?_;have bG:g.κ id<w.heap.size:=by
  rcases Nat.lt_or_ge (g.κ id) w.heap.size with h|h
  ·exact h
  ·simp[Array.getElem?_eq_none h]at h4
 have cF:g.κ id≠B:=fun e=>hB (e ▸ bG) (by rw[←e];exact h1)
 rw[t.κ id hd,t.cp id hd];refine⟨(t.ow _ cF).trans h1,h2,(t.m _ cF).trans h3,c,e,(t.heap _ cF bG).trans h4,fH,fun j v hj=>?_⟩;obtain⟨h6,y,h7,h8⟩:=h5 j v hj;exact⟨h6,y,h7,h8.mono t.le fun i=>(hk i).imp (fun z=>z) fun h=>h v (List.mem_of_getElem? hj)⟩
theorem Touch.Wk(t:Touch E g S w g' T' N' w' B dk dt)(hR:R E g S a w){i:Nat}{o:aW}(ho:S.az[i]?=some o)
  (hB:B<w.heap.size→g.ow B≠.az i) :
  o=.cells []∨g'.ow (g'.γ i)=.az i∧BZ w'.heap g' N' (g'.γ i) o:=by
 rcases hR.az.obj i o ho with h1 | ⟨h1,h2⟩
 ·exact .inl h1
 refine .inr ?_;have hi:i<S.az.length:=by
  rcases Nat.lt_or_ge i S.az.length with h|h
  ·exact h
  ·simp[List.getElem?_eq_none h]at ho
 rw[t.γ i hi];cases o with
 |map es =>
  obtain⟨h3,c,e,h4,h5,h6⟩:=h2;have bG:g.γ i<w.heap.size:=by
   rcases Nat.lt_or_ge (g.γ i) w.heap.size with h|h
   ·exact h
   ·simp[Array.getElem?_eq_none h]at h4
  have cF:g.γ i≠B:=fun e=>hB (e ▸ bG) (by rw[←e];exact h1)
  refine⟨(t.ow _ cF).trans h1,(t.m _ cF).trans h3,c,e,(t.heap _ cF bG).trans h4,h5,fun j v y hj hy=>?_⟩;obtain⟨h7,h8,h9,fW⟩:=h6 j v y hj hy;have le:Le ⟨w.heap,g,S.az.length,[]⟩ ⟨w'.heap,g',N',[]⟩:=⟨t.le.size,t.le.cells,t.le.m,t.le.fb,t.le.γ⟩;exact⟨h7,h8,h9.mono le fun i=>.inr (h7 i),fW.mono le fun i=>.inr (tc (h8 i))⟩
 |cells cs =>
  obtain⟨h3,c,e,h4,h5,h6⟩:=h2;have bG:g.γ i<w.heap.size:=by
   rcases Nat.lt_or_ge (g.γ i) w.heap.size with h|h
   ·exact h
   ·simp[Array.getElem?_eq_none h]at h4
  have cF:g.γ i≠B:=fun e=>hB (e ▸ bG) (by rw[←e];exact h1)
  refine⟨(t.ow _ cF).trans h1,(t.m _ cF).trans h3,c,e,(t.heap _ cF bG).trans h4,h5,fun j v y hj hy=>?_⟩;obtain⟨h7,h8,h9⟩:=h6 j v y hj hy;have le:Le ⟨w.heap,g,S.az.length,[]⟩ ⟨w'.heap,g',N',[]⟩:=⟨t.le.size,t.le.cells,t.le.m,t.le.fb,t.le.γ⟩;exact⟨h7,h8,h9.mono le fun i=>.inr (h8 i)⟩
theorem Touch.owns(t:Touch E g S w g' T' N' w' B dk dt)(hR:R E g S a w){i:Nat}{o:aW}(ho:S.az[i]?=some o)
  (hB:B<w.heap.size→g.ow B≠.az i∧∀j,g.ow B≠.cell (g.γ i) j):xK w'.heap g' (g'.γ i) o:=by
 have h3:=hR.az.own i o ho;rcases hR.az.obj i o ho with h1 | ⟨h1,h2⟩
 ·subst h1;exact fun j n es y hj=>by simp at hj
 have hi:i<S.az.length:=by
  rcases Nat.lt_or_ge i S.az.length with h|h
  ·exact h
  ·simp[List.getElem?_eq_none h]at ho
 rw[t.γ i hi];cases o with
 |map es=>trivial
 |cells cs =>
  obtain⟨_,c,e,h4,_⟩:=h2;have bG:g.γ i<w.heap.size:=by
   rcases Nat.lt_or_ge (g.γ i) w.heap.size with h|h
   ·exact h
   ·simp[Array.getElem?_eq_none h]at h4
  have cF:g.γ i≠B:=fun e=>(hB (e ▸ bG)).1 (by rw[←e];exact h1)
  intro j n es y hj hy;rw[rW (t.heap _ cF bG)]at hy;rcases h3 j n es y hj hy with h | ⟨q,cap,c',e',q1,q2,q3,q4,q5,q6⟩
  ·exact .inl h
  ·have ph:q<w.heap.size:=by
    rcases Nat.lt_or_ge q w.heap.size with h|h
    ·exact h
    ·simp[Array.getElem?_eq_none h]at q4
   have Ik:q≠B:=fun e=>(hB (e ▸ ph)).2 j (by rw[←e];exact q2)
   exact .inr ⟨q,cap,c',e',q1,(t.ow q Ik).trans q2,(t.m q Ik).trans q3,(t.heap q Ik ph).trans q4,q5,q6⟩
theorem Touch.tok(t:Touch E g S w g' T' N' w' B dk dt)(hR:R E g S a w){f k b:Nat}(hf:look f T'=some k)(hb:g'.τ f=some b)(hd:dt≠some f)
  (hB:B<w.heap.size→g.ow B≠.tok f):g'.ow b=.tok f∧(E.w0.heap.size≤b∨E.own b)∧b<w'.heap.size:=by
 rw[t.T f hd]at hf;rw[t.τ f hd]at hb;obtain⟨h1,h2,h3⟩:=hR.bm f k b hf hb;have cF:b≠B:=fun e=>hB (e ▸ h3) (by rw[←e];exact h1)
 exact⟨(t.ow b cF).trans h1,h2,Nat.lt_of_lt_of_le h3 t.size⟩
end
end Go.Vm
