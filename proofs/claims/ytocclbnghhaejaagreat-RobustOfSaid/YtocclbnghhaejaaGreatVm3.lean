/- The value machine, 3: steps of the relation. -/
import Derived.Test.YtocclbnghhaejaaGreatVm2
namespace Go.Vm
set_option linter.all false
theorem dA{α:Type}(s k:Nat)(v:α)(r:List (Nat×α)):look s ((k,v)::r)=if k=s then some v else look s r:=by
 simp only[look];by_cases h:k=s
 ·subst h;simp
 ·rw[beq_eq_false_iff_ne.2 h,if_neg h];rfl
theorem Cc(S:St)(d:Nat)(v:V):S.put (some d) v={ S with env:=(d,v)::S.env }:=rfl
theorem aqn(S:St)(v:V):S.put none v=S:=rfl
theorem QY{a:Act}{d s:Nat}{x y:Value}(hd:d<a.tmps.size):(a.put (some d) x).tmps[s]?=some y↔(if d=s then y=x else a.tmps[s]?=some y):=by
 simp only[Act.put,Array.getElem?_setIfInBounds];by_cases h:d=s
 ·subst h;simp[hd,eq_comm]
 ·simp[h]
theorem R.put{E:Entry}{g:Gh}{S:St}{a:Act}{w:World}(hR:R E g S a w){dst:Option Nat}{v:V}{x:Value}
  (hd:∀d,dst=some d→d<E.nt) (hx:aZ (S.cx g w) v x):R E g (S.put dst v) (a.put dst x) w:=by
 cases dst with
 |none=>exact hR
 |some d =>
  have bA:d<a.tmps.size:=by rw[hR.jh];exact hd d rfl
  refine⟨fun s u hs=>?_,hR.aU,hR.bg,hR.aF,hR.defers,by simp[Act.put,hR.jh],hR.same⟩
  rw[Cc,dA]at hs;by_cases h:d=s
  ·subst h
   rw[if_pos rfl]at hs;cases hs;exact⟨x,(QY bA).2 (by simp),hx⟩
  ·rw[if_neg h]at hs
   obtain⟨y,hy,hr⟩:=hR.env s u hs;exact⟨y,(QY bA).2 (by simp[h,hy]),hr⟩
structure St.eG(S:St)(d:Nat):Prop where
 env:∀s v,look s S.env=some v→v.cj d=false
 aU:∀id cs,look id S.aU=some cs→∀v∈cs,v.cD d=false
 obj:look d S.aU=none
 tok:look d S.bg=none
structure Touch(E:Entry)(g:Gh)(S:St)(w:World)(g':Gh)(T':List (Nat×Nat))(N':Nat)(w':World)(B:Nat)(dk dt:Option Nat):Prop where
 os:w'.os=w.os
 tape:w'.tape=w.tape
 output:w'.output=w.output
 size:w.heap.size≤w'.heap.size
 heap:∀b,b≠B→b<w.heap.size→w'.heap[b]?=w.heap[b]?
 m:∀b,b≠B→g'.m b=g.m b
 ow:∀b,b≠B→g'.ow b=g.ow b
 κ:∀i,dk≠some i→g'.κ i=g.κ i
 cp:∀i,dk≠some i→g'.cp i=g.cp i
 τ:∀i,dt≠some i→g'.τ i=g.τ i
 T:∀i,dt≠some i→look i T'=look i S.bg
 γ:∀i,i<S.aF.length→g'.γ i=g.γ i
 eN:S.aF.length≤N'
 γnew:∀i,S.aF.length≤i→i<N'→E.w0.heap.size≤g'.γ i
 fresh:E.w0.heap.size≤B∨(∃i,i<E.N0∧E.g0.ow B=.aF i)∨E.own B
 ib:∀p q,B<E.w0.heap.size→g'.ow B=.cell p q→E.own B
 lv:∀i,g'.ow B=.aF i→g'.m B=0∧i<N'∧(B<E.w0.heap.size→E.g0.ow B=.aF i∧i<E.N0)
 jK:∀o y,o<g.m B→cellAt w.heap B o=some y→cellAt w'.heap B o=some y
 oV:B<w.heap.size→g.m B≤g'.m B
theorem R.Cd{E:Entry}{g:Gh}{S:St}{a:Act}{w:World}{N':Nat}(hR:R E g S a w){b i:Nat}(ho:g.ow b=.aF i)(hN:S.aF.length≤N'):g.m b=0∧i<N'∧(b<E.w0.heap.size→E.g0.ow b=.aF i∧i<E.N0) :=
 ⟨(hR.aF.z b i ho).1,Nat.lt_of_lt_of_le (hR.aF.z b i ho).2 hN,hR.same.lv b i ho⟩
section
variable {E:Entry} {g g':Gh} {S:St} {a:Act} {w w':World} {T':List (Nat×Nat)} {N' B:Nat} {dk dt:Option Nat}
theorem Touch.le(t:Touch E g S w g' T' N' w' B dk dt):Le (S.cx g w) ⟨w'.heap,g',N',T'⟩ where
 size:=t.size
 cells:=fun b o y ho hy=>by
  by_cases h:b=B
  ·subst h;exact t.jK o y ho hy
  ·show cellAt w'.heap b o=some y
   rw[tE (t.heap b h (Cb hy))];exact hy
 m:=fun b hb=>by
  by_cases h:b=B
  ·subst h;exact t.oV hb
  ·exact Nat.le_of_eq (t.m b h).symm
 eN:=t.eN
 γ:=t.γ
theorem Touch.keeps(t:Touch E g S w g' T' N' w' B dk dt)(hR:R E g S a w){i:Nat}(hi:dk≠some i)(hj:dt≠some i)(hB:B<w.heap.size→g.ow B≠.tok i) :
  iU (S.cx g w) ⟨w'.heap,g',N',T'⟩ i where
 κ:=t.κ i hi
 cp:=t.cp i hi
 tok:=fun k hk=>by
  have j9:look i S.bg=some k:=by rw[←t.T i hj];exact hk
  refine⟨k,j9,Nat.le_refl _,fun _=>⟨t.τ i hj,fun b hb=>?_⟩⟩;obtain⟨h1,h2,h3⟩:=hR.bg i k b j9 hb;have cg:b≠B:=fun e=>hB (e ▸ h3) (by rw[←e];exact h1)
  refine⟨t.m b cg,fun c e hc=>⟨c,?_,rfl⟩⟩;show w'.heap[b]?=_;rw[t.heap b cg h3];exact hc
theorem Touch.same(t:Touch E g S w g' T' N' w' B dk dt)(hR:R E g S a w):QX E g' N' w' where
 os:=t.os.trans hR.same.os
 tape:=t.tape.trans hR.same.tape
 output:=t.output.trans hR.same.output
 size:=Nat.le_trans hR.same.size t.size
 eN:=Nat.le_trans hR.same.eN t.eN
 γ:=fun i hi=>(t.γ i (Nat.lt_of_lt_of_le hi hR.same.eN)).trans (hR.same.γ i hi)
 γnew:=fun i h1 h2=>by
  by_cases h:i<S.aF.length
  ·rw[t.γ i h];exact hR.same.γnew i h1 h
  ·exact t.γnew i (by omega) h2
 my:=fun b hb ji vP=>by
  have cg:b≠B:=fun e=>by
   rcases t.fresh with h | ⟨i,h1,h2⟩ | h
   ·omega
   ·exact ji i h1 (e ▸ h2)
   ·exact vP (e ▸ h)
  obtain⟨h1,h2⟩:=hR.same.my b hb ji vP;exact⟨(t.heap b cg (Nat.lt_of_lt_of_le hb hR.same.size)).trans h1,(t.m b cg).trans h2⟩
 grow:=fun b hb hw=>by
  obtain⟨h1,h2⟩:=hR.same.grow b hb hw;have bA:=Nat.lt_of_lt_of_le hb hR.same.size;by_cases cg:b=B
  ·subst cg
   exact⟨fun o y ho hy=>t.jK o y (Nat.lt_of_lt_of_le ho h2) (h1 o y ho hy),Nat.le_trans h2 (t.oV bA)⟩
  ·exact⟨fun o y ho hy=>by rw[tE (t.heap b cg bA)];exact h1 o y ho hy,by rw[t.m b cg];exact h2⟩
 ib:=fun b p q hb ho=>by
  by_cases cg:b=B
  ·subst cg;exact t.ib p q hb ho
  ·rw[t.ow b cg]at ho;exact hR.same.ib b p q hb ho
 lv:=fun b i ho=>by
  by_cases cg:b=B
  ·subst cg;exact(t.lv i ho).2.2
  ·rw[t.ow b cg]at ho;exact hR.same.lv b i ho
theorem Touch.env(t:Touch E g S w g' T' N' w' B dk dt)(hR:R E g S a w)(hk:∀i,iU (S.cx g w) ⟨w'.heap,g',N',T'⟩ i∨∀s v,look s S.env=some v→v.cj i=false) :
  ∀s v,look s S.env=some v→∃x,a.tmps[s]?=some x∧aZ ⟨w'.heap,g',N',T'⟩ v x:=fun s v hs=>by
 obtain⟨x,hx,hr⟩:=hR.env s v hs;exact⟨x,hx,hr.mono t.le fun i=>(hk i).imp (fun z=>z) fun h=>h s v hs⟩
theorem Touch.obj(t:Touch E g S w g' T' N' w' B dk dt)(hR:R E g S a w){id:Nat}{cs:List V}(ho:look id S.aU=some cs)(hd:dk≠some id)
  (hB:B<w.heap.size→g.ow B≠.obj id) (hk:∀i,iU (S.cx g w) ⟨w'.heap,g',N',T'⟩ i∨∀v∈cs,v.cj i=false) :
  (cs=[]∧g'.cp id=0)∨g'.ow (g'.κ id)=.obj id∧E.w0.heap.size≤g'.κ id∧g'.m (g'.κ id)=0 ∧
  ∃c e,w'.heap[g'.κ id]?=some (.cells c e (0,0))∧g'.cp id≤c.size∧∀(j:Nat) (v:V),cs[j]?=some v→v.cI=true∧∃y,c[j]?=some y∧aZ ⟨w'.heap,g',N',T'⟩ v y:=by
 rcases hR.aU id cs ho with⟨h1,h2⟩ | ⟨h1,h2,h3,c,e,h4,fC,h5⟩
 ·exact .inl ⟨h1,(t.cp id hd).trans h2⟩
 refine .inr ?_;have bA:g.κ id<w.heap.size:=by
  rcases Nat.lt_or_ge (g.κ id) w.heap.size with h|h
  ·exact h
  ·simp[Array.getElem?_eq_none h]at h4
 have cg:g.κ id≠B:=fun e=>hB (e ▸ bA) (by rw[←e];exact h1)
 rw[t.κ id hd,t.cp id hd];refine⟨(t.ow _ cg).trans h1,h2,(t.m _ cg).trans h3,c,e,(t.heap _ cg bA).trans h4,fC,fun j v hj=>?_⟩;obtain⟨h6,y,h7,h8⟩:=h5 j v hj;exact⟨h6,y,h7,h8.mono t.le fun i=>(hk i).imp (fun z=>z) fun h=>h v (List.mem_of_getElem? hj)⟩
theorem Touch.ab6(t:Touch E g S w g' T' N' w' B dk dt)(hR:R E g S a w){i:Nat}{o:aP}(ho:S.aF[i]?=some o)
  (hB:B<w.heap.size→g.ow B≠.aF i) :
  o=.cells []∨g'.ow (g'.γ i)=.aF i∧Ef w'.heap g' N' (g'.γ i) o:=by
 rcases hR.aF.obj i o ho with h1 | ⟨h1,h2⟩
 ·exact .inl h1
 refine .inr ?_;have hi:i<S.aF.length:=by
  rcases Nat.lt_or_ge i S.aF.length with h|h
  ·exact h
  ·simp[List.getElem?_eq_none h]at ho
 rw[t.γ i hi];cases o with
 |map es =>
  obtain⟨h3,c,e,h4,h5,h6⟩:=h2;have bA:g.γ i<w.heap.size:=by
   rcases Nat.lt_or_ge (g.γ i) w.heap.size with h|h
   ·exact h
   ·simp[Array.getElem?_eq_none h]at h4
  have cg:g.γ i≠B:=fun e=>hB (e ▸ bA) (by rw[←e];exact h1)
  refine⟨(t.ow _ cg).trans h1,(t.m _ cg).trans h3,c,e,(t.heap _ cg bA).trans h4,h5,fun j v y hj hy=>?_⟩;obtain⟨h7,h8,h9,fO⟩:=h6 j v y hj hy;have le:Le ⟨w.heap,g,S.aF.length,[]⟩ ⟨w'.heap,g',N',[]⟩:=⟨t.le.size,t.le.cells,t.le.m,t.le.eN,t.le.γ⟩;exact⟨h7,h8,h9.mono le fun i=>.inr (h7 i),fO.mono le fun i=>.inr (uO (h8 i))⟩
 |cells cs =>
  obtain⟨h3,c,e,h4,h5,h6⟩:=h2;have bA:g.γ i<w.heap.size:=by
   rcases Nat.lt_or_ge (g.γ i) w.heap.size with h|h
   ·exact h
   ·simp[Array.getElem?_eq_none h]at h4
  have cg:g.γ i≠B:=fun e=>hB (e ▸ bA) (by rw[←e];exact h1)
  refine⟨(t.ow _ cg).trans h1,(t.m _ cg).trans h3,c,e,(t.heap _ cg bA).trans h4,h5,fun j v y hj hy=>?_⟩;obtain⟨h7,h8,h9⟩:=h6 j v y hj hy;have le:Le ⟨w.heap,g,S.aF.length,[]⟩ ⟨w'.heap,g',N',[]⟩:=⟨t.le.size,t.le.cells,t.le.m,t.le.eN,t.le.γ⟩;exact⟨h7,h8,h9.mono le fun i=>.inr (h8 i)⟩
theorem Touch.owns(t:Touch E g S w g' T' N' w' B dk dt)(hR:R E g S a w){i:Nat}{o:aP}(ho:S.aF[i]?=some o)
  (hB:B<w.heap.size→g.ow B≠.aF i∧∀j,g.ow B≠.cell (g.γ i) j):AA w'.heap g' (g'.γ i) o:=by
 have h3:=hR.aF.own i o ho;rcases hR.aF.obj i o ho with h1 | ⟨h1,h2⟩
 ·subst h1;exact fun j n es y hj=>by simp at hj
 have hi:i<S.aF.length:=by
  rcases Nat.lt_or_ge i S.aF.length with h|h
  ·exact h
  ·simp[List.getElem?_eq_none h]at ho
 rw[t.γ i hi];cases o with
 |map es=>trivial
 |cells cs =>
  obtain⟨_,c,e,h4,_⟩:=h2;have bA:g.γ i<w.heap.size:=by
   rcases Nat.lt_or_ge (g.γ i) w.heap.size with h|h
   ·exact h
   ·simp[Array.getElem?_eq_none h]at h4
  have cg:g.γ i≠B:=fun e=>(hB (e ▸ bA)).1 (by rw[←e];exact h1)
  intro j n es y hj hy;rw[tE (t.heap _ cg bA)]at hy;rcases h3 j n es y hj hy with h | ⟨q,cap,c',e',q1,q2,q3,q4,q5,q6⟩
  ·exact .inl h
  ·have mz:q<w.heap.size:=by
    rcases Nat.lt_or_ge q w.heap.size with h|h
    ·exact h
    ·simp[Array.getElem?_eq_none h]at q4
   have KP:q≠B:=fun e=>(hB (e ▸ mz)).2 j (by rw[←e];exact q2)
   exact .inr ⟨q,cap,c',e',q1,(t.ow q KP).trans q2,(t.m q KP).trans q3,(t.heap q KP mz).trans q4,q5,q6⟩
theorem Touch.tok(t:Touch E g S w g' T' N' w' B dk dt)(hR:R E g S a w){f k b:Nat}(hf:look f T'=some k)(hb:g'.τ f=some b)(hd:dt≠some f)
  (hB:B<w.heap.size→g.ow B≠.tok f):g'.ow b=.tok f∧(E.w0.heap.size≤b∨E.own b)∧b<w'.heap.size:=by
 rw[t.T f hd]at hf;rw[t.τ f hd]at hb;obtain⟨h1,h2,h3⟩:=hR.bg f k b hf hb;have cg:b≠B:=fun e=>hB (e ▸ h3) (by rw[←e];exact h1)
 exact⟨(t.ow b cg).trans h1,h2,Nat.lt_of_lt_of_le h3 t.size⟩
end
end Go.Vm
