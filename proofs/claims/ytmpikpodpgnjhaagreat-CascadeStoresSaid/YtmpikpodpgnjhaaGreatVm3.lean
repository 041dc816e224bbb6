/- The value machine, 3: steps of the relation. -/
import Derived.Test.YtmpikpodpgnjhaaGreatVm2
namespace Go.Vm
set_option linter.all false
theorem dF{α:Type}(s k:Nat)(v:α)(r:List (Nat×α)):look s ((k,v)::r)=if k=s then some v else look s r:=by
 simp only[look];by_cases h:k=s
 ·subst h;simp
 ·rw[beq_eq_false_iff_ne.2 h,if_neg h];rfl
theorem z6(S:St)(d:Nat)(v:V):S.put (some d) v={ S with env:=(d,v)::S.env }:=rfl
theorem ako(S:St)(v:V):S.put none v=S:=rfl
theorem NR{a:Act}{d s:Nat}{x y:Value}(hd:d<a.tmps.size):(a.put (some d) x).tmps[s]?=some y↔(if d=s then y=x else a.tmps[s]?=some y):=by
 simp only[Act.put,Array.getElem?_setIfInBounds];by_cases h:d=s
 ·subst h;simp[hd,eq_comm]
 ·simp[h]
theorem R.put{E:Entry}{g:Gh}{S:St}{a:Act}{w:World}(hR:R E g S a w){dst:Option Nat}{v:V}{x:Value}
  (hd:∀d,dst=some d→d<E.nt) (hx:aY (S.cx g w) v x):R E g (S.put dst v) (a.put dst x) w:=by
 cases dst with
 |none=>exact hR
 |some d =>
  have br:d<a.tmps.size:=by rw[hR.jb];exact hd d rfl
  refine⟨fun s u hs=>?_,hR.aV,hR.a7,hR.ay,hR.defers,by simp[Act.put,hR.jb],hR.same⟩
  rw[z6,dF]at hs;by_cases h:d=s
  ·subst h
   rw[if_pos rfl]at hs;cases hs;exact⟨x,(NR br).2 (by simp),hx⟩
  ·rw[if_neg h]at hs
   obtain⟨y,hy,hr⟩:=hR.env s u hs;exact⟨y,(NR br).2 (by simp[h,hy]),hr⟩
structure St.ez(S:St)(d:Nat):Prop where
 env:∀s v,look s S.env=some v→v.ca d=false
 aV:∀id cs,look id S.aV=some cs→∀v∈cs,v.cj d=false
 obj:look d S.aV=none
 tok:look d S.a7=none
structure Touch(E:Entry)(g:Gh)(S:St)(w:World)(g':Gh)(T':List (Nat×Nat))(N':Nat)(w':World)(B:Nat)(dk dt:Option Nat):Prop where
 os:w'.os=w.os
 tape:w'.tape=w.tape
 output:w'.output=w.output
 size:w.heap.size≤w'.heap.size
 heap:∀b,b≠B→b<w.heap.size→w'.heap[b]?=w.heap[b]?
 m:∀b,b≠B→g'.m b=g.m b
 ow:∀b,b≠B→g'.ow b=g.ow b
 κ:∀i,dk≠some i→g'.κ i=g.κ i
 cp:∀i,dk≠some i→g'.cp i=g.cp i
 τ:∀i,dt≠some i→g'.τ i=g.τ i
 T:∀i,dt≠some i→look i T'=look i S.a7
 γ:∀i,i<S.ay.length→g'.γ i=g.γ i
 eG:S.ay.length≤N'
 γnew:∀i,S.ay.length≤i→i<N'→E.w0.heap.size≤g'.γ i
 fresh:E.w0.heap.size≤B∨(∃i,i<E.N0∧E.g0.ow B=.ay i)∨E.own B
 gN:∀p q,B<E.w0.heap.size→g'.ow B=.cell p q→E.own B
 lv:∀i,g'.ow B=.ay i→g'.m B=0∧i<N'∧(B<E.w0.heap.size→E.g0.ow B=.ay i∧i<E.N0)
 jQ:∀o y,o<g.m B→cellAt w.heap B o=some y→cellAt w'.heap B o=some y
 nZ:B<w.heap.size→g.m B≤g'.m B
theorem R.z7{E:Entry}{g:Gh}{S:St}{a:Act}{w:World}{N':Nat}(hR:R E g S a w){b i:Nat}(ho:g.ow b=.ay i)(hN:S.ay.length≤N'):g.m b=0∧i<N'∧(b<E.w0.heap.size→E.g0.ow b=.ay i∧i<E.N0) :=
 ⟨(hR.ay.z b i ho).1,Nat.lt_of_lt_of_le (hR.ay.z b i ho).2 hN,hR.same.lv b i ho⟩
section
variable {E:Entry} {g g':Gh} {S:St} {a:Act} {w w':World} {T':List (Nat×Nat)} {N' B:Nat} {dk dt:Option Nat}
theorem Touch.le(t:Touch E g S w g' T' N' w' B dk dt):Le (S.cx g w) ⟨w'.heap,g',N',T'⟩ where
 size:=t.size
 cells:=fun b o y ho hy=>by
  by_cases h:b=B
  ·subst h;exact t.jQ o y ho hy
  ·show cellAt w'.heap b o=some y
   rw[sf (t.heap b h (zZ hy))];exact hy
 m:=fun b hb=>by
  by_cases h:b=B
  ·subst h;exact t.nZ hb
  ·exact Nat.le_of_eq (t.m b h).symm
 eG:=t.eG
 γ:=t.γ
theorem Touch.keeps(t:Touch E g S w g' T' N' w' B dk dt)(hR:R E g S a w){i:Nat}(hi:dk≠some i)(hj:dt≠some i)(hB:B<w.heap.size→g.ow B≠.tok i) :
  il (S.cx g w) ⟨w'.heap,g',N',T'⟩ i where
 κ:=t.κ i hi
 cp:=t.cp i hi
 tok:=fun k hk=>by
  have jq:look i S.a7=some k:=by rw[←t.T i hj];exact hk
  refine⟨k,jq,Nat.le_refl _,fun _=>⟨t.τ i hj,fun b hb=>?_⟩⟩;obtain⟨h1,h2,h3⟩:=hR.a7 i k b jq hb;have ch:b≠B:=fun e=>hB (e ▸ h3) (by rw[←e];exact h1)
  refine⟨t.m b ch,fun c e hc=>⟨c,?_,rfl⟩⟩;show w'.heap[b]?=_;rw[t.heap b ch h3];exact hc
theorem Touch.same(t:Touch E g S w g' T' N' w' B dk dt)(hR:R E g S a w):NQ E g' N' w' where
 os:=t.os.trans hR.same.os
 tape:=t.tape.trans hR.same.tape
 output:=t.output.trans hR.same.output
 size:=Nat.le_trans hR.same.size t.size
 eG:=Nat.le_trans hR.same.eG t.eG
 γ:=fun i hi=>(t.γ i (Nat.lt_of_lt_of_le hi hR.same.eG)).trans (hR.same.γ i hi)
 γnew:=fun i h1 h2=>by
  by_cases h:i<S.ay.length
  ·rw[t.γ i h];exact hR.same.γnew i h1 h
  ·exact t.γnew i (by omega) h2
 kW:=fun b hb gO uG=>by
  have ch:b≠B:=fun e=>by
   rcases t.fresh with h | ⟨i,h1,h2⟩ | h
   ·omega
   ·exact gO i h1 (e ▸ h2)
   ·exact uG (e ▸ h)
  obtain⟨h1,h2⟩:=hR.same.kW b hb gO uG;exact⟨(t.heap b ch (Nat.lt_of_lt_of_le hb hR.same.size)).trans h1,(t.m b ch).trans h2⟩
 grow:=fun b hb hw=>by
  obtain⟨h1,h2⟩:=hR.same.grow b hb hw;have br:=Nat.lt_of_lt_of_le hb hR.same.size;by_cases ch:b=B
  ·subst ch
   exact⟨fun o y ho hy=>t.jQ o y (Nat.lt_of_lt_of_le ho h2) (h1 o y ho hy),Nat.le_trans h2 (t.nZ br)⟩
  ·exact⟨fun o y ho hy=>by rw[sf (t.heap b ch br)];exact h1 o y ho hy,by rw[t.m b ch];exact h2⟩
 gN:=fun b p q hb ho=>by
  by_cases ch:b=B
  ·subst ch;exact t.gN p q hb ho
  ·rw[t.ow b ch]at ho;exact hR.same.gN b p q hb ho
 lv:=fun b i ho=>by
  by_cases ch:b=B
  ·subst ch;exact(t.lv i ho).2.2
  ·rw[t.ow b ch]at ho;exact hR.same.lv b i ho
theorem Touch.env(t:Touch E g S w g' T' N' w' B dk dt)(hR:R E g S a w)(hk:∀i,il (S.cx g w) ⟨w'.heap,g',N',T'⟩ i∨∀s v,look s S.env=some v→v.ca i=false) :
  ∀s v,look s S.env=some v→∃x,a.tmps[s]?=some x∧aY ⟨w'.heap,g',N',T'⟩ v x:=fun s v hs=>by
 obtain⟨x,hx,hr⟩:=hR.env s v hs;exact⟨x,hx,hr.mono t.le fun i=>(hk i).imp (fun z=>z) fun h=>h s v hs⟩
theorem Touch.obj(t:Touch E g S w g' T' N' w' B dk dt)(hR:R E g S a w){id:Nat}{cs:List V}(ho:look id S.aV=some cs)(hd:dk≠some id)
  (hB:B<w.heap.size→g.ow B≠.obj id) (hk:∀i,il (S.cx g w) ⟨w'.heap,g',N',T'⟩ i∨∀v∈cs,v.ca i=false) :
  (cs=[]∧g'.cp id=0)∨g'.ow (g'.κ id)=.obj id∧E.w0.heap.size≤g'.κ id∧g'.m (g'.κ id)=0 ∧
  ∃c e,w'.heap[g'.κ id]?=some (.cells c e (0,0))∧g'.cp id≤c.size∧∀(j:Nat) (v:V),cs[j]?=some v→v.cz=true∧∃y,c[j]?=some y∧aY ⟨w'.heap,g',N',T'⟩ v y:=by
 rcases hR.aV id cs ho with⟨h1,h2⟩ | ⟨h1,h2,h3,c,e,h4,eT,h5⟩
 ·exact .inl ⟨h1,(t.cp id hd).trans h2⟩
 refine .inr ?_;have br:g.κ id<w.heap.size:=by
  rcases Nat.lt_or_ge (g.κ id) w.heap.size with h|h
  ·exact h
  ·simp[Array.getElem?_eq_none h]at h4
 have ch:g.κ id≠B:=fun e=>hB (e ▸ br) (by rw[←e];exact h1)
 rw[t.κ id hd,t.cp id hd];refine⟨(t.ow _ ch).trans h1,h2,(t.m _ ch).trans h3,c,e,(t.heap _ ch br).trans h4,eT,fun j v hj=>?_⟩;obtain⟨h6,y,h7,h8⟩:=h5 j v hj;exact⟨h6,y,h7,h8.mono t.le fun i=>(hk i).imp (fun z=>z) fun h=>h v (List.mem_of_getElem? hj)⟩
theorem Touch.X3(t:Touch E g S w g' T' N' w' B dk dt)(hR:R E g S a w){i:Nat}{o:aP}(ho:S.ay[i]?=some o)
  (hB:B<w.heap.size→g.ow B≠.ay i) :
  o=.cells []∨g'.ow (g'.γ i)=.ay i∧BO w'.heap g' N' (g'.γ i) o:=by
 rcases hR.ay.obj i o ho with h1 | ⟨h1,h2⟩
 ·exact .inl h1
 refine .inr ?_;have hi:i<S.ay.length:=by
  rcases Nat.lt_or_ge i S.ay.length with h|h
  ·exact h
  ·simp[List.getElem?_eq_none h]at ho
 rw[t.γ i hi];cases o with
 |map es =>
  obtain⟨h3,c,e,h4,h5,h6⟩:=h2;have br:g.γ i<w.heap.size:=by
   rcases Nat.lt_or_ge (g.γ i) w.heap.size with h|h
   ·exact h
   ·simp[Array.getElem?_eq_none h]at h4
  have ch:g.γ i≠B:=fun e=>hB (e ▸ br) (by rw[←e];exact h1)
  refine⟨(t.ow _ ch).trans h1,(t.m _ ch).trans h3,c,e,(t.heap _ ch br).trans h4,h5,fun j v y hj hy=>?_⟩;obtain⟨h7,h8,h9,fx⟩:=h6 j v y hj hy;have le:Le ⟨w.heap,g,S.ay.length,[]⟩ ⟨w'.heap,g',N',[]⟩:=⟨t.le.size,t.le.cells,t.le.m,t.le.eG,t.le.γ⟩;exact⟨h7,h8,h9.mono le fun i=>.inr (h7 i),fx.mono le fun i=>.inr (tC (h8 i))⟩
 |cells cs =>
  obtain⟨h3,c,e,h4,h5,h6⟩:=h2;have br:g.γ i<w.heap.size:=by
   rcases Nat.lt_or_ge (g.γ i) w.heap.size with h|h
   ·exact h
   ·simp[Array.getElem?_eq_none h]at h4
  have ch:g.γ i≠B:=fun e=>hB (e ▸ br) (by rw[←e];exact h1)
  refine⟨(t.ow _ ch).trans h1,(t.m _ ch).trans h3,c,e,(t.heap _ ch br).trans h4,h5,fun j v y hj hy=>?_⟩;obtain⟨h7,h8,h9⟩:=h6 j v y hj hy;have le:Le ⟨w.heap,g,S.ay.length,[]⟩ ⟨w'.heap,g',N',[]⟩:=⟨t.le.size,t.le.cells,t.le.m,t.le.eG,t.le.γ⟩;exact⟨h7,h8,h9.mono le fun i=>.inr (h8 i)⟩
theorem Touch.owns(t:Touch E g S w g' T' N' w' B dk dt)(hR:R E g S a w){i:Nat}{o:aP}(ho:S.ay[i]?=some o)
  (hB:B<w.heap.size→g.ow B≠.ay i∧∀j,g.ow B≠.cell (g.γ i) j):yp w'.heap g' (g'.γ i) o:=by
 have h3:=hR.ay.own i o ho;rcases hR.ay.obj i o ho with h1 | ⟨h1,h2⟩
 ·subst h1;exact fun j n es y hj=>by simp at hj
 have hi:i<S.ay.length:=by
  rcases Nat.lt_or_ge i S.ay.length with h|h
  ·exact h
  ·simp[List.getElem?_eq_none h]at ho
 rw[t.γ i hi];cases o with
 |map es=>trivial
 |cells cs =>
  obtain⟨_,c,e,h4,_⟩:=h2;have br:g.γ i<w.heap.size:=by
   rcases Nat.lt_or_ge (g.γ i) w.heap.size with h|h
   ·exact h
   ·simp[Array.getElem?_eq_none h]at h4
  have ch:g.γ i≠B:=fun e=>(hB (e ▸ br)).1 (by rw[←e];exact h1)
  intro j n es y hj hy;rw[sf (t.heap _ ch br)]at hy;rcases h3 j n es y hj hy with h | ⟨q,cap,c',e',q1,q2,q3,q4,q5,q6⟩
  ·exact .inl h
  ·have oK:q<w.heap.size:=by
    rcases Nat.lt_or_ge q w.heap.size with h|h
    ·exact h
    ·simp[Array.getElem?_eq_none h]at q4
   have Ie:q≠B:=fun e=>(hB (e ▸ oK)).2 j (by rw[←e];exact q2)
   exact .inr ⟨q,cap,c',e',q1,(t.ow q Ie).trans q2,(t.m q Ie).trans q3,(t.heap q Ie oK).trans q4,q5,q6⟩
theorem Touch.tok(t:Touch E g S w g' T' N' w' B dk dt)(hR:R E g S a w){f k b:Nat}(hf:look f T'=some k)(hb:g'.τ f=some b)(hd:dt≠some f)
  (hB:B<w.heap.size→g.ow B≠.tok f):g'.ow b=.tok f∧(E.w0.heap.size≤b∨E.own b)∧b<w'.heap.size:=by
 rw[t.T f hd]at hf;rw[t.τ f hd]at hb;obtain⟨h1,h2,h3⟩:=hR.a7 f k b hf hb;have ch:b≠B:=fun e=>hB (e ▸ h3) (by rw[←e];exact h1)
 exact⟨(t.ow b ch).trans h1,h2,Nat.lt_of_lt_of_le h3 t.size⟩
end
end Go.Vm
