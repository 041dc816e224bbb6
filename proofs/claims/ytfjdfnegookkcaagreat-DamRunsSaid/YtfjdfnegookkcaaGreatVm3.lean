/- The value machine, 3: steps of the relation. -/
import Derived.Test.YtfjdfnegookkcaaGreatVm2
namespace Go.Vm
set_option linter.all false
theorem look_cons {α:Type} (s k:Nat) (v:α) (r:List (Nat × α)):look s ((k,v) :: r) = if k = s then some v else look s r:=by
 simp only [look]
 by_cases h:k = s
 ·subst h;simp
 ·rw [beq_eq_false_iff_ne.2 h,if_neg h];rfl
theorem put_some (S:St) (d:Nat) (v:V):S.put (some d) v = { S with env:=(d,v) :: S.env }:=rfl
theorem put_none (S:St) (v:V):S.put none v = S:=rfl
theorem tmps_put {a:Act} {d s:Nat} {x y:Value} (hd:d < a.tmps.size):(a.put (some d) x).tmps[s]? = some y ↔ (if d = s then y = x else a.tmps[s]? = some y):=by
 simp only [Act.put,Array.getElem?_setIfInBounds]
 by_cases h:d = s
 ·subst h;simp [hd,eq_comm]
 ·simp [h]
theorem R.put {E:Entry} {g:Gh} {S:St} {a:Act} {w:World} (hR:R E g S a w) {dst:Option Nat} {v:V} {x:Value}
  (hd:∀ d,dst = some d → d < E.nt) (hx:XRel (S.cx g w) v x):R E g (S.put dst v) (a.put dst x) w:=by
 cases dst with
 | none => exact hR
 | some d =>
   have hlt:d < a.tmps.size:=by rw [hR.tsz];exact hd d rfl
   refine ⟨fun s u hs => ?_,hR.objs,hR.toks,hR.glob,hR.defers,by simp [Act.put,hR.tsz],hR.same⟩
   rw [put_some,look_cons] at hs
   by_cases h:d = s
   ·subst h
    rw [if_pos rfl] at hs
    cases hs
    exact ⟨x,(tmps_put hlt).2 (by simp),hx⟩
   ·rw [if_neg h] at hs
    obtain ⟨y,hy,hr⟩:=hR.env s u hs
    exact ⟨y,(tmps_put hlt).2 (by simp [h,hy]),hr⟩
structure St.noMen (S:St) (d:Nat):Prop where
 env:∀ s v,look s S.env = some v → v.men d = false
 objs:∀ id cs,look id S.objs = some cs → ∀ v ∈ cs,v.men0 d = false
 obj:look d S.objs = none
 tok:look d S.toks = none
structure Touch (E:Entry) (g:Gh) (S:St) (w:World) (g':Gh) (T':List (Nat × Nat)) (N':Nat) (w':World) (B:Nat) (dk dt:Option Nat):Prop where
 os:w'.os = w.os
 tape:w'.tape = w.tape
 output:w'.output = w.output
 size:w.heap.size ≤ w'.heap.size
 heap:∀ b,b ≠ B → b < w.heap.size → w'.heap[b]? = w.heap[b]?
 m:∀ b,b ≠ B → g'.m b = g.m b
 ow:∀ b,b ≠ B → g'.ow b = g.ow b
 κ:∀ i,dk ≠ some i → g'.κ i = g.κ i
 cp:∀ i,dk ≠ some i → g'.cp i = g.cp i
 τ:∀ i,dt ≠ some i → g'.τ i = g.τ i
 T:∀ i,dt ≠ some i → look i T' = look i S.toks
 γ:∀ i,i < S.glob.length → g'.γ i = g.γ i
 nle:S.glob.length ≤ N'
 γnew:∀ i,S.glob.length ≤ i → i < N' → E.w0.heap.size ≤ g'.γ i
 fresh:E.w0.heap.size ≤ B ∨ (∃ i,i < E.N0 ∧ E.g0.γ i = B) ∨ E.own B
 cold:∀ p q,B < E.w0.heap.size → g'.ow B = .cell p q → E.own B
 imm:∀ o y,o < g.m B → cellAt w.heap B o = some y → cellAt w'.heap B o = some y
 mle:B < w.heap.size → g.m B ≤ g'.m B
section
variable {E:Entry} {g g':Gh} {S:St} {a:Act} {w w':World} {T':List (Nat × Nat)} {N' B:Nat} {dk dt:Option Nat}
theorem Touch.le (t:Touch E g S w g' T' N' w' B dk dt):Le (S.cx g w) ⟨w'.heap,g',N',T'⟩ where
 size:=t.size
 cells:=fun b o y ho hy => by
  by_cases h:b = B
  ·subst h;exact t.imm o y ho hy
  ·show cellAt w'.heap b o = some y
   rw [cellAt_same (t.heap b h (cellAt_lt hy))];exact hy
 m:=fun b hb => by
  by_cases h:b = B
  ·subst h;exact t.mle hb
  ·exact Nat.le_of_eq (t.m b h).symm
 nle:=t.nle
 γ:=t.γ
theorem Touch.keeps (t:Touch E g S w g' T' N' w' B dk dt) (hR:R E g S a w) {i:Nat} (hi:dk ≠ some i) (hj:dt ≠ some i) (hB:B < w.heap.size → g.ow B ≠ .tok i) :
  Keeps (S.cx g w) ⟨w'.heap,g',N',T'⟩ i where
 κ:=t.κ i hi
 cp:=t.cp i hi
 tok:=fun k hk => by
  have hk':look i S.toks = some k:=by rw [← t.T i hj];exact hk
  refine ⟨k,hk',Nat.le_refl _,fun _ => ⟨t.τ i hj,fun b hb => ?_⟩⟩
  obtain ⟨h1,h2,h3⟩:=hR.toks i k b hk' hb
  have hne:b ≠ B:=fun e => hB (e ▸ h3) (by rw [← e];exact h1)
  refine ⟨t.m b hne,fun c e hc => ⟨c,?_,rfl⟩⟩
  show w'.heap[b]? = _
  rw [t.heap b hne h3];exact hc
theorem Touch.same (t:Touch E g S w g' T' N' w' B dk dt) (hR:R E g S a w):Same E g' N' w' where
 os:=t.os.trans hR.same.os
 tape:=t.tape.trans hR.same.tape
 output:=t.output.trans hR.same.output
 size:=Nat.le_trans hR.same.size t.size
 nle:=Nat.le_trans hR.same.nle t.nle
 γ:=fun i hi => (t.γ i (Nat.lt_of_lt_of_le hi hR.same.nle)).trans (hR.same.γ i hi)
 γnew:=fun i h1 h2 => by
  by_cases h:i < S.glob.length
  ·rw [t.γ i h];exact hR.same.γnew i h1 h
  ·exact t.γnew i (by omega) h2
 old:=fun b hb hno hnw => by
  have hne:b ≠ B:=fun e => by
   rcases t.fresh with h | ⟨i,h1,h2⟩ | h
   ·omega
   ·exact hno i h1 (e ▸ h2)
   ·exact hnw (e ▸ h)
  obtain ⟨h1,h2⟩:=hR.same.old b hb hno hnw
  exact ⟨(t.heap b hne (Nat.lt_of_lt_of_le hb hR.same.size)).trans h1,(t.m b hne).trans h2⟩
 grow:=fun b hb hw => by
  obtain ⟨h1,h2⟩:=hR.same.grow b hb hw
  have hlt:=Nat.lt_of_lt_of_le hb hR.same.size
  by_cases hne:b = B
  ·subst hne
   exact ⟨fun o y ho hy => t.imm o y (Nat.lt_of_lt_of_le ho h2) (h1 o y ho hy),Nat.le_trans h2 (t.mle hlt)⟩
  ·exact ⟨fun o y ho hy => by rw [cellAt_same (t.heap b hne hlt)];exact h1 o y ho hy,by rw [t.m b hne];exact h2⟩
 cold:=fun b p q hb ho => by
  by_cases hne:b = B
  ·subst hne;exact t.cold p q hb ho
  ·rw [t.ow b hne] at ho;exact hR.same.cold b p q hb ho
theorem Touch.env (t:Touch E g S w g' T' N' w' B dk dt) (hR:R E g S a w) (hk:∀ i,Keeps (S.cx g w) ⟨w'.heap,g',N',T'⟩ i ∨ ∀ s v,look s S.env = some v → v.men i = false) :
  ∀ s v,look s S.env = some v → ∃ x,a.tmps[s]? = some x ∧ XRel ⟨w'.heap,g',N',T'⟩ v x:=fun s v hs => by
 obtain ⟨x,hx,hr⟩:=hR.env s v hs
 exact ⟨x,hx,hr.mono t.le fun i => (hk i).imp (fun z => z) fun h => h s v hs⟩
theorem Touch.obj (t:Touch E g S w g' T' N' w' B dk dt) (hR:R E g S a w) {id:Nat} {cs:List V} (ho:look id S.objs = some cs) (hd:dk ≠ some id)
  (hB:B < w.heap.size → g.ow B ≠ .obj id) (hk:∀ i,Keeps (S.cx g w) ⟨w'.heap,g',N',T'⟩ i ∨ ∀ v ∈ cs,v.men i = false) :
  g'.ow (g'.κ id) = .obj id ∧ E.w0.heap.size ≤ g'.κ id ∧ g'.m (g'.κ id) = 0 ∧
  ∃ c e,w'.heap[g'.κ id]? = some (.cells c e (0,0)) ∧ g'.cp id ≤ c.size ∧ ∀ (j:Nat) (v:V),cs[j]? = some v → v.isCell = true ∧ ∃ y,c[j]? = some y ∧ XRel ⟨w'.heap,g',N',T'⟩ v y:=by
 obtain ⟨h1,h2,h3,c,e,h4,hcp,h5⟩:=hR.objs id cs ho
 have hlt:g.κ id < w.heap.size:=by
  rcases Nat.lt_or_ge (g.κ id) w.heap.size with h | h
  ·exact h
  ·simp [Array.getElem?_eq_none h] at h4
 have hne:g.κ id ≠ B:=fun e => hB (e ▸ hlt) (by rw [← e];exact h1)
 rw [t.κ id hd,t.cp id hd]
 refine ⟨(t.ow _ hne).trans h1,h2,(t.m _ hne).trans h3,c,e,(t.heap _ hne hlt).trans h4,hcp,fun j v hj => ?_⟩
 obtain ⟨h6,y,h7,h8⟩:=h5 j v hj
 exact ⟨h6,y,h7,h8.mono t.le fun i => (hk i).imp (fun z => z) fun h => h v (List.mem_of_getElem? hj)⟩
theorem Touch.globObj (t:Touch E g S w g' T' N' w' B dk dt) (hR:R E g S a w) {i:Nat} {o:GObj} (ho:S.glob[i]? = some o)
  (hB:B < w.heap.size → g.ow B ≠ .glob i) :
  g'.ow (g'.γ i) = .glob i ∧ GObjRel w'.heap g' N' (g'.γ i) o:=by
 obtain ⟨h1,h2⟩:=hR.glob i o ho
 have hi:i < S.glob.length:=by
  rcases Nat.lt_or_ge i S.glob.length with h | h
  ·exact h
  ·simp [List.getElem?_eq_none h] at ho
 rw [t.γ i hi]
 cases o with
 | map es =>
   obtain ⟨h3,c,e,h4,h5,h6⟩:=h2
   have hlt:g.γ i < w.heap.size:=by
    rcases Nat.lt_or_ge (g.γ i) w.heap.size with h | h
    ·exact h
    ·simp [Array.getElem?_eq_none h] at h4
   have hne:g.γ i ≠ B:=fun e => hB (e ▸ hlt) (by rw [← e];exact h1)
   refine ⟨(t.ow _ hne).trans h1,(t.m _ hne).trans h3,c,e,(t.heap _ hne hlt).trans h4,h5,fun j v y hj hy => ?_⟩
   obtain ⟨h7,h8,h9,h10⟩:=h6 j v y hj hy
   have le:Le ⟨w.heap,g,S.glob.length,[]⟩ ⟨w'.heap,g',N',[]⟩:=⟨t.le.size,t.le.cells,t.le.m,t.le.nle,t.le.γ⟩
   exact ⟨h7,h8,h9.mono le fun i => .inr (h7 i),h10.mono le fun i => .inr (men_of_men1 (h8 i))⟩
 | cells cs =>
   obtain ⟨h3,c,e,h4,h5,h6⟩:=h2
   have hlt:g.γ i < w.heap.size:=by
    rcases Nat.lt_or_ge (g.γ i) w.heap.size with h | h
    ·exact h
    ·simp [Array.getElem?_eq_none h] at h4
   have hne:g.γ i ≠ B:=fun e => hB (e ▸ hlt) (by rw [← e];exact h1)
   refine ⟨(t.ow _ hne).trans h1,(t.m _ hne).trans h3,c,e,(t.heap _ hne hlt).trans h4,h5,fun j v y hj hy => ?_⟩
   obtain ⟨h7,h8,h9⟩:=h6 j v y hj hy
   have le:Le ⟨w.heap,g,S.glob.length,[]⟩ ⟨w'.heap,g',N',[]⟩:=⟨t.le.size,t.le.cells,t.le.m,t.le.nle,t.le.γ⟩
   exact ⟨h7,h8,h9.mono le fun i => .inr (h8 i)⟩
theorem Touch.owns (t:Touch E g S w g' T' N' w' B dk dt) (hR:R E g S a w) {i:Nat} {o:GObj} (ho:S.glob[i]? = some o)
  (hB:B < w.heap.size → g.ow B ≠ .glob i ∧ ∀ j,g.ow B ≠ .cell (g.γ i) j):Owns w'.heap g' (g'.γ i) o:=by
 obtain ⟨h1,h2⟩:=hR.glob i o ho
 have h3:=hR.glob.own i o ho
 have hi:i < S.glob.length:=by
  rcases Nat.lt_or_ge i S.glob.length with h | h
  ·exact h
  ·simp [List.getElem?_eq_none h] at ho
 rw [t.γ i hi]
 cases o with
 | map es => trivial
 | cells cs =>
   obtain ⟨_,c,e,h4,_⟩:=h2
   have hlt:g.γ i < w.heap.size:=by
    rcases Nat.lt_or_ge (g.γ i) w.heap.size with h | h
    ·exact h
    ·simp [Array.getElem?_eq_none h] at h4
   have hne:g.γ i ≠ B:=fun e => (hB (e ▸ hlt)).1 (by rw [← e];exact h1)
   intro j n es y hj hy
   rw [cellAt_same (t.heap _ hne hlt)] at hy
   rcases h3 j n es y hj hy with h | ⟨q,cap,c',e',q1,q2,q3,q4,q5,q6⟩
   ·exact .inl h
   ·have hql:q < w.heap.size:=by
     rcases Nat.lt_or_ge q w.heap.size with h | h
     ·exact h
     ·simp [Array.getElem?_eq_none h] at q4
    have hqne:q ≠ B:=fun e => (hB (e ▸ hql)).2 j (by rw [← e];exact q2)
    exact .inr ⟨q,cap,c',e',q1,(t.ow q hqne).trans q2,(t.m q hqne).trans q3,(t.heap q hqne hql).trans q4,q5,q6⟩
theorem Touch.tok (t:Touch E g S w g' T' N' w' B dk dt) (hR:R E g S a w) {f k b:Nat} (hf:look f T' = some k) (hb:g'.τ f = some b) (hd:dt ≠ some f)
  (hB:B < w.heap.size → g.ow B ≠ .tok f):g'.ow b = .tok f ∧ (E.w0.heap.size ≤ b ∨ E.own b) ∧ b < w'.heap.size:=by
 rw [t.T f hd] at hf
 rw [t.τ f hd] at hb
 obtain ⟨h1,h2,h3⟩:=hR.toks f k b hf hb
 have hne:b ≠ B:=fun e => hB (e ▸ h3) (by rw [← e];exact h1)
 exact ⟨(t.ow b hne).trans h1,h2,Nat.lt_of_lt_of_le h3 t.size⟩
end
end Go.Vm
