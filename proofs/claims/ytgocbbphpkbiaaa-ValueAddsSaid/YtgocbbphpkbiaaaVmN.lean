/-
  The value machine, 23: readings of plain types.
-/
import Derived.Test.YtgocbbphpkbiaaaVmL
import Derived.Test.YtgocbbphpkbiaaaVmM
namespace Go.Vm
open Go.ChangeShapes

theorem tyv_int {H : Type} {P : Program} {d : Nat} {t : TypeId} {k : IntKind} {vs : List V} {x : DataW H} (ht : P.underlying t = some (.int k)) (h : TyV P d t vs x) :
    ∃ n, vs = [.int k n] ∧ (Lit.int k n).wf = true := by
  cases d with
  | zero => exact h.elim
  | succ d =>
    simp only [TyV, ht] at h
    obtain ⟨n, h1, h2, _⟩ := h
    exact ⟨n, h1, h2⟩

theorem tyv_bool {H : Type} {P : Program} {d : Nat} {t : TypeId} {vs : List V} {x : DataW H} (ht : P.underlying t = some .bool) (h : TyV P d t vs x) : ∃ b, vs = [.bool b] := by
  cases d with
  | zero => exact h.elim
  | succ d =>
    simp only [TyV, ht] at h
    obtain ⟨b, h1, _⟩ := h
    exact ⟨b, h1⟩

theorem tyv_str {H : Type} {P : Program} {d : Nat} {t : TypeId} {vs : List V} {x : DataW H} (ht : P.underlying t = some .string) (h : TyV P d t vs x) : ∃ s, vs = [.str s] := by
  cases d with
  | zero => exact h.elim
  | succ d =>
    simp only [TyV, ht] at h
    obtain ⟨b, h1, _⟩ := h
    exact ⟨b, h1⟩

/-- A slice, of elements that each have a form. -/
theorem tyv_slice {H : Type} {P : Program} {d : Nat} {t e : TypeId} {α : Type} (row : α → List V) (I : α → Prop) {vs : List V} {x : DataW H} (ht : P.underlying t = some (.slice e))
    (he : ∀ (d : Nat) (vs : List V) (x : DataW H), TyV P d e vs x → ∃ a, vs = row a ∧ I a) (h : TyV P d t vs x) : ∃ l : List α, vs = [.slice none (P.cellsOf e) (l.map row)] ∧ ∀ a ∈ l, I a := by
  cases d with
  | zero => exact h.elim
  | succ d =>
    simp only [TyV, ht] at h
    obtain ⟨es, xs, rfl, _, hlen, hq⟩ := h
    suffices hs : ∀ (es : List (List V)) (xs : List (DataW H)), es.length = xs.length → (∀ (i : Nat) row y, es[i]? = some row → xs[i]? = some y → TyV P d e row y) → ∃ l : List α, es = l.map row ∧ ∀ a ∈ l, I a by
      obtain ⟨l, rfl, hl⟩ := hs es xs hlen (fun i r y h1 h2 => (hq i r y h1 h2).2)
      exact ⟨l, rfl, hl⟩
    intro es
    induction es with
    | nil => intro xs _ _; exact ⟨[], rfl, by simp⟩
    | cons r es ih =>
      intro xs hl hr
      cases xs with
      | nil => simp at hl
      | cons y xs =>
        obtain ⟨a, rfl, ha⟩ := he d r y (hr 0 r y rfl rfl)
        obtain ⟨l, rfl, hI⟩ := ih xs (by simpa using hl) (fun i r y h1 h2 => hr (i + 1) r y (by simpa using h1) (by simpa using h2))
        exact ⟨a :: l, rfl, by simpa using ⟨ha, hI⟩⟩

abbrev okI (k : IntKind) (n : Int) : Prop := (Lit.int k n).wf = true
theorem okI_u16 {n : Int} (h : okI .u16 n) : 0 ≤ n ∧ n ≤ 65535 := by
  simp [okI, Lit.wf, IntKind.min, IntKind.max, IntKind.signed, IntKind.bits] at h
  omega
theorem okI_u8 {n : Int} (h : okI .u8 n) : 0 ≤ n ∧ n ≤ 255 := by
  simp [okI, Lit.wf, IntKind.min, IntKind.max, IntKind.signed, IntKind.bits] at h
  omega
theorem okI_i64 {n : Int} (h : okI .i64 n) : -9223372036854775808 ≤ n ∧ n ≤ 9223372036854775807 := by
  simp [okI, Lit.wf, IntKind.min, IntKind.max, IntKind.signed, IntKind.bits] at h
  omega

theorem tyv_ints {H : Type} {P : Program} {d : Nat} {t e : TypeId} {vs : List V} {x : DataW H} (ht : P.underlying t = some (.slice e)) (he : P.underlying e = some (.int .i64)) (hc : P.cellsOf e = 1) (h : TyV P d t vs x) :
    ∃ l : List Int, vs = [.slice none 1 (l.map fun n => [.int .i64 n])] ∧ ∀ n ∈ l, okI .i64 n := by
  have := tyv_slice (fun n : Int => [V.int .i64 n]) (fun n => okI .i64 n) ht (fun d vs x h => tyv_int he h) h
  rwa [hc] at this

theorem argOf_one {P : Program} {t : TypeId} {v : V} (h : ∀ fs, P.underlying t ≠ some (.struct fs)) : argOf P t [v] = v := by
  unfold argOf
  split
  · rename_i fs hf; exact absurd hf (h fs)
  · rfl
theorem argsV_cons {H : Type} {P : Program} {d : Nat} {t : TypeId} {ts : List TypeId} : ∀ {us : List V} {xs : List (DataW H)}, ArgsV P d (t :: ts) us xs →
    ∃ vs x us' xs', us = argOf P t vs :: us' ∧ xs = x :: xs' ∧ TyV P d t vs x ∧ ArgsV P d ts us' xs'
  | [], _, h => h.elim
  | _ :: _, [], h => h.elim
  | u :: us, x :: xs, h => by
    obtain ⟨⟨vs, rfl, h1⟩, h2⟩ := h
    exact ⟨vs, x, us, xs, rfl, rfl, h1, h2⟩
theorem argsV_nil {H : Type} {P : Program} {d : Nat} : ∀ {us : List V} {xs : List (DataW H)}, ArgsV P d [] us xs → us = []
  | [], _, _ => rfl
  | _ :: _, [], h => h.elim
  | _ :: _, _ :: _, h => h.elim
theorem tys {P : Program} {d : Nat} {ts : List TypeId} (h : (ts.all fun t => plainTy P d t && P.readableRec t && Nat.blt t P.types.size) = true) : ∀ t ∈ ts, plainTy P d t = true ∧ P.readableRec t = true ∧ t < P.types.size := fun t ht => by
  have h1 := List.all_eq_true.1 h t ht
  simp only [Bool.and_eq_true] at h1
  exact ⟨h1.1.1, h1.1.2, by simpa using h1.2⟩
end Go.Vm
