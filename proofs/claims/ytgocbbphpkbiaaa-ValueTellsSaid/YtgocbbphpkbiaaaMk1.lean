/-
  The contracts of the functions that deal choices.
-/
import Derived.Test.YtgocbbphpkbiaaaV
namespace Go.Proofs.Ytgocbbphpkbiaaa
open Go.Vm

/-- 'Mod', as the program does it. -/
def modV (n m : Int) : Int := (IntKind.i64.wrap (n.tmod m + m)).tmod m
theorem c_Mod {n m : Int} (hm : m ≠ 0) (G : List GObj) : Lim F 9 [i64 n, i64 m] G = some (i64 (modV n m), G) :=
  eq_of rfl rfl (by simp [v_mk_Mod, hm, modV])

abbrev ints (l : List Int) : V := .slice none 1 (l.map fun n => [i64 n])
/-- A deck: its numbers, and how many are dealt. -/
abbrev dk (l : List Int) (k : Nat) : GObj := .cells [ints l, i64 k]

theorem c_Next_end {n : Int} {l : List Int} {k : Nat} (h : n < 1 ∨ l.length ≤ k) : Lim F 19 [.gptr 0 0, i64 n] [dk l k] = some (i64 0, [dk l k]) :=
  eq_of rfl rfl (by
    by_cases h1 : n < 1
    · simp [v_mk_Deck_Next, h1]
    · have h2 : l.length ≤ k := h.resolve_left h1
      simp [v_mk_Deck_Next, h1, h2])

theorem c_Next_in {n : Int} {l : List Int} {k : Nat} {v : Int} (h1 : 1 ≤ n) (h2 : l[k]? = some v) (hk : k < 4294967296) : Lim F 19 [.gptr 0 0, i64 n] [dk l k] = some (i64 (modV v n), [dk l (k + 1)]) :=
  eq_of rfl rfl (by
    have hn : ¬ n < 1 := by omega
    have hl : ¬ l.length ≤ k := by have := (List.getElem?_eq_some_iff.1 h2).1; omega
    simp +contextual (disch := omega) [-getElem?_pos, -List.length_eq_zero_iff, -Int.natCast_eq_zero, wrap64, cond_yes, cond_yes2, int_beq, int_bne, v_mk_Deck_Next, hn, hl, h2, c_Mod])
theorem modV_range {v n : Int} (h1 : 1 ≤ n) (h2 : n ≤ 4611686018427387904) : 0 ≤ modV v n ∧ modV v n < n := by
  have h3 : -n < v.tmod n := by
    rcases Int.le_total 0 v with h | h
    · have := Int.tmod_nonneg n h; omega
    · have h4 := Int.tmod_lt_of_pos (-v) (show 0 < n by omega)
      rw [Int.neg_tmod] at h4
      omega
  have h4 : v.tmod n < n := Int.tmod_lt_of_pos _ (by omega)
  unfold modV
  rw [wrap64 (by omega) (by omega)]
  exact ⟨Int.tmod_nonneg _ (by omega), Int.tmod_lt_of_pos _ (by omega)⟩

/-- A deck of which k choices are dealt. -/
def okd (l : List Int) (k : Nat) : Prop := k ≤ l.length ∧ l.length ≤ 4294967296
theorem c_Next {l : List Int} {k : Nat} (hd : okd l k) (n : Int) (hn : n ≤ 4611686018427387904) :
    ∃ v k', Lim F 19 [.gptr 0 0, i64 n] [dk l k] = some (i64 v, [dk l k']) ∧ okd l k' ∧ 0 ≤ v ∧ (v < n ∨ v = 0) := by
  by_cases h : n < 1 ∨ l.length ≤ k
  · exact ⟨0, k, c_Next_end h, hd, by omega, .inr rfl⟩
  · obtain ⟨h1, h2⟩ := hd
    have h3 : k < l.length := by omega
    have h4 := c_Next_in (n := n) (l := l) (k := k) (v := nth l k) (by omega) (get_int h3) (by omega)
    have h5 := modV_range (v := nth l k) (n := n) (by omega) hn
    exact ⟨_, _, h4, ⟨by omega, h2⟩, h5.1, .inl h5.2⟩
theorem c_Few (l : List Int) (G : List GObj) : Lim F 6 [ints l] G = some (.bool (decide (l.length ≤ 500)), G) :=
  eq_of rfl rfl (by simp [v_mk_Few]; omega)
theorem c_New (l : List Int) : Lim F 7 [ints l] [] = some (.gptr 0 0, [dk l 0]) :=
  eq_of rfl rfl (by simp [v_mk_New])
end Go.Proofs.Ytgocbbphpkbiaaa
