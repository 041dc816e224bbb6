/-
  What 'Day' answers.
-/
import Derived.Test.YtgocbbphpkbiaaaVal3
namespace Go.Proofs.Ytgocbbphpkbiaaa
open Go.Vm

/-- Where the steps of a price end. -/
def stop (s : List Int) (i : Nat) : Int := if i + 1 < s.length then nth s (i + 1) else 96
/-- To how many steps a price applies. -/
def lens (s : List Int) (i : Nat) : Int := stop s i - nth s i
/-- To how many of the first k steps. -/
def lensTo (s : List Int) (k : Int) (i : Nat) : Int := if k ≤ nth s i then 0 else if k ≤ stop s i then k - nth s i else stop s i - nth s i

theorem Valid.mono {s p : List Int} (h : Valid s p) : ∀ {i j : Nat}, i < j → j < s.length → nth s i < nth s j
  | i, j + 1, h1, h2 => by
    have h3 := h.up j h2
    rcases Nat.lt_or_ge i j with h4 | h4
    · have := h.mono h4 (by omega); omega
    · obtain rfl : i = j := by omega
      exact h3

theorem li_spec {s : List Int} {k : Int} (h0 : nth s 0 ≤ k) : ∀ {m : Nat}, 0 < m → nth s (li s k m) ≤ k ∧ ∀ j, li s k m < j → j < m → k < nth s j
  | m + 1, _ => by
    rw [li_step]
    split
    · rename_i h; exact ⟨h, fun j h1 h2 => by omega⟩
    · rename_i h
      rcases Nat.eq_zero_or_pos m with h1 | h1
      · subst h1; exact absurd h0 h
      · obtain ⟨h2, h3⟩ := li_spec h0 h1
        refine ⟨h2, fun j h4 h5 => ?_⟩
        rcases Nat.lt_or_ge j m with h6 | h6
        · exact h3 j h4 h6
        · obtain rfl : j = m := by omega
          omega

theorem Valid.stop {s p : List Int} (h : Valid s p) : ∀ i, i < s.length → nth s i < stop s i ∧ stop s i ≤ 96 := fun i hi => by
  unfold Go.Proofs.Ytgocbbphpkbiaaa.stop
  split
  · rename_i h1; exact ⟨h.up i h1, by have := h.top _ h1; omega⟩
  · have := h.top i hi; omega

theorem lensTo_step {s p : List Int} (h : Valid s p) {k : Nat} (hk : k < 96) {i : Nat} (hi : i < s.length) : lensTo s (k + 1) i = if i = li s k s.length then lensTo s k i + 1 else lensTo s k i := by
  have h0 := h.zero
  obtain ⟨h1, h2⟩ := li_spec (s := s) (k := k) (by omega) h.pos
  have h3 := li_lt (s := s) (k := k) h.pos
  generalize hm : li s k s.length = m at *
  have hs : ∀ i, i < s.length → nth s i < stop s i := fun i hi => by
    unfold stop
    split
    · exact h.up i (by assumption)
    · have := h.top i hi; omega
  have hsi := hs i hi
  have hmk : (k : Int) < stop s m := by
    unfold stop
    split
    · exact h2 _ (by omega) (by assumption)
    · omega
  unfold lensTo
  by_cases him : i = m
  · subst him
    simp only [if_true]
    repeat' split
    all_goals omega
  · simp only [him, if_false]
    have : stop s i ≤ k ∨ (k : Int) < nth s i := by
      rcases Nat.lt_or_ge i m with h4 | h4
      · left
        unfold stop
        split
        · rcases Nat.lt_or_ge (i + 1) m with h5 | h5
          · have := h.mono h5 h3; omega
          · obtain rfl : i + 1 = m := by omega
            exact h1
        · omega
      · right
        exact h2 i (by omega) hi
    repeat' split
    all_goals omega

/-- What 'Day' answers: the list is of the family 0 in the program, of none in the reference. -/
def dayOf (s p : List Int) : V :=
  if chk s p ≠ 0 then .tuple [.slice (some 0) 1 [], i64 (chk s p)] else .tuple [.slice none 1 ((List.range p.length).map fun i => [i64 (lens s i)]), i64 0]

theorem c_value_Day (s p : List Int) (G : List GObj) : Lim F 10 [trf s p] G = some (dayOf s p, G) :=
  eq_of rfl rfl (by
    generalize hW : dayOf s p = W
    by_cases hc : chk s p = 0
    · have hv := valid_of hc
      have hd := c_laid (p := p) hv.top hv.few []
      have hl := hv.len
      have hf := hv.few
      have hp := hv.pos
      have h00 := hv.zero
      have hlim : p.length ≤ 4294967296 := by omega
      simp only [dayOf] at hW
      rw [if_neg (by simpa using hc)] at hW
      simp +contextual (disch := omega) [-getElem?_pos, -List.length_eq_zero_iff, -Int.natCast_eq_zero, wrap64, cond_yes, cond_yes2, int_beq, int_bne, v_value_Day, c_value_Check, hc, hd]
      refine go_loop (fun k : Nat => v_value_Day_s0 p.length (.agg (tab 96 (day s))) k (tab p.length (lensTo s k)) G) (fun k => k ≤ 96) (fun k => 96 - k) 0 rfl ?_ (by omega) ?_
      · simp [repl_tab]
        apply tab_ext
        intro j hj
        have := (hv.top j (by omega)).1
        simp [lensTo, this]
      · intro k hk
        simp +contextual (disch := omega) [-getElem?_pos, -List.length_eq_zero_iff, -Int.natCast_eq_zero, wrap64, cond_yes, cond_yes2, int_beq, int_bne, v_value_Day_b0]
        refine cnd_dec (fun h1 => ?_) (fun h1 => ?_)
        · have h1 : k < 96 := by omega
          have h2 := li_lt (s := s) (k := k) hp
          have h3 : lensTo s k (li s k s.length) ≤ 96 ∧ 0 ≤ lensTo s k (li s k s.length) := by
            have := hv.top _ h2
            have := hv.stop _ h2
            unfold lensTo
            repeat' split
            all_goals omega
          simp +contextual (disch := omega) [-getElem?_pos, -List.length_eq_zero_iff, -Int.natCast_eq_zero, wrap64, cond_yes, cond_yes2, int_beq, int_bne, tab_get, day]
          refine rnd_next (k + 1) ?_ (by omega) (by omega)
          simp
          apply tab_ext
          intro j hj
          rw [lensTo_step hv h1 (by omega)]
          split
          · rename_i h4; rw [h4]
          · rfl
        · obtain rfl : k = 96 := by omega
          rw [← hW]
          have : ∀ i, i < p.length → lensTo s 96 i = lens s i := fun i hi => by
            have := hv.top i (by omega)
            have := hv.stop i (by omega)
            unfold lensTo lens
            rw [if_neg (by omega)]
            split <;> omega
          simp
          intro i hi
          exact this i hi
    · simp +contextual (disch := omega) [-getElem?_pos, -List.length_eq_zero_iff, -Int.natCast_eq_zero, wrap64, cond_yes, cond_yes2, int_beq, int_bne, v_value_Day, c_value_Check, hc]
      simp [dayOf, hc] at hW
      exact hW)
end Go.Proofs.Ytgocbbphpkbiaaa
