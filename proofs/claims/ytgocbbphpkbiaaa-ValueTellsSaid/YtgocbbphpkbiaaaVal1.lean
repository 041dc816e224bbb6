/-
  What 'Check' of a tariff answers.
-/
import Derived.Test.YtgocbbphpkbiaaaMk1
namespace Go.Proofs.Ytgocbbphpkbiaaa
open Go.Vm

abbrev trf (s p : List Int) : V := .agg [ints s, ints p]

/-- The error of an element of a tariff. -/
def chkAt (s p : List Int) (i : Nat) : Int :=
  if (i = 0 ∧ nth s i ≠ 0) ∨ (0 < i ∧ nth s i ≤ nth s (i - 1)) then 4
  else if 95 < nth s i ∨ nth p i < 0 ∨ 10000 < nth p i then 1 else 0
def chkFrom (s p : List Int) : Nat → Nat → Int
  | 0, _ => 0
  | m + 1, i => if chkAt s p i = 0 then chkFrom s p m (i + 1) else chkAt s p i
def chk (s p : List Int) : Int :=
  if s.length = 0 ∨ s.length ≠ p.length then 3 else if 96 < s.length then 10 else chkFrom s p s.length 0

theorem chkFrom_step {s p : List Int} {i n : Nat} (h : i < n) : chkFrom s p (n - i) i = if chkAt s p i = 0 then chkFrom s p (n - (i + 1)) (i + 1) else chkAt s p i := by
  obtain ⟨m, hm⟩ : ∃ m, n - i = m + 1 := ⟨n - i - 1, by omega⟩
  rw [hm, chkFrom, show n - (i + 1) = m by omega]

theorem c_value_Check (s p : List Int) (G : List GObj) : Lim F 12 [trf s p] G = some (i64 (chk s p), G) :=
  eq_of rfl rfl (by
    simp +contextual (disch := omega) [-getElem?_pos, -List.length_eq_zero_iff, -Int.natCast_eq_zero, wrap64, cond_yes, cond_yes2, int_beq, int_bne, v_value_Check]
    refine cnd_bool (fun h => ?_) (fun h => cnd_dec (fun h' => ?_) (fun h' => ?_))
    · simp [-List.length_eq_zero_iff, -Int.natCast_eq_zero] at h
      simp only [chk]
      rw [if_pos (by omega)]
    · simp [-List.length_eq_zero_iff, -Int.natCast_eq_zero] at h
      simp only [chk]
      rw [if_neg (by omega), if_pos (by omega)]
    · have hc : chk s p = chkFrom s p s.length 0 := by
        simp [-List.length_eq_zero_iff, -Int.natCast_eq_zero] at h
        simp only [chk]
        rw [if_neg (by omega), if_neg (by omega)]
      rw [hc]
      have hl : s.length = p.length := by simp [-List.length_eq_zero_iff, -Int.natCast_eq_zero] at h; omega
      refine go_loop (fun i : Nat => v_value_Check_s0 (ints s) s.length i [ints s, ints p] G) (fun i => i ≤ s.length ∧ chkFrom s p (s.length - i) i = chkFrom s p s.length 0) (fun i => s.length - i) 0 rfl (by simp) (by simp) ?_
      rintro i ⟨hi, hq⟩
      rw [← hq]
      simp +contextual (disch := omega) [-getElem?_pos, -List.length_eq_zero_iff, -Int.natCast_eq_zero, wrap64, cond_yes, cond_yes2, int_beq, int_bne, v_value_Check_b0]
      refine cnd_dec (fun h1 => ?_) (fun h1 => ?_)
      · have h1 : i < s.length := by omega
        rw [chkFrom_step h1] at hq ⊢
        simp +contextual (disch := omega) [-getElem?_pos, -List.length_eq_zero_iff, -Int.natCast_eq_zero, wrap64, cond_yes, cond_yes2, int_beq, int_bne, get_int]
        refine cnd_bool (fun h => ?_) (fun h => cnd_bool (fun h2 => ?_) (fun h2 => ?_))
        · simp [-List.length_eq_zero_iff, -Int.natCast_eq_zero] at h
          rw [if_neg] <;> simp only [chkAt] <;> rw [if_pos (by omega)]
          decide
        · simp [-List.length_eq_zero_iff, -Int.natCast_eq_zero] at h
          simp [-List.length_eq_zero_iff, -Int.natCast_eq_zero] at h2
          have : chkAt s p i = 1 := by
            simp only [chkAt]
            rw [if_neg (by omega), if_pos (by omega)]
          simp [this]
        · simp [-List.length_eq_zero_iff, -Int.natCast_eq_zero] at h
          simp [-List.length_eq_zero_iff, -Int.natCast_eq_zero] at h2
          have h0 : chkAt s p i = 0 := by
            simp only [chkAt]
            rw [if_neg (by omega), if_neg (by omega)]
          rw [if_pos h0] at hq ⊢
          exact rnd_next (i + 1) (by simp) ⟨by omega, rfl⟩ (by omega)
      · obtain rfl : i = s.length := by omega
        simp [chkFrom])
theorem c_r41_Check (s p : List Int) (G : List GObj) : Lim F 13 [trf s p] G = some (i64 (chk s p), G) :=
  eq_of rfl rfl (by
    simp +contextual (disch := omega) [-getElem?_pos, -List.length_eq_zero_iff, -Int.natCast_eq_zero, wrap64, cond_yes, cond_yes2, int_beq, int_bne, v_r41_Check]
    refine cnd_bool (fun h => ?_) (fun h => cnd_dec (fun h' => ?_) (fun h' => ?_))
    · simp [-List.length_eq_zero_iff, -Int.natCast_eq_zero] at h
      simp only [chk]
      rw [if_pos (by omega)]
    · simp [-List.length_eq_zero_iff, -Int.natCast_eq_zero] at h
      simp only [chk]
      rw [if_neg (by omega), if_pos (by omega)]
    · have hc : chk s p = chkFrom s p s.length 0 := by
        simp [-List.length_eq_zero_iff, -Int.natCast_eq_zero] at h
        simp only [chk]
        rw [if_neg (by omega), if_neg (by omega)]
      rw [hc]
      have hl : s.length = p.length := by simp [-List.length_eq_zero_iff, -Int.natCast_eq_zero] at h; omega
      refine go_loop (fun i : Nat => v_r41_Check_s0 (ints s) s.length i [ints s, ints p] G) (fun i => i ≤ s.length ∧ chkFrom s p (s.length - i) i = chkFrom s p s.length 0) (fun i => s.length - i) 0 rfl (by simp) (by simp) ?_
      rintro i ⟨hi, hq⟩
      rw [← hq]
      simp +contextual (disch := omega) [-getElem?_pos, -List.length_eq_zero_iff, -Int.natCast_eq_zero, wrap64, cond_yes, cond_yes2, int_beq, int_bne, v_r41_Check_b0]
      refine cnd_dec (fun h1 => ?_) (fun h1 => ?_)
      · have h1 : i < s.length := by omega
        rw [chkFrom_step h1] at hq ⊢
        simp +contextual (disch := omega) [-getElem?_pos, -List.length_eq_zero_iff, -Int.natCast_eq_zero, wrap64, cond_yes, cond_yes2, int_beq, int_bne, get_int]
        refine cnd_bool (fun h => ?_) (fun h => cnd_bool (fun h2 => ?_) (fun h2 => ?_))
        · simp [-List.length_eq_zero_iff, -Int.natCast_eq_zero] at h
          rw [if_neg] <;> simp only [chkAt] <;> rw [if_pos (by omega)]
          decide
        · simp [-List.length_eq_zero_iff, -Int.natCast_eq_zero] at h
          simp [-List.length_eq_zero_iff, -Int.natCast_eq_zero] at h2
          have : chkAt s p i = 1 := by
            simp only [chkAt]
            rw [if_neg (by omega), if_pos (by omega)]
          simp [this]
        · simp [-List.length_eq_zero_iff, -Int.natCast_eq_zero] at h
          simp [-List.length_eq_zero_iff, -Int.natCast_eq_zero] at h2
          have h0 : chkAt s p i = 0 := by
            simp only [chkAt]
            rw [if_neg (by omega), if_neg (by omega)]
          rw [if_pos h0] at hq ⊢
          exact rnd_next (i + 1) (by simp) ⟨by omega, rfl⟩ (by omega)
      · obtain rfl : i = s.length := by omega
        simp [chkFrom])
end Go.Proofs.Ytgocbbphpkbiaaa
