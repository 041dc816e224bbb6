/-
  What the reference's 'Day' answers; when lists are the same.
-/
import Derived.Test.YtgocbbphpkbiaaaVal4
namespace Go.Proofs.Ytgocbbphpkbiaaa
open Go.Vm

/-- What the reference's 'Day' answers. -/
def dayOfR (s p : List Int) : V :=
  if chk s p ≠ 0 then .tuple [.slice (some 0) 1 [], i64 (chk s p)] else .tuple [.slice (some 0) 1 ((List.range p.length).map fun i => [i64 (lens s i)]), i64 0]

theorem c_r41_Day (s p : List Int) (G : List GObj) : Lim F 11 [trf s p] G = some (dayOfR s p, G) :=
  eq_of rfl rfl (by
    generalize hW : dayOfR s p = W
    by_cases hc : chk s p = 0
    · have hv := valid_of hc
      have hl := hv.len
      have hf := hv.few
      have hp := hv.pos
      simp only [dayOfR] at hW
      rw [if_neg (by simpa using hc)] at hW
      simp +contextual (disch := omega) [-getElem?_pos, -List.length_eq_zero_iff, -Int.natCast_eq_zero, wrap64, cond_yes, cond_yes2, int_beq, int_bne, v_r41_Day, c_r41_Check, hc]
      refine go_loop (fun k : Nat => v_r41_Day_s0 (.slice (some 1039) 1 ((List.range k).map fun i => [i64 (lens s i)])) (ints s) s.length k [ints s, ints p] k G) (fun k => k ≤ s.length) (fun k => s.length - k) 0 rfl (by simp) (by omega) ?_
      intro k hk
      simp +contextual (disch := omega) [-getElem?_pos, -List.length_eq_zero_iff, -Int.natCast_eq_zero, wrap64, cond_yes, cond_yes2, int_beq, int_bne, v_r41_Day_b0]
      refine cnd_dec (fun h1 => ?_) (fun h1 => ?_)
      · have h1 : k < s.length := by omega
        have ht := hv.top k h1
        simp +contextual (disch := omega) [-getElem?_pos, -List.length_eq_zero_iff, -Int.natCast_eq_zero, wrap64, cond_yes, cond_yes2, int_beq, int_bne, get_int]
        refine cnd_dec (fun h2 => ?_) (fun h2 => ?_)
        · have h2 : k + 1 < s.length := by omega
          have ht2 := hv.top (k + 1) h2
          have hi : (((k : Int) + 1).toNat) = k + 1 := by omega
          simp +contextual (disch := omega) [-getElem?_pos, -List.length_eq_zero_iff, -Int.natCast_eq_zero, wrap64, cond_yes, cond_yes2, int_beq, int_bne, get_int, hi]
          refine rnd_next (k + 1) ?_ (by omega) (by omega)
          simp [List.range_succ, lens, stop, h2]
        · have h2 : ¬ k + 1 < s.length := by omega
          refine rnd_next (k + 1) ?_ (by omega) (by omega)
          simp [List.range_succ, lens, stop, h2]
      · obtain rfl : k = s.length := by omega
        rw [← hW, hl]
    · simp +contextual (disch := omega) [-getElem?_pos, -List.length_eq_zero_iff, -Int.natCast_eq_zero, wrap64, cond_yes, cond_yes2, int_beq, int_bne, v_r41_Day, c_r41_Check, hc]
      simp [dayOfR, hc] at hW
      exact hW)

theorem c_Ints_same (l : List Nat) (f : Nat → Int) (hl : l.length ≤ 4294967296) (G : List GObj) : Lim F 14 [.slice none 1 (l.map fun j => [i64 (f j)]), .slice none 1 (l.map fun j => [i64 (f j)])] G = some (.bool true, G) :=
  eq_of rfl rfl (by
    simp +contextual (disch := omega) [-getElem?_pos, -List.length_eq_zero_iff, -Int.natCast_eq_zero, wrap64, cond_yes, cond_yes2, int_beq, int_bne, v_r39_Ints]
    refine go_loop (fun k : Nat => v_r39_Ints_s0 (.slice none 1 (l.map fun j => [i64 (f j)])) (.slice none 1 (l.map fun j => [i64 (f j)])) l.length k G) (fun k => k ≤ l.length) (fun k => l.length - k) 0 rfl (by simp) (by omega) ?_
    intro k hk
    simp +contextual (disch := omega) [-getElem?_pos, -List.length_eq_zero_iff, -Int.natCast_eq_zero, wrap64, cond_yes, cond_yes2, int_beq, int_bne, v_r39_Ints_b0]
    refine cnd_dec (fun h1 => ?_) (fun h1 => ?_)
    · have h1 : k < l.length := by omega
      simp +contextual (disch := omega) [-getElem?_pos, -List.length_eq_zero_iff, -Int.natCast_eq_zero, wrap64, cond_yes, cond_yes2, int_beq, int_bne, get_nth (l := l)]
      exact rnd_next (k + 1) (by simp) (by omega) (by omega)
    · trivial)
end Go.Proofs.Ytgocbbphpkbiaaa
