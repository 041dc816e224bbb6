/-
  What 'Tariff' makes.
-/
import Derived.Test.YtgocbbphpkbiaaaVal4
namespace Go.Proofs.Ytgocbbphpkbiaaa
open Go.Vm

abbrev trfg (s p : List Int) : V := .agg [.slice (some 0) 1 (s.map fun n => [i64 n]), .slice (some 0) 1 (p.map fun n => [i64 n])]

theorem nth_append {α : Type} [Inhabited α] {l : List α} {a : α} {i : Nat} : nth (l ++ [a]) i = if i < l.length then nth l i else if i = l.length then a else default := by
  simp only [nth, List.getD, List.getElem?_append]
  split
  · rfl
  · split
    · rename_i h; subst h; simp
    · rename_i h1 h2
      rw [List.getElem?_eq_none (by simp; omega)]
      rfl

theorem Valid.snoc {s p : List Int} (h : Valid s p) {x q : Int} (h1 : nth s (s.length - 1) < x) (h2 : x < 96) (h3 : 0 ≤ q) (h4 : q ≤ 10000) (h5 : s.length < 96) : Valid (s ++ [x]) (p ++ [q]) := by
  have h6 := h.pos
  have h7 := h.len
  refine ⟨by simp, by simp [h7], by simp; omega, ?_, fun i hi => ?_, fun i hi => ?_, fun i hi => ?_⟩
  · rw [nth_append, if_pos h6]; exact h.zero
  · simp at hi
    rw [nth_append, nth_append, if_pos (by omega)]
    split
    · exact h.up i (by assumption)
    · obtain rfl : i = s.length - 1 := by omega
      rw [if_pos (by omega)]
      exact h1
  · simp at hi
    rw [nth_append]
    split
    · exact h.top i (by assumption)
    · rw [if_pos (by omega)]
      have := h.top (s.length - 1) (by omega)
      omega
  · simp at hi
    rw [nth_append]
    split
    · exact h.price i (by omega)
    · rw [if_pos (by omega)]
      omega

theorem c_Tariff {l : List Int} {k : Nat} (hd : okd l k) : ∃ s p k', Lim F 8 [.gptr 0 0] [dk l k] = some (trfg s p, [dk l k']) ∧ okd l k' ∧ Valid s p ∧ ∀ i, i < p.length → nth p i ≤ 19 := by
  suffices h : Ret (Lim F) 8 [.gptr 0 0] [dk l k] fun v G => ∃ s p k', v = trfg s p ∧ G = [dk l k'] ∧ okd l k' ∧ Valid s p ∧ ∀ i, i < p.length → nth p i ≤ 19 by
    obtain ⟨_, _, h, s, p, k', rfl, rfl, h1⟩ := h
    exact ⟨s, p, k', h, h1⟩
  refine ret_of rfl rfl ?_
  obtain ⟨a, k1, h1, hd1, ha⟩ := c_Next hd 20 (by omega)
  obtain ⟨b, k2, h2, hd2, hb⟩ := c_Next hd1 4 (by omega)
  simp +contextual (disch := omega) [-getElem?_pos, -List.length_eq_zero_iff, -Int.natCast_eq_zero, wrap64, cond_yes, cond_yes2, int_beq, int_bne, v_flow_Tariff, h1, h2]
  refine go_loop (fun x : List Int × List Int × Int × Nat => v_flow_Tariff_s0 (.gptr 0 0) x.2.2.1 [.nils, .nils] [.slice (some 1006) 1 (x.1.map fun n => [i64 n]), .slice (some 1009) 1 (x.2.1.map fun n => [i64 n])] x.1.length x.2.1.length [dk l x.2.2.2])
    (fun x => Valid x.1 x.2.1 ∧ (x.1.length : Int) + x.2.2.1 ≤ 5 ∧ 0 ≤ x.2.2.1 ∧ okd l x.2.2.2 ∧ ∀ i, i < x.2.1.length → nth x.2.1 i ≤ 19) (fun x => x.2.2.1.toNat) ([0], [a], b, k2) rfl (by simp) ⟨?_, by simp; omega, by simp; omega, hd2, fun i hi => by simp at hi; subst hi; simp [nth]; omega⟩ ?_
  · exact ⟨by simp, rfl, by simp, rfl, by simp, fun i hi => by simp at hi; subst hi; simp [nth], fun i hi => by simp at hi; subst hi; simp [nth]; omega⟩
  · rintro ⟨s, p, b, k⟩ ⟨hv, hb1, hb2, hd, h19⟩
    simp only at hv hb1 hb2 hd h19
    have hp := hv.pos
    have hl := hv.len
    simp +contextual (disch := omega) [-getElem?_pos, -List.length_eq_zero_iff, -Int.natCast_eq_zero, wrap64, cond_yes, cond_yes2, int_beq, int_bne, v_flow_Tariff_b0]
    refine cnd_dec (fun h => ?_) (fun h => ?_)
    · obtain ⟨c, k1, h1, hd1, hc⟩ := c_Next hd 30 (by omega)
      have ht := hv.top (s.length - 1) (by omega)
      simp +contextual (disch := omega) [-getElem?_pos, -List.length_eq_zero_iff, -Int.natCast_eq_zero, wrap64, cond_yes, cond_yes2, int_beq, int_bne, h1, get_int]
      refine cnd_dec (fun h3 => ?_) (fun h3 => ?_)
      · obtain ⟨q, k2, h4, hd2, hq⟩ := c_Next hd1 20 (by omega)
        simp +contextual (disch := omega) [-getElem?_pos, -List.length_eq_zero_iff, -Int.natCast_eq_zero, wrap64, cond_yes, cond_yes2, int_beq, int_bne, h4]
        refine rnd_next (s ++ [nth s (s.length - 1) + 1 + c], p ++ [q], b - 1, k2) (by simp) ⟨hv.snoc (by omega) (by omega) (by omega) (by omega) (by omega), by simp; omega, by simp; omega, hd2, fun i hi => by
          simp at hi
          simp only [nth_append]
          split
          · exact h19 i (by assumption)
          · rw [if_pos (by omega)]; omega⟩ (by simp; omega)
      · exact rnd_next (s, p, b - 1, k1) (by simp) ⟨hv, by simp; omega, by simp; omega, hd1, h19⟩ (by simp; omega)
    · exact ⟨s, p, ⟨rfl, rfl⟩, k, rfl, hd, hv, h19⟩
end Go.Proofs.Ytgocbbphpkbiaaa
