/-
  ValueAdds: its walk.
-/
import Derived.Test.YtgocbbphpkbiaaaVal5b
namespace Go.Proofs.Ytgocbbphpkbiaaa
open Go.Vm

set_option maxRecDepth 100000 in
theorem c_sane41 : Lim F 5 [] [] = some (.bool true, []) := lim_iff.2 ⟨200, by kernel_rfl⟩



theorem adds_walk (t : List Int) (frm cut : Int) (h1 : 0 ≤ frm ∧ frm ≤ 65535) (h2 : 0 ≤ cut ∧ cut ≤ 255) : ∃ G', Lim F 4 [ints t, .int .u16 frm, .int .u8 cut] [] = some (.bool true, G') := by
  suffices h : Ret (Lim F) 4 [ints t, .int .u16 frm, .int .u8 cut] [] fun v G => v = .bool true by
    obtain ⟨_, G, h, rfl⟩ := h
    exact ⟨G, h⟩
  refine ret_of rfl rfl ?_
  simp +contextual (disch := omega) [-getElem?_pos, -List.length_eq_zero_iff, -Int.natCast_eq_zero, wrap64, cond_yes, cond_yes2, int_beq, int_bne, v_w41_ValueAdds, c_sane41, c_Few]
  refine cnd_bool (fun h3 => trivial) (fun h3 => ?_)
  simp [-List.length_eq_zero_iff, -Int.natCast_eq_zero] at h3
  obtain ⟨s, p, k1, h4, hd1, hv, h19⟩ := c_Tariff (l := t) (k := 0) ⟨by omega, by omega⟩
  obtain ⟨b, k2, h5, hd2, hb⟩ := c_Next hd1 9 (by omega)
  simp +contextual (disch := omega) [-getElem?_pos, -List.length_eq_zero_iff, -Int.natCast_eq_zero, wrap64, cond_yes, cond_yes2, int_beq, int_bne, c_New, h4, h5]
  refine go_loop (fun x : List (List Rec) × Int × Nat => v_w41_ValueAdds_s0 frm cut (.gptr 0 0) (.slice (some 1054) 3 (x.1.map psd)) x.2.1 [.slice none 1 (s.map fun n => [i64 n]), .slice none 1 (p.map fun n => [i64 n])] x.1.length [dk t x.2.2])
    (fun x => small x.1 ∧ (x.1.length : Int) + x.2.1 ≤ 9 ∧ 0 ≤ x.2.1 ∧ okd t x.2.2) (fun x => x.2.1.toNat) ([], 1 + b, k2) rfl (by simp) ⟨by simp [small], by simp; omega, by simp; omega, hd2⟩ ?_
  rintro ⟨l, k, j⟩ ⟨hs, hl1, hl2, hd⟩
  simp only at hs hl1 hl2 hd
  simp +contextual (disch := omega) [-getElem?_pos, -List.length_eq_zero_iff, -Int.natCast_eq_zero, wrap64, cond_yes, cond_yes2, int_beq, int_bne, v_w41_ValueAdds_b0]
  refine cnd_dec (fun h6 => ?_) (fun h6 => ?_)
  · obtain ⟨c, k1, h1, hd1, hc⟩ := c_Next hd 100 (by omega)
    obtain ⟨e, k2, h2, hd2, he⟩ := c_Next hd1 9 (by omega)
    simp +contextual (disch := omega) [-getElem?_pos, -List.length_eq_zero_iff, -Int.natCast_eq_zero, wrap64, cond_yes, cond_yes2, int_beq, int_bne, h1, h2]
    refine rnd_next (l ++ [[⟨0, 0, 0, 0, 0, c, 0⟩, ⟨0, 0, 0, 0, 0, e, 0⟩]], k - 1, k2) (by simp) ⟨?_, by simp; omega, by simp; omega, hd2⟩ (by simp; omega)
    intro rs hrs
    simp at hrs
    rcases hrs with hrs | rfl
    · exact hs _ hrs
    · simp
      omega
  · have hk : k = 0 := by omega
    have hne : ((l.length : Int) + 1 = 0) = False := by simp; omega
    obtain ⟨hn1, hn2⟩ := tmod_range (t := cut) (n := (l.length : Int) + 1) (by omega) (by omega)
    generalize hn : cut.tmod ((l.length : Int) + 1) = n at hn1 hn2
    obtain ⟨n, rfl⟩ : ∃ m : Nat, n = m := ⟨n.toNat, by omega⟩
    have hcut : n ≤ l.length := by omega
    have h38 : ∀ i, i < p.length → nth p i ≤ 38 := fun i hi => by have := h19 i hi; omega
    obtain ⟨hv2, h38'⟩ := hv.twice h19
    have hs1 : small (l.take n) := fun x hx => hs x (List.mem_of_mem_take hx)
    have hs2 : small (l.drop n) := fun x hx => hs x (List.mem_of_mem_drop hx)
    have w1 := worth_small hv h38 hs (by omega) (t := frm) (by omega)
    have w2 := worth_small hv h38 hs1 (by simp; omega) (t := frm) (by omega)
    have w3 := worth_small hv h38 hs2 (by simp; omega) (t := frm + n) (by omega)
    have w4 := worth_small hv2 h38' hs (by omega) (t := frm) (by omega)
    have hp := hv.pos
    have hl := hv.len
    have hf := hv.few
    have c4 := c_value_Worth s (p.map fun n => 2 * n) frm l []
    rw [w4] at c4
    simp only [trf, ints, List.map_map, Function.comp_def] at c4
    simp +contextual (disch := omega) [-getElem?_pos, -List.length_eq_zero_iff, -Int.natCast_eq_zero, wrap64, cond_yes, cond_yes2, int_beq, int_bne, hne, hn, c_value_Worth, hcut, ← List.map_take, ← List.map_drop, w1, w2, w3]
    refine go_loop (fun i : Nat => v_w41_ValueAdds_s1 frm (.slice (some 1054) 3 (l.map psd)) (W s p frm l) 0 (W s p frm (l.take n)) 0 (W s p (frm + n) (l.drop n)) 0 (ints p) p.length i [ints s, ints p]
      [ints s, .slice (some 1106) 1 ((p.take i).map fun n => [i64 (2 * n)])] l.length i [dk t j]) (fun i => i ≤ p.length) (fun i => p.length - i) 0 rfl (by simp) (by omega) ?_
    intro i hi
    simp +contextual (disch := omega) [-getElem?_pos, -List.length_eq_zero_iff, -Int.natCast_eq_zero, wrap64, cond_yes, cond_yes2, int_beq, int_bne, v_w41_ValueAdds_b1]
    refine cnd_dec (fun h7 => ?_) (fun h7 => ?_)
    · have h7 : i < p.length := by omega
      have h8 := hv.price i (by omega)
      simp +contextual (disch := omega) [-getElem?_pos, -List.length_eq_zero_iff, -Int.natCast_eq_zero, wrap64, cond_yes, cond_yes2, int_beq, int_bne, get_int]
      refine rnd_next (i + 1) ?_ (by omega) (by omega)
      simp [take_map_nth h7]
    · obtain rfl : i = p.length := by omega
      have htk : List.take p.length (List.map (fun n => [i64 (2 * n)]) p) = List.map (fun n => [i64 (2 * n)]) p := List.take_of_length_le (by simp)
      have hday : dayOf s p = .tuple [.slice none 1 ((List.range p.length).map fun i => [i64 (lens s i)]), i64 0] := by simp [dayOf, chk_of hv]
      rw [htk]
      simp +contextual (disch := omega) [-getElem?_pos, -List.length_eq_zero_iff, -Int.natCast_eq_zero, wrap64, cond_yes, cond_yes2, int_beq, int_bne, c4, c_value_Day, hday]
      refine go_loop (fun i : Nat => v_w41_ValueAdds_s2 (W s p frm l) 0 (W s p frm (l.take n)) 0 (W s p (frm + n) (l.drop n)) 0 (W s (p.map fun n => 2 * n) frm l) 0 0 (if i < p.length then nth s i else 96)
        (.slice none 1 ((List.range p.length).map fun i => [i64 (lens s i)])) p.length i [dk t j]) (fun i => i ≤ p.length) (fun i => p.length - i) 0 rfl ?_ (by omega) ?_
      · have : p ≠ [] := fun e => by subst e; rw [hl] at hp; simp at hp
        simp [this, hv.zero]
      · intro i hi
        simp +contextual (disch := omega) [-getElem?_pos, -List.length_eq_zero_iff, -Int.natCast_eq_zero, wrap64, cond_yes, cond_yes2, int_beq, int_bne, v_w41_ValueAdds_b2]
        refine cnd_dec (fun h8 => ?_) (fun h8 => ?_)
        · have h8 : i < p.length := by omega
          have h9 := hv.stop i (by omega)
          have h10 := hv.top i (by omega)
          simp +contextual (disch := omega) [-getElem?_pos, -List.length_eq_zero_iff, -Int.natCast_eq_zero, wrap64, cond_yes, cond_yes2, int_beq, int_bne, List.getElem?_range, h8, lens]
          refine rnd_next (i + 1) ?_ (by omega) (by omega)
          simp [stop, hl]
          omega
        · obtain rfl : i = p.length := by omega
          have r1 := W_range hv h38 hs (t := frm)
          have r2 : W s p frm l = W s p frm (l.take n) + W s p (frm + n) (l.drop n) := by
            have := W_append (s := s) (p := p) (l := l.take n) (m := l.drop n) (t := frm)
            rw [List.take_append_drop] at this
            rw [this]
            simp [Nat.min_eq_left hcut]
          have r3 := W_twice hv (l := l) (t := frm)
          simp
          rw [← r2, r3, wrap64 (by omega) (by omega), wrap64 (by omega) (by omega)]
          exact ⟨rfl, rfl⟩
end Go.Proofs.Ytgocbbphpkbiaaa
