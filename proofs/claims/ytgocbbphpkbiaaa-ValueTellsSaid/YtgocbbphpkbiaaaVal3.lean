/-
  What 'Worth' answers.
-/
import Derived.Test.YtgocbbphpkbiaaaVal2
namespace Go.Proofs.Ytgocbbphpkbiaaa
open Go.Vm

structure Rec where
  inflow : Int
  loss : Int
  turbine : Int
  spill : Int
  over : Int
  power : Int
  starts : Int
  deriving Inhabited
abbrev Rec.row (r : Rec) : List V := [i64 r.inflow, i64 r.loss, i64 r.turbine, i64 r.spill, i64 r.over, i64 r.power, i64 r.starts]
abbrev recs (l : List Rec) : V := .slice none 7 (l.map Rec.row)
/-- What passed in a step, of which the records alone are there. -/
abbrev psd (l : List Rec) : List V := [recs l, .slice none 1 [], .slice none 1 []]
abbrev psds (l : List (List Rec)) : V := .slice none 3 (l.map psd)

theorem drop_nth {α : Type} [Inhabited α] {l : List α} {i : Nat} (h : i < l.length) : l.drop i = nth l i :: l.drop (i + 1) := by
  rw [List.drop_eq_getElem_cons h]
  simp [nth, List.getD, h]

def wRec (q : Int) : List Rec → Int → Option Int
  | [], n => some n
  | r :: rs, n => if r.power < 0 ∨ 8589934592 < r.power then none else wRec q rs (IntKind.i64.wrap (n + IntKind.i64.wrap (r.power * q)))
def wAll (s p : List Int) (t : Int) : List (List Rec) → Int → Option Int
  | [], n => some n
  | rs :: l, n => match wRec (pr s p t) rs n with
    | none => none
    | some n => wAll s p (t + 1) l n

def big (l : List (List Rec)) : Bool := l.any fun rs => decide (6 < rs.length)
def worthOf (s p : List Int) (t : Int) (l : List (List Rec)) : V :=
  if chk s p ≠ 0 then .tuple [i64 0, i64 (chk s p)]
  else if 400 < l.length then .tuple [i64 0, i64 10]
  else if big l = true then .tuple [i64 0, i64 10]
  else if t < 0 ∨ (0 < l.length ∧ 16777216 - (l.length : Int) + 1 < t) then .tuple [i64 0, i64 6]
  else match wAll s p t l 0 with
    | none => .tuple [i64 0, i64 1]
    | some n => .tuple [i64 n, i64 0]

theorem big_drop {l : List (List Rec)} {i : Nat} (h : i < l.length) : big (l.drop i) = (decide (6 < (nth l i).length) || big (l.drop (i + 1))) := by
  rw [drop_nth h]
  rfl

theorem wAll_drop {s p : List Int} {t n : Int} {l : List (List Rec)} {i : Nat} (h : i < l.length) : wAll s p t (l.drop i) n = match wRec (pr s p t) (nth l i) n with
    | none => none
    | some n => wAll s p (t + 1) (l.drop (i + 1)) n := by
  rw [drop_nth h]
  rfl
theorem wRec_drop {q n : Int} {l : List Rec} {i : Nat} (h : i < l.length) : wRec q (l.drop i) n = if (nth l i).power < 0 ∨ 8589934592 < (nth l i).power then none else wRec q (l.drop (i + 1)) (IntKind.i64.wrap (n + IntKind.i64.wrap ((nth l i).power * q))) := by
  rw [drop_nth h]
  rfl
theorem not_big {l : List (List Rec)} (h : ¬ big l = true) {i : Nat} (hi : i < l.length) : (nth l i).length ≤ 6 := by
  have h1 : big (l.drop i) = true → big l = true := fun h1 => by
    simp only [big, List.any_eq_true] at h1 ⊢
    obtain ⟨x, hx, h2⟩ := h1
    exact ⟨x, List.mem_of_mem_drop hx, h2⟩
  rw [big_drop hi] at h1
  by_cases h2 : 6 < (nth l i).length
  · exact absurd (h1 (by simp [h2])) h
  · omega

theorem c_value_Worth (s p : List Int) (t : Int) (l : List (List Rec)) (G : List GObj) : Lim F 17 [trf s p, i64 t, psds l] G = some (worthOf s p t l, G) :=
  eq_of rfl rfl (by
    generalize hW : worthOf s p t l = W
    by_cases hc : chk s p = 0
    · have hv := valid_of hc
      have hd := c_laid (p := p) hv.top hv.few []
      have hl := hv.len
      simp only [worthOf] at hW
      rw [if_neg (by simpa using hc)] at hW
      simp +contextual (disch := omega) [-getElem?_pos, -List.length_eq_zero_iff, -Int.natCast_eq_zero, wrap64, cond_yes, cond_yes2, int_beq, int_bne, v_value_Worth, c_value_Check, hc]
      refine cnd_dec (fun h => ?_) (fun h => ?_)
      · rw [if_pos (by omega)] at hW
        exact hW
      · rw [if_neg (by omega)] at hW
        refine go_loop (fun i : Nat => v_value_Worth_s0 t (psds l) (psds l) l.length i [ints s, ints p] G) (fun i => i ≤ l.length ∧ big (l.drop i) = big l) (fun i => l.length - i) 0 rfl (by simp) (by simp) ?_
        rintro i ⟨hi, hb⟩
        simp +contextual (disch := omega) [-getElem?_pos, -List.length_eq_zero_iff, -Int.natCast_eq_zero, wrap64, cond_yes, cond_yes2, int_beq, int_bne, v_value_Worth_b0]
        refine cnd_dec (fun h1 => ?_) (fun h1 => ?_)
        · have h1 : i < l.length := by omega
          rw [big_drop h1] at hb
          simp +contextual (disch := omega) [-getElem?_pos, -List.length_eq_zero_iff, -Int.natCast_eq_zero, wrap64, cond_yes, cond_yes2, int_beq, int_bne, get_nth (l := l)]
          refine cnd_dec (fun h2 => ?_) (fun h2 => ?_)
          · have hb : big l = true := by rw [← hb]; simp; left; omega
            rw [if_pos hb] at hW
            exact hW
          · refine rnd_next (i + 1) (by simp) ⟨by omega, ?_⟩ (by omega)
            rw [← hb]
            have : ¬ (6 < (nth l i).length) := by omega
            simp [this]
        · obtain rfl : i = l.length := by omega
          have hb : ¬ (big l = true) := by rw [← hb]; simp [big]
          rw [if_neg hb] at hW
          simp +contextual (disch := omega) [-getElem?_pos, -List.length_eq_zero_iff, -Int.natCast_eq_zero, wrap64, cond_yes, cond_yes2, int_beq, int_bne, hd]
          refine cnd_bool (fun h2 => ?_) (fun h2 => ?_)
          · simp [-List.length_eq_zero_iff, -Int.natCast_eq_zero] at h2
            rw [if_pos (by omega)] at hW
            exact hW
          · simp [-List.length_eq_zero_iff, -Int.natCast_eq_zero] at h2
            rw [if_neg (by omega)] at hW
            refine go_loop (fun x : Nat × Int => v_value_Worth_s2 t x.2 (psds l) l.length x.1 [ints s, ints p] (tab 96 (day s)) G) (fun x => x.1 ≤ l.length ∧ wAll s p (t + x.1) (l.drop x.1) x.2 = wAll s p t l 0) (fun x => l.length - x.1) (0, 0) rfl (by simp) (by simp) ?_
            rintro ⟨i, n⟩ ⟨hi, hw⟩
            simp only at hi hw
            simp +contextual (disch := omega) [-getElem?_pos, -List.length_eq_zero_iff, -Int.natCast_eq_zero, wrap64, cond_yes, cond_yes2, int_beq, int_bne, v_value_Worth_b2]
            refine cnd_dec (fun h3 => ?_) (fun h3 => ?_)
            · have h3 : i < l.length := by omega
              rw [wAll_drop h3] at hw
              obtain ⟨h5, h6⟩ := tmod_range (t := t + i) (n := 96) (by omega) (by omega)
              have h7 : ((t + i).tmod 96).toNat < 96 := by omega
              have h8 : li s ((t + i).tmod 96) s.length < p.length := by rw [← hl]; exact li_lt hv.pos
              have h9 : (((t + i).tmod 96).toNat : Int) = (t + i).tmod 96 := by omega
              have h10 := not_big hb h3
              simp +contextual (disch := omega) [-getElem?_pos, -List.length_eq_zero_iff, -Int.natCast_eq_zero, wrap64, cond_yes, cond_yes2, int_beq, int_bne, get_nth (l := l)]
              refine go_loop (fun x : Nat × Int => v_value_Worth_s1 t x.2 i (psds l) l.length i (recs (nth l i)) (nth l i).length x.1 [ints s, ints p] (tab 96 (day s)) G)
                (fun x => x.1 ≤ (nth l i).length ∧ wRec (pr s p (t + i)) ((nth l i).drop x.1) x.2 = wRec (pr s p (t + i)) (nth l i) n) (fun x => (nth l i).length - x.1) (0, n) rfl (by simp) (by simp) ?_
              rintro ⟨j, m⟩ ⟨hj, hr⟩
              simp only at hj hr
              simp +contextual (disch := omega) [-getElem?_pos, -List.length_eq_zero_iff, -Int.natCast_eq_zero, wrap64, cond_yes, cond_yes2, int_beq, int_bne, v_value_Worth_b1]
              refine cnd_dec (fun h4 => ?_) (fun h4 => ?_)
              · have h4 : j < (nth l i).length := by omega
                rw [wRec_drop h4] at hr
                simp +contextual (disch := omega) [-getElem?_pos, -List.length_eq_zero_iff, -Int.natCast_eq_zero, wrap64, cond_yes, cond_yes2, int_beq, int_bne, get_nth (l := nth l i)]
                refine cnd_bool (fun h11 => ?_) (fun h11 => ?_)
                · simp [-List.length_eq_zero_iff, -Int.natCast_eq_zero] at h11
                  rw [if_pos (by omega)] at hr
                  rw [← hr] at hw
                  rw [← hw] at hW
                  exact hW
                · simp [-List.length_eq_zero_iff, -Int.natCast_eq_zero] at h11
                  rw [if_neg (by omega)] at hr
                  simp +contextual (disch := omega) [-getElem?_pos, -List.length_eq_zero_iff, -Int.natCast_eq_zero, wrap64, cond_yes, cond_yes2, int_beq, int_bne, h5, h6, h7, h9, tab_get, day, get_int]
                  exact rnd_next (j + 1, _) (by simp [pr]; rfl) ⟨by omega, hr⟩ (by simp; omega)
              · obtain rfl : j = (nth l i).length := by omega
                simp only [List.drop_length, wRec] at hr
                rw [← hr] at hw
                refine rnd_next (i + 1, m) (by simp) ⟨by omega, ?_⟩ (by simp; omega)
                simp only at hw ⊢
                rw [← hw]
                congr 1
                simp; omega
            · obtain rfl : i = l.length := by omega
              simp only [List.drop_length, wAll] at hw
              rw [← hw] at hW
              exact hW
    · simp +contextual (disch := omega) [-getElem?_pos, -List.length_eq_zero_iff, -Int.natCast_eq_zero, wrap64, cond_yes, cond_yes2, int_beq, int_bne, v_value_Worth, c_value_Check, hc]
      simp [worthOf, hc] at hW
      exact hW)

theorem c_r41_Worth (s p : List Int) (t : Int) (l : List (List Rec)) (G : List GObj) : Lim F 18 [trf s p, i64 t, psds l] G = some (worthOf s p t l, G) :=
  eq_of rfl rfl (by
    generalize hW : worthOf s p t l = W
    by_cases hc : chk s p = 0
    · have hv := valid_of hc
      have hd := fun u => c_r41_Price s p u []
      have hl := hv.len
      simp only [worthOf] at hW
      rw [if_neg (by simpa using hc)] at hW
      simp +contextual (disch := omega) [-getElem?_pos, -List.length_eq_zero_iff, -Int.natCast_eq_zero, wrap64, cond_yes, cond_yes2, int_beq, int_bne, v_r41_Worth, c_r41_Check, hc]
      refine cnd_dec (fun h => ?_) (fun h => ?_)
      · rw [if_pos (by omega)] at hW
        exact hW
      · rw [if_neg (by omega)] at hW
        refine go_loop (fun i : Nat => v_r41_Worth_s0 t (psds l) (psds l) l.length i [ints s, ints p] G) (fun i => i ≤ l.length ∧ big (l.drop i) = big l) (fun i => l.length - i) 0 rfl (by simp) (by simp) ?_
        rintro i ⟨hi, hb⟩
        simp +contextual (disch := omega) [-getElem?_pos, -List.length_eq_zero_iff, -Int.natCast_eq_zero, wrap64, cond_yes, cond_yes2, int_beq, int_bne, v_r41_Worth_b0]
        refine cnd_dec (fun h1 => ?_) (fun h1 => ?_)
        · have h1 : i < l.length := by omega
          rw [big_drop h1] at hb
          simp +contextual (disch := omega) [-getElem?_pos, -List.length_eq_zero_iff, -Int.natCast_eq_zero, wrap64, cond_yes, cond_yes2, int_beq, int_bne, get_nth (l := l)]
          refine cnd_dec (fun h2 => ?_) (fun h2 => ?_)
          · have hb : big l = true := by rw [← hb]; simp; left; omega
            rw [if_pos hb] at hW
            exact hW
          · refine rnd_next (i + 1) (by simp) ⟨by omega, ?_⟩ (by omega)
            rw [← hb]
            have : ¬ (6 < (nth l i).length) := by omega
            simp [this]
        · obtain rfl : i = l.length := by omega
          have hb : ¬ (big l = true) := by rw [← hb]; simp [big]
          rw [if_neg hb] at hW
          refine cnd_bool (fun h2 => ?_) (fun h2 => ?_)
          · simp [-List.length_eq_zero_iff, -Int.natCast_eq_zero] at h2
            rw [if_pos (by omega)] at hW
            exact hW
          · simp [-List.length_eq_zero_iff, -Int.natCast_eq_zero] at h2
            rw [if_neg (by omega)] at hW
            refine go_loop (fun x : Nat × Int => v_r41_Worth_s2 t x.2 (psds l) l.length x.1 [ints s, ints p] G) (fun x => x.1 ≤ l.length ∧ wAll s p (t + x.1) (l.drop x.1) x.2 = wAll s p t l 0) (fun x => l.length - x.1) (0, 0) rfl (by simp) (by simp) ?_
            rintro ⟨i, n⟩ ⟨hi, hw⟩
            simp only at hi hw
            simp +contextual (disch := omega) [-getElem?_pos, -List.length_eq_zero_iff, -Int.natCast_eq_zero, wrap64, cond_yes, cond_yes2, int_beq, int_bne, v_r41_Worth_b2]
            refine cnd_dec (fun h3 => ?_) (fun h3 => ?_)
            · have h3 : i < l.length := by omega
              rw [wAll_drop h3] at hw
              have h5 : ¬(t + i < 0 ∨ 16777216 < t + i) := by omega
              have h10 := not_big hb h3
              simp +contextual (disch := omega) [-getElem?_pos, -List.length_eq_zero_iff, -Int.natCast_eq_zero, wrap64, cond_yes, cond_yes2, int_beq, int_bne, get_nth (l := l), hd, priceOf, hc, h5]
              refine go_loop (fun x : Nat × Int => v_r41_Worth_s1 t x.2 (pr s p (t + i)) (psds l) l.length i (recs (nth l i)) (nth l i).length x.1 [ints s, ints p] G)
                (fun x => x.1 ≤ (nth l i).length ∧ wRec (pr s p (t + i)) ((nth l i).drop x.1) x.2 = wRec (pr s p (t + i)) (nth l i) n) (fun x => (nth l i).length - x.1) (0, n) rfl (by simp) (by simp) ?_
              rintro ⟨j, m⟩ ⟨hj, hr⟩
              simp only at hj hr
              simp +contextual (disch := omega) [-getElem?_pos, -List.length_eq_zero_iff, -Int.natCast_eq_zero, wrap64, cond_yes, cond_yes2, int_beq, int_bne, v_r41_Worth_b1]
              refine cnd_dec (fun h4 => ?_) (fun h4 => ?_)
              · have h4 : j < (nth l i).length := by omega
                rw [wRec_drop h4] at hr
                simp +contextual (disch := omega) [-getElem?_pos, -List.length_eq_zero_iff, -Int.natCast_eq_zero, wrap64, cond_yes, cond_yes2, int_beq, int_bne, get_nth (l := nth l i)]
                refine cnd_bool (fun h11 => ?_) (fun h11 => ?_)
                · simp [-List.length_eq_zero_iff, -Int.natCast_eq_zero] at h11
                  rw [if_pos (by omega)] at hr
                  rw [← hr] at hw
                  rw [← hw] at hW
                  exact hW
                · simp [-List.length_eq_zero_iff, -Int.natCast_eq_zero] at h11
                  rw [if_neg (by omega)] at hr
                  exact rnd_next (j + 1, _) (by simp [Int.mul_comm]; rfl) ⟨by omega, hr⟩ (by simp; omega)
              · obtain rfl : j = (nth l i).length := by omega
                simp only [List.drop_length, wRec] at hr
                rw [← hr] at hw
                refine rnd_next (i + 1, m) (by simp) ⟨by omega, ?_⟩ (by simp; omega)
                simp only at hw ⊢
                rw [← hw]
                congr 1
                simp; omega
            · obtain rfl : i = l.length := by omega
              simp only [List.drop_length, wAll] at hw
              rw [← hw] at hW
              exact hW
    · simp +contextual (disch := omega) [-getElem?_pos, -List.length_eq_zero_iff, -Int.natCast_eq_zero, wrap64, cond_yes, cond_yes2, int_beq, int_bne, v_r41_Worth, c_r41_Check, hc]
      simp [worthOf, hc] at hW
      exact hW)

end Go.Proofs.Ytgocbbphpkbiaaa
