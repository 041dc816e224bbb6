/-
  What 'laid' and 'Price' answer at a valid tariff.
-/
import Derived.Test.YtgocbbphpkbiaaaVal1
namespace Go.Proofs.Ytgocbbphpkbiaaa
open Go.Vm

/-- The last of the first m elements that is at most k; 0 where there is none. -/
def li (s : List Int) (k : Int) : Nat → Nat
  | 0 => 0
  | m + 1 => if nth s m ≤ k then m else li s k m

theorem li_lt {s : List Int} {k : Int} : ∀ {m : Nat}, 0 < m → li s k m < m
  | m + 1, _ => by
    unfold li
    split
    · omega
    · rcases Nat.eq_zero_or_pos m with h | h
      · subst h; simp [li]
      · have := li_lt (s := s) (k := k) h; omega

/-- The index of the price of each step of a day. -/
def day (s : List Int) (j : Nat) : Int := li s j s.length

theorem c_laid {s p : List Int} (h : ∀ i, i < s.length → 0 ≤ nth s i ∧ nth s i ≤ 95) (hl : s.length ≤ 96) (G : List GObj) : Lim F 20 [trf s p] G = some (.agg (tab 96 (day s)), G) :=
  eq_of rfl rfl (by
    simp +contextual (disch := omega) [-getElem?_pos, -List.length_eq_zero_iff, -Int.natCast_eq_zero, wrap64, cond_yes, cond_yes2, int_beq, int_bne, v_value_laid]
    refine go_loop (fun i : Nat => v_value_laid_s1 (ints s) s.length i (tab 96 fun _ => 0) (tab 96 fun j => li s j i) G) (fun i => i ≤ s.length) (fun i => s.length - i) 0 rfl (by simp [li]) (by omega) ?_
    intro i hi
    simp +contextual (disch := omega) [-getElem?_pos, -List.length_eq_zero_iff, -Int.natCast_eq_zero, wrap64, cond_yes, cond_yes2, int_beq, int_bne, v_value_laid_b1, get_int]
    refine cnd_dec (fun h1 => ?_) (fun h1 => ?_)
    · have h1 : i < s.length := by omega
      simp +contextual (disch := omega) [-getElem?_pos, -List.length_eq_zero_iff, -Int.natCast_eq_zero, wrap64, cond_yes, cond_yes2, int_beq, int_bne, get_int]
      obtain ⟨h2, h3⟩ := h i h1
      refine go_loop (fun k : Nat => v_value_laid_s0 i k (ints s) s.length i (tab 96 fun _ => 0) (tab 96 fun j => if nth s i ≤ j ∧ j < k then i else li s j i) G) (fun k => nth s i ≤ k ∧ k ≤ 96) (fun k => 96 - k) (nth s i).toNat rfl ?_ (by omega) ?_
      · simp [Int.toNat_of_nonneg h2]
        apply tab_ext
        intro j _
        rw [if_neg (by omega)]
      · rintro k ⟨hk1, hk2⟩
        simp +contextual (disch := omega) [-getElem?_pos, -List.length_eq_zero_iff, -Int.natCast_eq_zero, wrap64, cond_yes, cond_yes2, int_beq, int_bne, v_value_laid_b0]
        refine cnd_dec (fun h4 => ?_) (fun h4 => ?_)
        · simp +contextual (disch := omega) [-getElem?_pos, -List.length_eq_zero_iff, -Int.natCast_eq_zero, wrap64, cond_yes, cond_yes2, int_beq, int_bne, wrap64]
          refine rnd_next (k + 1) ?_ (by omega) (by omega)
          simp
          apply tab_ext
          intro j hj
          by_cases hjk : j = k
          · subst hjk; simp [hk1]
          · simp only [hjk, if_false]
            congr 1
            simp; omega
        · obtain rfl : k = 96 := by omega
          refine rnd_next (i + 1) ?_ (by omega) (by omega)
          simp
          apply tab_ext
          intro j hj
          simp [li, hj]
          split <;> rfl
    · obtain rfl : i = s.length := by omega
      rfl)

/-- The price of a step. -/
def pr (s p : List Int) (t : Int) : Int := nth p (li s (t.tmod 96) s.length)

structure Valid (s p : List Int) : Prop where
  pos : 0 < s.length
  len : s.length = p.length
  few : s.length ≤ 96
  zero : nth s 0 = 0
  up : ∀ i, i + 1 < s.length → nth s i < nth s (i + 1)
  top : ∀ i, i < s.length → 0 ≤ nth s i ∧ nth s i ≤ 95
  price : ∀ i, i < s.length → 0 ≤ nth p i ∧ nth p i ≤ 10000

theorem chkFrom_all {s p : List Int} : ∀ {m i : Nat}, chkFrom s p m i = 0 → ∀ j, j < m → chkAt s p (i + j) = 0
  | m + 1, i, h, j, hj => by
    unfold chkFrom at h
    split at h
    · rename_i h0
      cases j with
      | zero => exact h0
      | succ j => rw [show i + (j + 1) = (i + 1) + j by omega]; exact chkFrom_all h j (by omega)
    · rename_i h0; exact absurd h h0

theorem valid_of {s p : List Int} (h : chk s p = 0) : Valid s p := by
  unfold chk at h
  split at h
  · simp at h
  · split at h
    · simp at h
    · rename_i h1 h2
      have h3 := fun j hj => chkFrom_all h j hj
      simp only [Nat.zero_add] at h3
      have h4 : ∀ j, j < s.length → ¬((j = 0 ∧ nth s j ≠ 0) ∨ (0 < j ∧ nth s j ≤ nth s (j - 1))) ∧ ¬(95 < nth s j ∨ nth p j < 0 ∨ 10000 < nth p j) := fun j hj => by
        have := h3 j hj
        unfold chkAt at this
        split at this
        · simp at this
        · split at this
          · simp at this
          · exact ⟨by assumption, by assumption⟩
      have h5 : nth s 0 = 0 := by have := h4 0 (by omega); omega
      have h6 : ∀ i, i + 1 < s.length → nth s i < nth s (i + 1) := fun i hi => by have := h4 (i + 1) hi; simp at this; omega
      have h7 : ∀ i, i < s.length → 0 ≤ nth s i := fun i => by
        induction i with
        | zero => omega
        | succ i ih => intro hi; have := ih (by omega); have := h6 i hi; omega
      exact ⟨by omega, by omega, by omega, h5, h6, fun i hi => ⟨h7 i hi, by have := h4 i hi; omega⟩, fun i hi => by have := h4 i hi; omega⟩

/-- What 'Price' answers. -/
def priceOf (s p : List Int) (t : Int) : V :=
  if chk s p ≠ 0 then .tuple [i64 0, i64 (chk s p)] else if t < 0 ∨ 16777216 < t then .tuple [i64 0, i64 6] else .tuple [i64 (pr s p t), i64 0]

theorem tmod_range {t n : Int} (h : 0 ≤ t) (hn : 0 < n) : 0 ≤ t.tmod n ∧ t.tmod n < n :=
  ⟨Int.tmod_nonneg _ h, Int.tmod_lt_of_pos _ hn⟩

theorem c_value_Price (s p : List Int) (t : Int) (G : List GObj) : Lim F 15 [trf s p, i64 t] G = some (priceOf s p t, G) :=
  eq_of rfl rfl (by
    by_cases hc : chk s p = 0
    · have hv := valid_of hc
      have hd := c_laid (p := p) hv.top hv.few []
      simp +contextual (disch := omega) [-getElem?_pos, -List.length_eq_zero_iff, -Int.natCast_eq_zero, wrap64, cond_yes, cond_yes2, int_beq, int_bne, v_value_Price, c_value_Check, hc, hd]
      refine cnd_bool (fun h => ?_) (fun h => ?_)
      · simp at h
        simp [priceOf, hc, h]
      · simp at h
        obtain ⟨h1, h2⟩ := tmod_range (t := t) (n := 96) (by omega) (by omega)
        have h3 : (t.tmod 96).toNat < 96 := by omega
        have h4 := li_lt (s := s) (k := t.tmod 96) hv.pos
        have h5 : li s (t.tmod 96) s.length < p.length := by rw [← hv.len]; exact h4
        have h6 : ((t.tmod 96).toNat : Int) = t.tmod 96 := by omega
        have h7 : ¬ (t < 0 ∨ 16777216 < t) := by omega
        simp [-getElem?_pos, h1, h2, h3, tab_get, day, h6, get_int, h5]
        simp [priceOf, hc, h7, pr]
    · simp +contextual (disch := omega) [-getElem?_pos, -List.length_eq_zero_iff, -Int.natCast_eq_zero, wrap64, cond_yes, cond_yes2, int_beq, int_bne, v_value_Price, c_value_Check, hc]
      simp [priceOf, hc])

theorem li_step {s : List Int} {k : Int} {m : Nat} : li s k (m + 1) = if nth s m ≤ k then m else li s k m := rfl

theorem c_r41_Price (s p : List Int) (t : Int) (G : List GObj) : Lim F 16 [trf s p, i64 t] G = some (priceOf s p t, G) :=
  eq_of rfl rfl (by
    by_cases hc : chk s p = 0
    · have hv := valid_of hc
      simp +contextual (disch := omega) [-getElem?_pos, -List.length_eq_zero_iff, -Int.natCast_eq_zero, wrap64, cond_yes, cond_yes2, int_beq, int_bne, v_r41_Price, c_r41_Check, hc]
      refine cnd_bool (fun h => ?_) (fun h => ?_)
      · simp at h
        simp [priceOf, hc, h]
      · simp at h
        obtain ⟨h1, h2⟩ := tmod_range (t := t) (n := 96) (by omega) (by omega)
        have h7 : ¬ (t < 0 ∨ 16777216 < t) := by omega
        refine go_loop (fun i : Nat => v_r41_Price_s0 t (if i = 0 then 0 else nth p (li s (t.tmod 96) i)) (ints s) s.length i [ints s, ints p] G) (fun i => i ≤ s.length) (fun i => s.length - i) 0 rfl (by simp) (by omega) ?_
        intro i hi
        have hl := hv.few
        have hpl := hv.len
        simp +contextual (disch := omega) [-getElem?_pos, -List.length_eq_zero_iff, -Int.natCast_eq_zero, wrap64, cond_yes, cond_yes2, int_beq, int_bne, v_r41_Price_b0]
        refine cnd_dec (fun h1 => ?_) (fun h1 => ?_)
        · have h1 : i < s.length := by omega
          simp +contextual (disch := omega) [-getElem?_pos, -List.length_eq_zero_iff, -Int.natCast_eq_zero, wrap64, cond_yes, cond_yes2, int_beq, int_bne, get_int]
          refine cnd_dec (fun h1 => ?_) (fun h1 => ?_)
          · refine rnd_next (i + 1) ?_ (by omega) (by omega)
            simp [li_step, h1]
          · refine rnd_next (i + 1) ?_ (by omega) (by omega)
            simp [li_step, h1]
            intro h0
            subst h0
            have := hv.zero
            omega
        · obtain rfl : i = s.length := by omega
          have h8 : s ≠ [] := fun e => by have := hv.pos; simp [e] at this
          simp [priceOf, hc, h7, pr, h8]
    · simp +contextual (disch := omega) [-getElem?_pos, -List.length_eq_zero_iff, -Int.natCast_eq_zero, wrap64, cond_yes, cond_yes2, int_beq, int_bne, v_r41_Price, c_r41_Check, hc]
      simp [priceOf, hc])
end Go.Proofs.Ytgocbbphpkbiaaa
