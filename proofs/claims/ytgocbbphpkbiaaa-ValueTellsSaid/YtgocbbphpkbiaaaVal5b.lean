/-
  The worth of few records: plain arithmetic.
-/
import Derived.Test.YtgocbbphpkbiaaaVal5
namespace Go.Proofs.Ytgocbbphpkbiaaa
open Go.Vm

theorem chkFrom_zero {s p : List Int} : ∀ {m i : Nat}, (∀ j, i ≤ j → j < i + m → chkAt s p j = 0) → chkFrom s p m i = 0
  | 0, _, _ => rfl
  | m + 1, i, h => by
    unfold chkFrom
    rw [if_pos (h i (by omega) (by omega))]
    exact chkFrom_zero fun j h1 h2 => h j (by omega) (by omega)

theorem chk_of {s p : List Int} (h : Valid s p) : chk s p = 0 := by
  have h1 := h.pos
  have h2 := h.len
  have h3 := h.few
  unfold chk
  rw [if_neg (by omega), if_neg (by omega)]
  refine chkFrom_zero fun j _ hj => ?_
  have h4 := h.top j (by omega)
  have h5 := h.price j (by omega)
  have h6 := h.zero
  unfold chkAt
  rw [if_neg, if_neg (by omega)]
  rintro (⟨rfl, h7⟩ | ⟨h7, h8⟩)
  · exact h7 h6
  · have := h.up (j - 1) (by omega)
    rw [show j - 1 + 1 = j by omega] at this
    omega

def small (l : List (List Rec)) : Prop := ∀ rs ∈ l, rs.length = 2 ∧ ∀ r ∈ rs, 0 ≤ r.power ∧ r.power < 100

def pow : List Rec → Int
  | [] => 0
  | r :: rs => r.power + pow rs
/-- The worth of some steps. -/
def W (s p : List Int) (t : Int) : List (List Rec) → Int
  | [] => 0
  | rs :: l => pr s p t * pow rs + W s p (t + 1) l

theorem pow_range : ∀ {rs : List Rec}, (∀ r ∈ rs, 0 ≤ r.power ∧ r.power < 100) → 0 ≤ pow rs ∧ pow rs ≤ 100 * rs.length
  | [], _ => by simp [pow]
  | r :: rs, h => by
    have h1 := h r (by simp)
    have h2 := pow_range (rs := rs) fun r hr => h r (by simp [hr])
    simp [pow]
    omega

theorem wRec_pow {q : Int} (hq : 0 ≤ q ∧ q ≤ 38) : ∀ {rs : List Rec} {n : Int}, (∀ r ∈ rs, 0 ≤ r.power ∧ r.power < 100) → 0 ≤ n → n + 3800 * rs.length ≤ 1000000000 → wRec q rs n = some (n + q * pow rs)
  | [], n, _, _, _ => by simp [wRec, pow]
  | r :: rs, n, h, hn, hb => by
    have h1 := h r (by simp)
    simp only [List.length_cons] at hb
    have h3 : 0 ≤ r.power * q := Int.mul_nonneg h1.1 hq.1
    have h4 : r.power * q ≤ 100 * 38 := Int.mul_le_mul (by omega) hq.2 hq.1 (by omega)
    unfold wRec
    rw [if_neg (by omega), wrap64 (n := r.power * q) (by omega) (by omega), wrap64 (by omega) (by omega), wRec_pow hq (fun r hr => h r (by simp [hr])) (by omega) (by omega)]
    congr 1
    simp only [pow]
    rw [Int.mul_add, Int.mul_comm q r.power]
    omega

theorem pr_range {s p : List Int} (hv : Valid s p) (hp : ∀ i, i < p.length → nth p i ≤ 38) (t : Int) : 0 ≤ pr s p t ∧ pr s p t ≤ 38 := by
  have h1 := li_lt (s := s) (k := t.tmod 96) hv.pos
  have h2 := hv.price _ h1
  exact ⟨h2.1, hp _ (by have := hv.len; omega)⟩

theorem wAll_W {s p : List Int} (hv : Valid s p) (hp : ∀ i, i < p.length → nth p i ≤ 38) : ∀ {l : List (List Rec)} {t n : Int}, small l → 0 ≤ n → n + 7600 * l.length ≤ 1000000 → wAll s p t l n = some (n + W s p t l)
  | [], _, n, _, _, _ => by simp [wAll, W]
  | rs :: l, t, n, h, hn, hb => by
    obtain ⟨h1, h2⟩ := h rs (by simp)
    have h3 := pr_range hv hp t
    have h4 := pow_range h2
    rw [h1] at h4
    simp only [List.length_cons] at hb
    unfold wAll
    rw [wRec_pow h3 h2 hn (by rw [h1]; omega)]
    have h5 : 0 ≤ pr s p t * pow rs := Int.mul_nonneg h3.1 h4.1
    have h6 : pr s p t * pow rs ≤ 38 * 200 := Int.mul_le_mul h3.2 (by omega) h4.1 (by omega)
    simp only
    rw [wAll_W hv hp (fun x hx => h x (by simp [hx])) (by omega) (by omega)]
    simp only [W, Int.add_assoc]

theorem W_range {s p : List Int} (hv : Valid s p) (hp : ∀ i, i < p.length → nth p i ≤ 38) : ∀ {l : List (List Rec)} {t : Int}, small l → 0 ≤ W s p t l ∧ W s p t l ≤ 7600 * l.length
  | [], _, _ => by simp [W]
  | rs :: l, t, h => by
    obtain ⟨h1, h2⟩ := h rs (by simp)
    have h3 := pr_range hv hp t
    have h4 := pow_range h2
    rw [h1] at h4
    have h5 : 0 ≤ pr s p t * pow rs := Int.mul_nonneg h3.1 h4.1
    have h6 : pr s p t * pow rs ≤ 38 * 200 := Int.mul_le_mul h3.2 (by omega) h4.1 (by omega)
    have h7 := W_range hv hp (l := l) (t := t + 1) (fun x hx => h x (by simp [hx]))
    simp only [W, List.length_cons]
    omega

theorem worth_small {s p : List Int} (hv : Valid s p) (hp : ∀ i, i < p.length → nth p i ≤ 38) {l : List (List Rec)} (hs : small l) (hl : l.length ≤ 10) {t : Int} (ht : 0 ≤ t ∧ t ≤ 70000) : worthOf s p t l = .tuple [i64 (W s p t l), i64 0] := by
  have hb : ¬ big l = true := by
    simp only [big, List.any_eq_true, not_exists, not_and, decide_eq_true_eq]
    intro rs hrs
    have := (hs rs hrs).1
    omega
  simp only [worthOf]
  rw [if_neg (by simpa using chk_of hv), if_neg (by omega), if_neg hb, if_neg (by omega), wAll_W hv hp hs (by omega) (by omega)]
  simp

theorem W_append {s p : List Int} : ∀ {l m : List (List Rec)} {t : Int}, W s p t (l ++ m) = W s p t l + W s p (t + l.length) m
  | [], m, t => by simp [W]
  | rs :: l, m, t => by
    simp only [List.cons_append, W, W_append (l := l), List.length_cons, Int.natCast_add, Int.natCast_one]
    rw [show t + 1 + (l.length : Int) = t + ((l.length : Int) + 1) by omega]
    omega

theorem W_twice {s p : List Int} (hv : Valid s p) : ∀ {l : List (List Rec)} {t : Int}, W s (p.map fun n => 2 * n) t l = 2 * W s p t l
  | [], _ => by simp [W]
  | rs :: l, t => by
    have h1 := li_lt (s := s) (k := t.tmod 96) hv.pos
    have h2 : pr s (p.map fun n => 2 * n) t = 2 * pr s p t := by
      unfold pr nth
      rw [hv.len] at h1 ⊢
      simp only [List.getD, List.getElem?_map]
      rw [List.getElem?_eq_getElem h1]
      rfl
    simp only [W, h2, W_twice hv (l := l), Int.mul_add, Int.mul_assoc]

theorem Valid.twice {s p : List Int} (hv : Valid s p) (hp : ∀ i, i < p.length → nth p i ≤ 19) : Valid s (p.map fun n => 2 * n) ∧ ∀ i, i < (p.map fun n => 2 * n).length → nth (p.map fun n => 2 * n) i ≤ 38 := by
  have h1 : ∀ i, i < p.length → nth (p.map fun n => 2 * n) i = 2 * nth p i := fun i hi => by
    unfold nth
    simp only [List.getD, List.getElem?_map]
    rw [List.getElem?_eq_getElem hi]
    rfl
  have hl := hv.len
  refine ⟨⟨hv.pos, by simp [hl], hv.few, hv.zero, hv.up, hv.top, fun i hi => ?_⟩, fun i hi => ?_⟩
  · rw [h1 i (by omega)]
    have := hv.price i hi
    have := hp i (by omega)
    omega
  · simp at hi
    rw [h1 i hi]
    have := hp i hi
    omega

theorem take_nth {α : Type} [Inhabited α] {l : List α} {i : Nat} (h : i < l.length) : l.take (i + 1) = l.take i ++ [nth l i] := by
  rw [List.take_add_one]
  simp [nth, List.getD, h]
theorem take_map_nth {α β : Type} [Inhabited α] {f : α → β} {l : List α} {i : Nat} (h : i < l.length) : (l.map f).take (i + 1) = (l.map f).take i ++ [f (nth l i)] := by
  rw [List.take_add_one]
  simp [nth, List.getD, h]
end Go.Proofs.Ytgocbbphpkbiaaa
