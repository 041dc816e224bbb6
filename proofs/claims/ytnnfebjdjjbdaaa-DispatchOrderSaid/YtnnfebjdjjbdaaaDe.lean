/-
  Parts of the proof, joined: Ord1, Ord2.
-/
import Derived.Test.YtnnfebjdjjbdaaaDb
namespace Go.Proofs.Ytnnfebjdjjbdaaa
set_option linter.all false
open Go.Vm

theorem lexC_asym : ∀ {p q : List Int}, lexC p q < 0 → ¬lexC q p < 0
  | [], [], h => by simp [lexC] at h
  | [], _ :: _, _ => by simp [lexC]
  | _ :: _, [], h => by simp [lexC] at h
  | a :: p, b :: q, h => by
    have ih := lexC_asym (p := p) (q := q)
    simp only [lexC] at h ⊢
    rcases Int.lt_trichotomy a b with h1 | h1 | h1
    · rw [if_neg (by omega), if_pos h1]; omega
    · subst h1
      simp only [Int.lt_irrefl, if_false] at h ⊢
      exact ih h
    · rw [if_neg (by omega), if_pos h1] at h; omega
theorem lexC_trans : ∀ {p q r : List Int}, lexC p q < 0 → lexC q r < 0 → lexC p r < 0
  | [], [], _, h, _ => by simp [lexC] at h
  | _ :: _, [], _, h, _ => by simp [lexC] at h
  | _, _ :: _, [], _, h => by simp [lexC] at h
  | [], _ :: _, _ :: _, _, _ => by simp [lexC]
  | a :: p, b :: q, c :: r, h, h' => by
    have ih := lexC_trans (p := p) (q := q) (r := r)
    simp only [lexC] at h h' ⊢
    rcases Int.lt_trichotomy a b with h1 | h1 | h1
    · rcases Int.lt_trichotomy b c with h2 | h2 | h2
      · rw [if_pos (by omega)]; omega
      · rw [if_pos (by omega)]; omega
      · rw [if_neg (by omega), if_pos h2] at h'; omega
    · subst h1
      simp only [Int.lt_irrefl, if_false] at h
      rcases Int.lt_trichotomy a c with h2 | h2 | h2
      · rw [if_pos h2]; omega
      · subst h2
        simp only [Int.lt_irrefl, if_false] at h' ⊢
        exact ih h h'
      · rw [if_neg (by omega), if_pos h2] at h'; omega
    · rw [if_neg (by omega), if_pos h1] at h; omega
theorem bet_asym {a b : Int × Int} {p q : List Int} (h : betP a b p q) : ¬betP b a q p := by
  rw [bet_iff] at h ⊢
  unfold vgt at h ⊢
  have := lexC_asym (p := p) (q := q)
  rcases h with h | ⟨h1, h2, h3⟩
  · omega
  · have := this h3; omega
theorem bet_trans {a b c : Int × Int} {p q r : List Int} (h : betP a b p q) (h' : betP b c q r) : betP a c p r := by
  rw [bet_iff] at h h' ⊢
  unfold vgt at h h' ⊢
  have := lexC_trans (p := p) (q := q) (r := r)
  rcases h with h | ⟨h1, h2, h3⟩
  · omega
  · rcases h' with h' | ⟨h4, h5, h6⟩
    · omega
    · have := this h3 h6
      omega
theorem bet_irr {a : Int × Int} {p : List Int} : ¬betP a a p p := fun h => bet_asym h h

theorem c_Same (p q : List Int) (hp : p.length ≤ 4294967296) (G : List GObj) : Lim F 14 [ints p, ints q] G = some (.bool (decide (p = q)), G) :=
  eq_of rfl rfl (by
    generalize hW : decide (p = q) = W
    by_cases hl : p.length = q.length
    · simp +contextual (disch := omega) [-getElem?_pos, -List.length_eq_zero_iff, -Int.natCast_eq_zero, wrap64, cond_yes, cond_yes2, int_beq, int_bne, v_r01_Same, hl]
      refine go_loop (fun i : Nat => v_r01_Same_s0 (ints p) (ints q) p.length i G) (fun i => i ≤ p.length ∧ p.take i = q.take i) (fun i => p.length - i) 0 rfl (by simp [hl]) ⟨by omega, by simp⟩ ?_
      rintro i ⟨hi, ht⟩
      simp +contextual (disch := omega) [-getElem?_pos, -List.length_eq_zero_iff, -Int.natCast_eq_zero, wrap64, cond_yes, cond_yes2, int_beq, int_bne, v_r01_Same_b0]
      refine cnd_dec (fun h1 => ?_) (fun h1 => ?_)
      · have h1 : i < p.length := by omega
        have h2 : i < q.length := by omega
        simp +contextual (disch := omega) [-getElem?_pos, -List.length_eq_zero_iff, -Int.natCast_eq_zero, wrap64, cond_yes, cond_yes2, int_beq, int_bne, get_int h1, get_int h2]
        by_cases h3 : nth p i = nth q i
        · simp +contextual (disch := omega) [-getElem?_pos, -List.length_eq_zero_iff, -Int.natCast_eq_zero, wrap64, cond_yes, cond_yes2, int_beq, int_bne, h3]
          exact rnd_next (i + 1) (by simp) ⟨by omega, by rw [take_snoc h1, take_snoc h2, ht, h3]⟩ (by omega)
        · simp +contextual (disch := omega) [-getElem?_pos, -List.length_eq_zero_iff, -Int.natCast_eq_zero, wrap64, cond_yes, cond_yes2, int_beq, int_bne, h3]
          rw [← hW, decide_eq_false]
          rintro rfl
          exact h3 rfl
      · obtain rfl : i = p.length := by omega
        rw [List.take_length, hl, List.take_length] at ht
        rw [← hW, decide_eq_true ht]
    · have : ¬p = q := fun e => hl (by rw [e])
      rw [← hW, decide_eq_false this]
      simp +contextual (disch := omega) [-getElem?_pos, -List.length_eq_zero_iff, -Int.natCast_eq_zero, wrap64, cond_yes, cond_yes2, int_beq, int_bne, v_r01_Same]
      refine cnd_bool (fun h => trivial) (fun h => ?_)
      simp [-List.length_eq_zero_iff, -Int.natCast_eq_zero] at h
      omega)

theorem c_mk_Flows {l : List Int} {k : Nat} (hd : okd l k) {n : Nat} {m : Int} (hn : n ≤ 1000) (hm : m ≤ 1000000) : ∃ f k', Lim F 12 [.gptr 0 0, i64 n, i64 m] [dk l k] = some (own f, [dk l k']) ∧ okd l k' ∧ f.length = n := by
  suffices h : ∀ Q : V → List GObj → Prop, (∀ f k', okd l k' → f.length = n → Q (own f) [dk l k']) → Ret (Lim F) 12 [.gptr 0 0, i64 n, i64 m] [dk l k] Q by
    obtain ⟨_, _, h, f, k', rfl, rfl, h1⟩ := h (fun v G => ∃ f k', v = own f ∧ G = [dk l k'] ∧ okd l k' ∧ f.length = n) fun f k' h1 h2 => ⟨f, k', rfl, rfl, h1, h2⟩
    exact ⟨f, k', h, h1⟩
  intro Q hQ
  refine ret_of rfl rfl ?_
  simp +contextual (disch := omega) [-getElem?_pos, -List.length_eq_zero_iff, -Int.natCast_eq_zero, wrap64, cond_yes, cond_yes2, int_beq, int_bne, v_mk_Flows]
  refine go_loop (fun s : List Int × Nat => v_mk_Flows_s0 (.gptr 0 0) m (.slice (some 1016) 1 (s.1.map fun n => [i64 n])) n s.1.length s.1.length [dk l s.2])
    (fun s => s.1.length ≤ n ∧ okd l s.2) (fun s => n - s.1.length) ([], k) rfl (by simp) ⟨by simp, hd⟩ ?_
  rintro ⟨f, k⟩ ⟨h1, hd⟩
  simp only at h1 hd
  obtain ⟨a, k2, n2, hd2, ha⟩ := c_Next hd m (by omega)
  simp +contextual (disch := omega) [-getElem?_pos, -List.length_eq_zero_iff, -Int.natCast_eq_zero, wrap64, cond_yes, cond_yes2, int_beq, int_bne, v_mk_Flows_b0]
  refine cnd_dec (fun h4 => ?_) (fun h4 => ?_)
  · simp +contextual (disch := omega) [-getElem?_pos, -List.length_eq_zero_iff, -Int.natCast_eq_zero, wrap64, cond_yes, cond_yes2, int_beq, int_bne, n2]
    exact rnd_next (f ++ [a], k2) (by simp) ⟨by simp; omega, hd2⟩ (by simp; omega)
  · exact hQ f k hd (by omega)

set_option maxRecDepth 100000 in
theorem c_awake19 : Lim F 15 [] [] = some (.bool true, []) := lim_iff.2 ⟨100, by kernel_rfl⟩

end Go.Proofs.Ytnnfebjdjjbdaaa
namespace Go.Proofs.Ytnnfebjdjjbdaaa
set_option linter.all false
open Go.Vm

/-- Two values and lists, and what the program says of them both ways. -/
theorem pair_facts {a b : Int × Int} {p q : List Int} (h : p.length = q.length) :
    (decide (betP a b p q) = true ∧ decide (betP b a q p) = false ∧ (decide (a.1 = b.1) && decide (a.2 = b.2) && decide (p = q)) = false) ∨
    (decide (betP a b p q) = false ∧ decide (betP b a q p) = true ∧ (decide (a.1 = b.1) && decide (a.2 = b.2) && decide (p = q)) = false) ∨
    (decide (betP a b p q) = false ∧ decide (betP b a q p) = false ∧ (decide (a.1 = b.1) = true ∧ decide (a.2 = b.2) = true ∧ decide (p = q) = true)) := by
  have key : ∀ {a b : Int × Int} {p q : List Int}, betP a b p q → (decide (a.1 = b.1) && decide (a.2 = b.2) && decide (p = q)) = false := by
    intro a b p q hb
    apply Bool.eq_false_iff.2
    intro e
    simp only [Bool.and_eq_true, decide_eq_true_eq] at e
    obtain ⟨⟨e1, e2⟩, rfl⟩ := e
    have : a = b := Prod.ext e1 e2
    subst this
    exact bet_irr hb
  rcases bet_total (a := a) (b := b) h with h1 | h1 | h1
  · exact .inl ⟨decide_eq_true h1, decide_eq_false (bet_asym h1), key h1⟩
  · refine .inr (.inl ⟨decide_eq_false (bet_asym h1), decide_eq_true h1, ?_⟩)
    have := key h1
    rw [← this]
    congr 1
    · congr 1 <;> exact decide_eq_decide.2 ⟨Eq.symm, Eq.symm⟩
    · exact decide_eq_decide.2 ⟨Eq.symm, Eq.symm⟩
  · obtain ⟨rfl, rfl⟩ := h1
    exact .inr (.inr ⟨decide_eq_false bet_irr, decide_eq_false bet_irr, by simp⟩)

set_option maxRecDepth 100000 in
set_option maxHeartbeats 4000000 in
theorem order_walk {l : List Int} (hl : l.length ≤ 9223372036854775807) : ∃ G', Lim F 3 [ints l] [] = some (.bool true, G') := by
  suffices h : Ret (Lim F) 3 [ints l] [] fun v G => v = .bool true by
    obtain ⟨_, G, h, rfl⟩ := h
    exact ⟨G, h⟩
  refine ret_of rfl rfl ?_
  obtain ⟨n, k1, n1, hd1, hn⟩ := c_Next (l := l) (k := 0) ⟨by omega, hl⟩ 4 (by omega)
  obtain ⟨n, rfl⟩ : ∃ m : Nat, n = m := ⟨n.toNat, by omega⟩
  obtain ⟨a0, k2, n2, hd2, _⟩ := c_Next hd1 3 (by omega)
  obtain ⟨b0, k3, n3, hd3, _⟩ := c_Next hd2 2 (by omega)
  obtain ⟨p0, k4, n4, hd4, hp0⟩ := c_mk_Flows hd3 (n := n) (m := 3) (by omega) (by omega)
  obtain ⟨a1, k5, n5, hd5, _⟩ := c_Next hd4 3 (by omega)
  obtain ⟨b1, k6, n6, hd6, _⟩ := c_Next hd5 2 (by omega)
  obtain ⟨p1, k7, n7, hd7, hp1⟩ := c_mk_Flows hd6 (n := n) (m := 3) (by omega) (by omega)
  obtain ⟨a2, k8, n8, hd8, _⟩ := c_Next hd7 3 (by omega)
  obtain ⟨b2, k9, n9, hd9, _⟩ := c_Next hd8 2 (by omega)
  obtain ⟨p2, k10, n10, hd10, hp2⟩ := c_mk_Flows hd9 (n := n) (m := 3) (by omega) (by omega)
  simp +contextual (disch := omega) [-getElem?_pos, -List.length_eq_zero_iff, -Int.natCast_eq_zero, wrap64, cond_yes, cond_yes2, int_beq, int_bne, v_w19_DispatchOrder, c_New, n1, v_w19_DispatchOrder_l0, v_w19_DispatchOrder_b0, go_unroll, n2, n3, n4, n5, n6, n7, n8, n9, n10]
  have l0 : p0.length = p1.length := by omega
  have l1 : p1.length = p2.length := by omega
  have l2 : p0.length = p2.length := by omega
  have f01 := pair_facts (a := (a0, b0)) (b := (a1, b1)) l0
  have f12 := pair_facts (a := (a1, b1)) (b := (a2, b2)) l1
  have f02 := pair_facts (a := (a0, b0)) (b := (a2, b2)) l2
  have tr : betP (a0, b0) (a1, b1) p0 p1 → betP (a1, b1) (a2, b2) p1 p2 → betP (a0, b0) (a2, b2) p0 p2 := bet_trans
  have hB := fun (a b : Int × Int) (p q : List Int) (h : p.length = n) => c_dispatch_Better a b p q (by omega) []
  have hS := fun (p q : List Int) (h : p.length = n) => c_Same p q (by omega) []
  refine go_loop (fun i : Nat => v_w19_DispatchOrder_s2 i [i64 a0, i64 b0, i64 a1, i64 b1, i64 a2, i64 b2] [ints p0, ints p1, ints p2] [dk l k10]) (fun i => i ≤ 3) (fun i => 3 - i) 0 rfl (by simp) (by omega) ?_
  intro i hi
  simp +contextual (disch := omega) [-getElem?_pos, -List.length_eq_zero_iff, -Int.natCast_eq_zero, wrap64, cond_yes, cond_yes2, int_beq, int_bne, v_w19_DispatchOrder_b2]
  refine cnd_dec (fun h1 => ?_) (fun h1 => ?_)
  · have h1 : i < 3 := by omega
    refine go_loop (fun k : Nat => v_w19_DispatchOrder_s1 i i k [i64 a0, i64 b0, i64 a1, i64 b1, i64 a2, i64 b2] [ints p0, ints p1, ints p2] [dk l k10]) (fun k => k ≤ 3) (fun k => 3 - k) 0 rfl (by simp) (by omega) ?_
    intro k hk
    simp +contextual (disch := omega) [-getElem?_pos, -List.length_eq_zero_iff, -Int.natCast_eq_zero, wrap64, cond_yes, cond_yes2, int_beq, int_bne, v_w19_DispatchOrder_b1]
    refine cnd_dec (fun h2 => ?_) (fun h2 => ?_)
    · have h2 : k < 3 := by omega
      rcases (by omega : i = 0 ∨ i = 1 ∨ i = 2) with rfl | rfl | rfl
      · rcases (by omega : k = 0 ∨ k = 1 ∨ k = 2) with rfl | rfl | rfl
        · have hB1 := hB (a0, b0) (a0, b0) p0 p0 hp0
          rw [decide_eq_false bet_irr] at hB1
          have hS1 := hS p0 p0 hp0
          rw [decide_eq_true rfl] at hS1
          simp +contextual (disch := omega) [-getElem?_pos, -List.length_eq_zero_iff, -Int.natCast_eq_zero, wrap64, cond_yes, cond_yes2, int_beq, int_bne, hB1, hS1, V.aeq, eqCells, eqCell]
          exact rnd_next 1 (by simp) (by omega) (by omega)
        · have hB1 := hB (a0, b0) (a1, b1) p0 p1 hp0
          have hB2 := hB (a1, b1) (a0, b0) p1 p0 hp1
          have hS1 := hS p0 p1 hp0
          rcases pair_facts (a := (a0, b0)) (b := (a1, b1)) (p := p0) (q := p1) (by omega) with ⟨x, y, z⟩ | ⟨x, y, z⟩ | ⟨x, y, z1, z2, z3⟩
          · rw [x] at hB1
            rw [y] at hB2
            simp only at z
            cases hz : (decide (a0 = a1) && decide (b0 = b1)) with
            | false =>
              simp +contextual (disch := omega) [-getElem?_pos, -List.length_eq_zero_iff, -Int.natCast_eq_zero, wrap64, cond_yes, cond_yes2, int_beq, int_bne, hB1, hB2, V.aeq, eqCells, eqCell, hz]
              exact rnd_next 2 (by simp) (by omega) (by omega)
            | true =>
              rw [hz, Bool.true_and] at z
              rw [z] at hS1
              simp +contextual (disch := omega) [-getElem?_pos, -List.length_eq_zero_iff, -Int.natCast_eq_zero, wrap64, cond_yes, cond_yes2, int_beq, int_bne, hB1, hB2, V.aeq, eqCells, eqCell, hz, hS1]
              exact rnd_next 2 (by simp) (by omega) (by omega)
          · rw [x] at hB1
            rw [y] at hB2
            simp only at z
            cases hz : (decide (a0 = a1) && decide (b0 = b1)) with
            | false =>
              simp +contextual (disch := omega) [-getElem?_pos, -List.length_eq_zero_iff, -Int.natCast_eq_zero, wrap64, cond_yes, cond_yes2, int_beq, int_bne, hB1, hB2, V.aeq, eqCells, eqCell, hz]
              exact rnd_next 2 (by simp) (by omega) (by omega)
            | true =>
              rw [hz, Bool.true_and] at z
              rw [z] at hS1
              simp +contextual (disch := omega) [-getElem?_pos, -List.length_eq_zero_iff, -Int.natCast_eq_zero, wrap64, cond_yes, cond_yes2, int_beq, int_bne, hB1, hB2, V.aeq, eqCells, eqCell, hz, hS1]
              exact rnd_next 2 (by simp) (by omega) (by omega)
          · rw [x] at hB1
            rw [y] at hB2
            rw [z3] at hS1
            have hz : (decide (a0 = a1) && decide (b0 = b1)) = true := by rw [z1, z2]; rfl
            simp +contextual (disch := omega) [-getElem?_pos, -List.length_eq_zero_iff, -Int.natCast_eq_zero, wrap64, cond_yes, cond_yes2, int_beq, int_bne, hB1, hB2, V.aeq, eqCells, eqCell, hz, hS1]
            exact rnd_next 2 (by simp) (by omega) (by omega)
        · have hB1 := hB (a0, b0) (a2, b2) p0 p2 hp0
          have hB2 := hB (a2, b2) (a0, b0) p2 p0 hp2
          have hS1 := hS p0 p2 hp0
          rcases pair_facts (a := (a0, b0)) (b := (a2, b2)) (p := p0) (q := p2) (by omega) with ⟨x, y, z⟩ | ⟨x, y, z⟩ | ⟨x, y, z1, z2, z3⟩
          · rw [x] at hB1
            rw [y] at hB2
            simp only at z
            cases hz : (decide (a0 = a2) && decide (b0 = b2)) with
            | false =>
              simp +contextual (disch := omega) [-getElem?_pos, -List.length_eq_zero_iff, -Int.natCast_eq_zero, wrap64, cond_yes, cond_yes2, int_beq, int_bne, hB1, hB2, V.aeq, eqCells, eqCell, hz]
              exact rnd_next 3 (by simp) (by omega) (by omega)
            | true =>
              rw [hz, Bool.true_and] at z
              rw [z] at hS1
              simp +contextual (disch := omega) [-getElem?_pos, -List.length_eq_zero_iff, -Int.natCast_eq_zero, wrap64, cond_yes, cond_yes2, int_beq, int_bne, hB1, hB2, V.aeq, eqCells, eqCell, hz, hS1]
              exact rnd_next 3 (by simp) (by omega) (by omega)
          · rw [x] at hB1
            rw [y] at hB2
            simp only at z
            cases hz : (decide (a0 = a2) && decide (b0 = b2)) with
            | false =>
              simp +contextual (disch := omega) [-getElem?_pos, -List.length_eq_zero_iff, -Int.natCast_eq_zero, wrap64, cond_yes, cond_yes2, int_beq, int_bne, hB1, hB2, V.aeq, eqCells, eqCell, hz]
              exact rnd_next 3 (by simp) (by omega) (by omega)
            | true =>
              rw [hz, Bool.true_and] at z
              rw [z] at hS1
              simp +contextual (disch := omega) [-getElem?_pos, -List.length_eq_zero_iff, -Int.natCast_eq_zero, wrap64, cond_yes, cond_yes2, int_beq, int_bne, hB1, hB2, V.aeq, eqCells, eqCell, hz, hS1]
              exact rnd_next 3 (by simp) (by omega) (by omega)
          · rw [x] at hB1
            rw [y] at hB2
            rw [z3] at hS1
            have hz : (decide (a0 = a2) && decide (b0 = b2)) = true := by rw [z1, z2]; rfl
            simp +contextual (disch := omega) [-getElem?_pos, -List.length_eq_zero_iff, -Int.natCast_eq_zero, wrap64, cond_yes, cond_yes2, int_beq, int_bne, hB1, hB2, V.aeq, eqCells, eqCell, hz, hS1]
            exact rnd_next 3 (by simp) (by omega) (by omega)
      · rcases (by omega : k = 0 ∨ k = 1 ∨ k = 2) with rfl | rfl | rfl
        · have hB1 := hB (a1, b1) (a0, b0) p1 p0 hp1
          have hB2 := hB (a0, b0) (a1, b1) p0 p1 hp0
          have hS1 := hS p1 p0 hp1
          rcases pair_facts (a := (a1, b1)) (b := (a0, b0)) (p := p1) (q := p0) (by omega) with ⟨x, y, z⟩ | ⟨x, y, z⟩ | ⟨x, y, z1, z2, z3⟩
          · rw [x] at hB1
            rw [y] at hB2
            simp only at z
            cases hz : (decide (a1 = a0) && decide (b1 = b0)) with
            | false =>
              simp +contextual (disch := omega) [-getElem?_pos, -List.length_eq_zero_iff, -Int.natCast_eq_zero, wrap64, cond_yes, cond_yes2, int_beq, int_bne, hB1, hB2, V.aeq, eqCells, eqCell, hz]
              exact rnd_next 1 (by simp) (by omega) (by omega)
            | true =>
              rw [hz, Bool.true_and] at z
              rw [z] at hS1
              simp +contextual (disch := omega) [-getElem?_pos, -List.length_eq_zero_iff, -Int.natCast_eq_zero, wrap64, cond_yes, cond_yes2, int_beq, int_bne, hB1, hB2, V.aeq, eqCells, eqCell, hz, hS1]
              exact rnd_next 1 (by simp) (by omega) (by omega)
          · rw [x] at hB1
            rw [y] at hB2
            simp only at z
            cases hz : (decide (a1 = a0) && decide (b1 = b0)) with
            | false =>
              simp +contextual (disch := omega) [-getElem?_pos, -List.length_eq_zero_iff, -Int.natCast_eq_zero, wrap64, cond_yes, cond_yes2, int_beq, int_bne, hB1, hB2, V.aeq, eqCells, eqCell, hz]
              exact rnd_next 1 (by simp) (by omega) (by omega)
            | true =>
              rw [hz, Bool.true_and] at z
              rw [z] at hS1
              simp +contextual (disch := omega) [-getElem?_pos, -List.length_eq_zero_iff, -Int.natCast_eq_zero, wrap64, cond_yes, cond_yes2, int_beq, int_bne, hB1, hB2, V.aeq, eqCells, eqCell, hz, hS1]
              exact rnd_next 1 (by simp) (by omega) (by omega)
          · rw [x] at hB1
            rw [y] at hB2
            rw [z3] at hS1
            have hz : (decide (a1 = a0) && decide (b1 = b0)) = true := by rw [z1, z2]; rfl
            simp +contextual (disch := omega) [-getElem?_pos, -List.length_eq_zero_iff, -Int.natCast_eq_zero, wrap64, cond_yes, cond_yes2, int_beq, int_bne, hB1, hB2, V.aeq, eqCells, eqCell, hz, hS1]
            exact rnd_next 1 (by simp) (by omega) (by omega)
        · have hB1 := hB (a1, b1) (a1, b1) p1 p1 hp1
          rw [decide_eq_false bet_irr] at hB1
          have hS1 := hS p1 p1 hp1
          rw [decide_eq_true rfl] at hS1
          simp +contextual (disch := omega) [-getElem?_pos, -List.length_eq_zero_iff, -Int.natCast_eq_zero, wrap64, cond_yes, cond_yes2, int_beq, int_bne, hB1, hS1, V.aeq, eqCells, eqCell]
          exact rnd_next 2 (by simp) (by omega) (by omega)
        · have hB1 := hB (a1, b1) (a2, b2) p1 p2 hp1
          have hB2 := hB (a2, b2) (a1, b1) p2 p1 hp2
          have hS1 := hS p1 p2 hp1
          rcases pair_facts (a := (a1, b1)) (b := (a2, b2)) (p := p1) (q := p2) (by omega) with ⟨x, y, z⟩ | ⟨x, y, z⟩ | ⟨x, y, z1, z2, z3⟩
          · rw [x] at hB1
            rw [y] at hB2
            simp only at z
            cases hz : (decide (a1 = a2) && decide (b1 = b2)) with
            | false =>
              simp +contextual (disch := omega) [-getElem?_pos, -List.length_eq_zero_iff, -Int.natCast_eq_zero, wrap64, cond_yes, cond_yes2, int_beq, int_bne, hB1, hB2, V.aeq, eqCells, eqCell, hz]
              exact rnd_next 3 (by simp) (by omega) (by omega)
            | true =>
              rw [hz, Bool.true_and] at z
              rw [z] at hS1
              simp +contextual (disch := omega) [-getElem?_pos, -List.length_eq_zero_iff, -Int.natCast_eq_zero, wrap64, cond_yes, cond_yes2, int_beq, int_bne, hB1, hB2, V.aeq, eqCells, eqCell, hz, hS1]
              exact rnd_next 3 (by simp) (by omega) (by omega)
          · rw [x] at hB1
            rw [y] at hB2
            simp only at z
            cases hz : (decide (a1 = a2) && decide (b1 = b2)) with
            | false =>
              simp +contextual (disch := omega) [-getElem?_pos, -List.length_eq_zero_iff, -Int.natCast_eq_zero, wrap64, cond_yes, cond_yes2, int_beq, int_bne, hB1, hB2, V.aeq, eqCells, eqCell, hz]
              exact rnd_next 3 (by simp) (by omega) (by omega)
            | true =>
              rw [hz, Bool.true_and] at z
              rw [z] at hS1
              simp +contextual (disch := omega) [-getElem?_pos, -List.length_eq_zero_iff, -Int.natCast_eq_zero, wrap64, cond_yes, cond_yes2, int_beq, int_bne, hB1, hB2, V.aeq, eqCells, eqCell, hz, hS1]
              exact rnd_next 3 (by simp) (by omega) (by omega)
          · rw [x] at hB1
            rw [y] at hB2
            rw [z3] at hS1
            have hz : (decide (a1 = a2) && decide (b1 = b2)) = true := by rw [z1, z2]; rfl
            simp +contextual (disch := omega) [-getElem?_pos, -List.length_eq_zero_iff, -Int.natCast_eq_zero, wrap64, cond_yes, cond_yes2, int_beq, int_bne, hB1, hB2, V.aeq, eqCells, eqCell, hz, hS1]
            exact rnd_next 3 (by simp) (by omega) (by omega)
      · rcases (by omega : k = 0 ∨ k = 1 ∨ k = 2) with rfl | rfl | rfl
        · have hB1 := hB (a2, b2) (a0, b0) p2 p0 hp2
          have hB2 := hB (a0, b0) (a2, b2) p0 p2 hp0
          have hS1 := hS p2 p0 hp2
          rcases pair_facts (a := (a2, b2)) (b := (a0, b0)) (p := p2) (q := p0) (by omega) with ⟨x, y, z⟩ | ⟨x, y, z⟩ | ⟨x, y, z1, z2, z3⟩
          · rw [x] at hB1
            rw [y] at hB2
            simp only at z
            cases hz : (decide (a2 = a0) && decide (b2 = b0)) with
            | false =>
              simp +contextual (disch := omega) [-getElem?_pos, -List.length_eq_zero_iff, -Int.natCast_eq_zero, wrap64, cond_yes, cond_yes2, int_beq, int_bne, hB1, hB2, V.aeq, eqCells, eqCell, hz]
              exact rnd_next 1 (by simp) (by omega) (by omega)
            | true =>
              rw [hz, Bool.true_and] at z
              rw [z] at hS1
              simp +contextual (disch := omega) [-getElem?_pos, -List.length_eq_zero_iff, -Int.natCast_eq_zero, wrap64, cond_yes, cond_yes2, int_beq, int_bne, hB1, hB2, V.aeq, eqCells, eqCell, hz, hS1]
              exact rnd_next 1 (by simp) (by omega) (by omega)
          · rw [x] at hB1
            rw [y] at hB2
            simp only at z
            cases hz : (decide (a2 = a0) && decide (b2 = b0)) with
            | false =>
              simp +contextual (disch := omega) [-getElem?_pos, -List.length_eq_zero_iff, -Int.natCast_eq_zero, wrap64, cond_yes, cond_yes2, int_beq, int_bne, hB1, hB2, V.aeq, eqCells, eqCell, hz]
              exact rnd_next 1 (by simp) (by omega) (by omega)
            | true =>
              rw [hz, Bool.true_and] at z
              rw [z] at hS1
              simp +contextual (disch := omega) [-getElem?_pos, -List.length_eq_zero_iff, -Int.natCast_eq_zero, wrap64, cond_yes, cond_yes2, int_beq, int_bne, hB1, hB2, V.aeq, eqCells, eqCell, hz, hS1]
              exact rnd_next 1 (by simp) (by omega) (by omega)
          · rw [x] at hB1
            rw [y] at hB2
            rw [z3] at hS1
            have hz : (decide (a2 = a0) && decide (b2 = b0)) = true := by rw [z1, z2]; rfl
            simp +contextual (disch := omega) [-getElem?_pos, -List.length_eq_zero_iff, -Int.natCast_eq_zero, wrap64, cond_yes, cond_yes2, int_beq, int_bne, hB1, hB2, V.aeq, eqCells, eqCell, hz, hS1]
            exact rnd_next 1 (by simp) (by omega) (by omega)
        · have hB1 := hB (a2, b2) (a1, b1) p2 p1 hp2
          have hB2 := hB (a1, b1) (a2, b2) p1 p2 hp1
          have hS1 := hS p2 p1 hp2
          rcases pair_facts (a := (a2, b2)) (b := (a1, b1)) (p := p2) (q := p1) (by omega) with ⟨x, y, z⟩ | ⟨x, y, z⟩ | ⟨x, y, z1, z2, z3⟩
          · rw [x] at hB1
            rw [y] at hB2
            simp only at z
            cases hz : (decide (a2 = a1) && decide (b2 = b1)) with
            | false =>
              simp +contextual (disch := omega) [-getElem?_pos, -List.length_eq_zero_iff, -Int.natCast_eq_zero, wrap64, cond_yes, cond_yes2, int_beq, int_bne, hB1, hB2, V.aeq, eqCells, eqCell, hz]
              exact rnd_next 2 (by simp) (by omega) (by omega)
            | true =>
              rw [hz, Bool.true_and] at z
              rw [z] at hS1
              simp +contextual (disch := omega) [-getElem?_pos, -List.length_eq_zero_iff, -Int.natCast_eq_zero, wrap64, cond_yes, cond_yes2, int_beq, int_bne, hB1, hB2, V.aeq, eqCells, eqCell, hz, hS1]
              exact rnd_next 2 (by simp) (by omega) (by omega)
          · rw [x] at hB1
            rw [y] at hB2
            simp only at z
            cases hz : (decide (a2 = a1) && decide (b2 = b1)) with
            | false =>
              simp +contextual (disch := omega) [-getElem?_pos, -List.length_eq_zero_iff, -Int.natCast_eq_zero, wrap64, cond_yes, cond_yes2, int_beq, int_bne, hB1, hB2, V.aeq, eqCells, eqCell, hz]
              exact rnd_next 2 (by simp) (by omega) (by omega)
            | true =>
              rw [hz, Bool.true_and] at z
              rw [z] at hS1
              simp +contextual (disch := omega) [-getElem?_pos, -List.length_eq_zero_iff, -Int.natCast_eq_zero, wrap64, cond_yes, cond_yes2, int_beq, int_bne, hB1, hB2, V.aeq, eqCells, eqCell, hz, hS1]
              exact rnd_next 2 (by simp) (by omega) (by omega)
          · rw [x] at hB1
            rw [y] at hB2
            rw [z3] at hS1
            have hz : (decide (a2 = a1) && decide (b2 = b1)) = true := by rw [z1, z2]; rfl
            simp +contextual (disch := omega) [-getElem?_pos, -List.length_eq_zero_iff, -Int.natCast_eq_zero, wrap64, cond_yes, cond_yes2, int_beq, int_bne, hB1, hB2, V.aeq, eqCells, eqCell, hz, hS1]
            exact rnd_next 2 (by simp) (by omega) (by omega)
        · have hB1 := hB (a2, b2) (a2, b2) p2 p2 hp2
          rw [decide_eq_false bet_irr] at hB1
          have hS1 := hS p2 p2 hp2
          rw [decide_eq_true rfl] at hS1
          simp +contextual (disch := omega) [-getElem?_pos, -List.length_eq_zero_iff, -Int.natCast_eq_zero, wrap64, cond_yes, cond_yes2, int_beq, int_bne, hB1, hS1, V.aeq, eqCells, eqCell]
          exact rnd_next 3 (by simp) (by omega) (by omega)
    · obtain rfl : k = 3 := by omega
      exact rnd_next (i + 1) (by simp) (by omega) (by omega)
  · have g1 := hB (a0, b0) (a1, b1) p0 p1 hp0
    have g2 := hB (a1, b1) (a2, b2) p1 p2 hp1
    have g3 := hB (a0, b0) (a2, b2) p0 p2 hp0
    by_cases e1 : betP (a0, b0) (a1, b1) p0 p1
    · by_cases e2 : betP (a1, b1) (a2, b2) p1 p2
      · rw [decide_eq_true e1] at g1
        rw [decide_eq_true e2] at g2
        rw [decide_eq_true (bet_trans e1 e2)] at g3
        simp (config := { maxSteps := 2000000 }) +contextual (disch := omega) [-getElem?_pos, -List.length_eq_zero_iff, -Int.natCast_eq_zero, wrap64, cond_yes, cond_yes2, int_beq, int_bne, g1, g2, g3, c_awake19]
      · rw [decide_eq_true e1] at g1
        rw [decide_eq_false e2] at g2
        simp (config := { maxSteps := 2000000 }) +contextual (disch := omega) [-getElem?_pos, -List.length_eq_zero_iff, -Int.natCast_eq_zero, wrap64, cond_yes, cond_yes2, int_beq, int_bne, g1, g2, g3, c_awake19]
    · rw [decide_eq_false e1] at g1
      simp (config := { maxSteps := 2000000 }) +contextual (disch := omega) [-getElem?_pos, -List.length_eq_zero_iff, -Int.natCast_eq_zero, wrap64, cond_yes, cond_yes2, int_beq, int_bne, g1, g2, g3, c_awake19]
end Go.Proofs.Ytnnfebjdjjbdaaa
