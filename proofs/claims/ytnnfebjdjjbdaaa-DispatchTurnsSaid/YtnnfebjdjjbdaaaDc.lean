/-
  Parts of the proof, joined: Ord1, Ref1, Ref2, Ref3, Rng1, More1, Grt1, Trn1, Bst1.
-/
import Derived.Test.YtnnfebjdjjbdaaaDb
namespace Go.Proofs.Ytnnfebjdjjbdaaa
set_option linter.all false
open Go.Vm

theorem lexC_asym : ∀ {p q : List Int}, lexC p q < 0 → ¬lexC q p < 0
  | [], [], h => by simp [lexC] at h
  | [], _ :: _, _ => by simp [lexC]
  | _ :: _, [], h => by simp [lexC] at h
  | a :: p, b :: q, h => by
    have ih := lexC_asym (p := p) (q := q)
    simp only [lexC] at h ⊢
    rcases Int.lt_trichotomy a b with h1 | h1 | h1
    · rw [if_neg (by omega), if_pos h1]; omega
    · subst h1
      simp only [Int.lt_irrefl, if_false] at h ⊢
      exact ih h
    · rw [if_neg (by omega), if_pos h1] at h; omega
theorem lexC_trans : ∀ {p q r : List Int}, lexC p q < 0 → lexC q r < 0 → lexC p r < 0
  | [], [], _, h, _ => by simp [lexC] at h
  | _ :: _, [], _, h, _ => by simp [lexC] at h
  | _, _ :: _, [], _, h => by simp [lexC] at h
  | [], _ :: _, _ :: _, _, _ => by simp [lexC]
  | a :: p, b :: q, c :: r, h, h' => by
    have ih := lexC_trans (p := p) (q := q) (r := r)
    simp only [lexC] at h h' ⊢
    rcases Int.lt_trichotomy a b with h1 | h1 | h1
    · rcases Int.lt_trichotomy b c with h2 | h2 | h2
      · rw [if_pos (by omega)]; omega
      · rw [if_pos (by omega)]; omega
      · rw [if_neg (by omega), if_pos h2] at h'; omega
    · subst h1
      simp only [Int.lt_irrefl, if_false] at h
      rcases Int.lt_trichotomy a c with h2 | h2 | h2
      · rw [if_pos h2]; omega
      · subst h2
        simp only [Int.lt_irrefl, if_false] at h' ⊢
        exact ih h h'
      · rw [if_neg (by omega), if_pos h2] at h'; omega
    · rw [if_neg (by omega), if_pos h1] at h; omega
theorem bet_asym {a b : Int × Int} {p q : List Int} (h : betP a b p q) : ¬betP b a q p := by
  rw [bet_iff] at h ⊢
  unfold vgt at h ⊢
  have := lexC_asym (p := p) (q := q)
  rcases h with h | ⟨h1, h2, h3⟩
  · omega
  · have := this h3; omega
theorem bet_trans {a b c : Int × Int} {p q r : List Int} (h : betP a b p q) (h' : betP b c q r) : betP a c p r := by
  rw [bet_iff] at h h' ⊢
  unfold vgt at h h' ⊢
  have := lexC_trans (p := p) (q := q) (r := r)
  rcases h with h | ⟨h1, h2, h3⟩
  · omega
  · rcases h' with h' | ⟨h4, h5, h6⟩
    · omega
    · have := this h3 h6
      omega
theorem bet_irr {a : Int × Int} {p : List Int} : ¬betP a a p p := fun h => bet_asym h h

theorem c_Same (p q : List Int) (hp : p.length ≤ 4294967296) (G : List GObj) : Lim F 14 [ints p, ints q] G = some (.bool (decide (p = q)), G) :=
  eq_of rfl rfl (by
    generalize hW : decide (p = q) = W
    by_cases hl : p.length = q.length
    · simp +contextual (disch := omega) [-getElem?_pos, -List.length_eq_zero_iff, -Int.natCast_eq_zero, wrap64, cond_yes, cond_yes2, int_beq, int_bne, v_r01_Same, hl]
      refine go_loop (fun i : Nat => v_r01_Same_s0 (ints p) (ints q) p.length i G) (fun i => i ≤ p.length ∧ p.take i = q.take i) (fun i => p.length - i) 0 rfl (by simp [hl]) ⟨by omega, by simp⟩ ?_
      rintro i ⟨hi, ht⟩
      simp +contextual (disch := omega) [-getElem?_pos, -List.length_eq_zero_iff, -Int.natCast_eq_zero, wrap64, cond_yes, cond_yes2, int_beq, int_bne, v_r01_Same_b0]
      refine cnd_dec (fun h1 => ?_) (fun h1 => ?_)
      · have h1 : i < p.length := by omega
        have h2 : i < q.length := by omega
        simp +contextual (disch := omega) [-getElem?_pos, -List.length_eq_zero_iff, -Int.natCast_eq_zero, wrap64, cond_yes, cond_yes2, int_beq, int_bne, get_int h1, get_int h2]
        by_cases h3 : nth p i = nth q i
        · simp +contextual (disch := omega) [-getElem?_pos, -List.length_eq_zero_iff, -Int.natCast_eq_zero, wrap64, cond_yes, cond_yes2, int_beq, int_bne, h3]
          exact rnd_next (i + 1) (by simp) ⟨by omega, by rw [take_snoc h1, take_snoc h2, ht, h3]⟩ (by omega)
        · simp +contextual (disch := omega) [-getElem?_pos, -List.length_eq_zero_iff, -Int.natCast_eq_zero, wrap64, cond_yes, cond_yes2, int_beq, int_bne, h3]
          rw [← hW, decide_eq_false]
          rintro rfl
          exact h3 rfl
      · obtain rfl : i = p.length := by omega
        rw [List.take_length, hl, List.take_length] at ht
        rw [← hW, decide_eq_true ht]
    · have : ¬p = q := fun e => hl (by rw [e])
      rw [← hW, decide_eq_false this]
      simp +contextual (disch := omega) [-getElem?_pos, -List.length_eq_zero_iff, -Int.natCast_eq_zero, wrap64, cond_yes, cond_yes2, int_beq, int_bne, v_r01_Same]
      refine cnd_bool (fun h => trivial) (fun h => ?_)
      simp [-List.length_eq_zero_iff, -Int.natCast_eq_zero] at h
      omega)

theorem c_mk_Flows {l : List Int} {k : Nat} (hd : okd l k) {n : Nat} {m : Int} (hn : n ≤ 1000) (hm : m ≤ 1000000) : ∃ f k', Lim F 12 [.gptr 0 0, i64 n, i64 m] [dk l k] = some (own f, [dk l k']) ∧ okd l k' ∧ f.length = n := by
  suffices h : ∀ Q : V → List GObj → Prop, (∀ f k', okd l k' → f.length = n → Q (own f) [dk l k']) → Ret (Lim F) 12 [.gptr 0 0, i64 n, i64 m] [dk l k] Q by
    obtain ⟨_, _, h, f, k', rfl, rfl, h1⟩ := h (fun v G => ∃ f k', v = own f ∧ G = [dk l k'] ∧ okd l k' ∧ f.length = n) fun f k' h1 h2 => ⟨f, k', rfl, rfl, h1, h2⟩
    exact ⟨f, k', h, h1⟩
  intro Q hQ
  refine ret_of rfl rfl ?_
  simp +contextual (disch := omega) [-getElem?_pos, -List.length_eq_zero_iff, -Int.natCast_eq_zero, wrap64, cond_yes, cond_yes2, int_beq, int_bne, v_mk_Flows]
  refine go_loop (fun s : List Int × Nat => v_mk_Flows_s0 (.gptr 0 0) m (.slice (some 1016) 1 (s.1.map fun n => [i64 n])) n s.1.length s.1.length [dk l s.2])
    (fun s => s.1.length ≤ n ∧ okd l s.2) (fun s => n - s.1.length) ([], k) rfl (by simp) ⟨by simp, hd⟩ ?_
  rintro ⟨f, k⟩ ⟨h1, hd⟩
  simp only at h1 hd
  obtain ⟨a, k2, n2, hd2, ha⟩ := c_Next hd m (by omega)
  simp +contextual (disch := omega) [-getElem?_pos, -List.length_eq_zero_iff, -Int.natCast_eq_zero, wrap64, cond_yes, cond_yes2, int_beq, int_bne, v_mk_Flows_b0]
  refine cnd_dec (fun h4 => ?_) (fun h4 => ?_)
  · simp +contextual (disch := omega) [-getElem?_pos, -List.length_eq_zero_iff, -Int.natCast_eq_zero, wrap64, cond_yes, cond_yes2, int_beq, int_bne, n2]
    exact rnd_next (f ++ [a], k2) (by simp) ⟨by simp; omega, hd2⟩ (by simp; omega)
  · exact hQ f k hd (by omega)

set_option maxRecDepth 100000 in
theorem c_awake19 : Lim F 15 [] [] = some (.bool true, []) := lim_iff.2 ⟨100, by kernel_rfl⟩

end Go.Proofs.Ytnnfebjdjjbdaaa
namespace Go.Proofs.Ytnnfebjdjjbdaaa
set_option linter.all false
open Go.Vm

noncomputable def wrE (us : List Un) (ss : List Us) (g : Int) : Int :=
  if 6 < us.length then 10 else if us.length ≠ ss.length then 3 else if ¬allV us ss then 3 else if g < 1 ∨ 1073741824 < g then 1 else 0

theorem c_r19_wrong (us : List Un) (ss : List Us) (g : Int) (G : List GObj) : Lim F 38 [uns us, sts ss, i64 g] G = some (i64 (wrE us ss g), G) :=
  eq_of rfl rfl (by
    generalize hE : wrE us ss g = E
    unfold wrE at hE
    simp +contextual (disch := omega) [-getElem?_pos, -List.length_eq_zero_iff, -Int.natCast_eq_zero, wrap64, cond_yes, cond_yes2, int_beq, int_bne, v_r19_wrong]
    refine cnd_dec (fun h1 => ?_) (fun h1 => cnd_bool (fun h2 => ?_) (fun h2 => ?_))
    · rw [if_pos (by omega)] at hE
      exact hE
    · simp [-List.length_eq_zero_iff, -Int.natCast_eq_zero] at h2
      rw [if_neg (by omega), if_pos (by omega)] at hE
      exact hE
    · simp [-List.length_eq_zero_iff, -Int.natCast_eq_zero] at h2
      have hl : us.length = ss.length := by omega
      rw [if_neg (by omega), if_neg (by omega)] at hE
      refine go_loop (fun i : Nat => v_r19_wrong_s0 (sts ss) g (uns us) us.length i G) (fun i => i ≤ us.length ∧ ∀ j, j < i → validP (nth us j) (nth ss j)) (fun i => us.length - i) 0 rfl (by simp) ⟨by omega, by omega⟩ ?_
      rintro i ⟨hi, hv⟩
      simp +contextual (disch := omega) [-getElem?_pos, -List.length_eq_zero_iff, -Int.natCast_eq_zero, wrap64, cond_yes, cond_yes2, int_beq, int_bne, v_r19_wrong_b0]
      refine cnd_dec (fun h3 => ?_) (fun h3 => ?_)
      · have h3 : i < us.length := by omega
        by_cases h4 : validP (nth us i) (nth ss i)
        · simp +contextual (disch := omega) [-getElem?_pos, -List.length_eq_zero_iff, -Int.natCast_eq_zero, wrap64, cond_yes, cond_yes2, int_beq, int_bne, get_nth (l := us), get_nth (l := ss), c_r18_Valid, h4]
          refine rnd_next (i + 1) (by simp) ⟨by omega, fun j hj => ?_⟩ (by omega)
          rcases Nat.lt_or_ge j i with h5 | h5
          · exact hv j h5
          · rwa [show j = i by omega]
        · rw [if_pos (fun h => h4 (h i h3))] at hE
          simp +contextual (disch := omega) [-getElem?_pos, -List.length_eq_zero_iff, -Int.natCast_eq_zero, wrap64, cond_yes, cond_yes2, int_beq, int_bne, get_nth (l := us), get_nth (l := ss), c_r18_Valid, h4]
          exact hE
      · obtain rfl : i = us.length := by omega
        rw [if_neg (fun h => h hv)] at hE
        refine cnd_bool (fun h5 => ?_) (fun h5 => ?_)
        · simp [-List.length_eq_zero_iff, -Int.natCast_eq_zero] at h5
          rw [if_pos (by omega)] at hE
          exact hE
        · simp [-List.length_eq_zero_iff, -Int.natCast_eq_zero] at h5
          rw [if_neg (by omega)] at hE
          exact hE)

noncomputable def optR (u : Un) (s : Us) (g : Int) : List Int := ([0, s.flow] ++ goods u g).filter fun q => decide (canP u s q)
theorem mem_optR {u : Un} {s : Us} {g q : Int} : q ∈ optR u s g ↔ q ∈ chs u s g := by
  rw [mem_chs]
  simp only [optR, List.mem_filter, decide_eq_true_eq, List.mem_append, List.mem_cons, List.not_mem_nil, or_false]
  constructor
  · rintro ⟨(h | h) | h, h2⟩
    · exact ⟨.inr (.inl h), h2⟩
    · exact ⟨.inr (.inr h), h2⟩
    · exact ⟨.inl h, h2⟩
  · rintro ⟨h | h | h, h2⟩
    · exact ⟨.inr h, h2⟩
    · exact ⟨.inl (.inl h), h2⟩
    · exact ⟨.inl (.inr h), h2⟩
theorem optR_len {u : Un} {s : Us} {g : Int} (h : flE u g = 0) : (optR u s g).length ≤ 202 := by
  have h1 := goods_len h
  have : (optR u s g).length ≤ ([0, s.flow] ++ goods u g).length := List.length_filter_le _ _
  simp at this
  omega

theorem c_r19_options {u : Un} {s : Us} (hv : validP u s) (g : Int) (G : List GObj) : Lim F 65 [un u, us s, i64 g] G =
    some (if flE u g = 0 then .tuple [.slice (some 0) 1 ((optR u s g).map fun n => [i64 n]), i64 0] else .tuple [.slice (some 0) 1 [], i64 (flE u g)], G) :=
  eq_of rfl rfl (by
    by_cases he : flE u g = 0
    · have hlen := goods_len he
      have hf : fls u g = goods u g := by simp [fls, he]
      have hc : optR u s g = (0 :: s.flow :: goods u g).filter fun q => decide (canP u s q) := rfl
      rw [if_pos he, hc]
      generalize hL : (0 :: s.flow :: goods u g) = L
      have hLl : L.length = (goods u g).length + 2 := by rw [← hL]; simp
      have hLm : [i64 0] :: [i64 s.flow] :: (goods u g).map (fun n => [i64 n]) = L.map fun n => [i64 n] := by rw [← hL]; rfl
      simp +contextual (disch := omega) [-getElem?_pos, -List.length_eq_zero_iff, -Int.natCast_eq_zero, wrap64, cond_yes, cond_yes2, int_beq, int_bne, v_r19_options, c_r18_Flows, he, hf, hLm]
      refine go_loop (fun i : Nat => v_r19_options_s0 (.slice (some 1039) 1 (((L.take i).filter fun q => decide (canP u s q)).map fun n => [i64 n])) (.slice (some 1024) 1 (L.map fun n => [i64 n])) L.length i u.row s.row L.length ((L.take i).filter fun q => decide (canP u s q)).length G)
        (fun i => i ≤ L.length) (fun i => L.length - i) 0 rfl (by simp [hLl]; omega) (by omega) ?_
      intro i hi
      have hlen2 : ((L.take i).filter fun q => decide (canP u s q)).length ≤ i := Nat.le_trans (List.length_filter_le _ _) (by simp; omega)
      simp +contextual (disch := omega) [-getElem?_pos, -List.length_eq_zero_iff, -Int.natCast_eq_zero, wrap64, cond_yes, cond_yes2, int_beq, int_bne, v_r19_options_b0]
      refine cnd_dec (fun h1 => ?_) (fun h1 => ?_)
      · have h1 : i < L.length := by omega
        have hM := c_r18_May u s (nth L i) []
        by_cases h3 : canP u s (nth L i)
        · have h4 : decide (validP u s ∧ mayP u s (nth L i)) = true := decide_eq_true h3
          rw [h4] at hM
          have h5 : (L.take (i + 1)).filter (fun q => decide (canP u s q)) = (L.take i).filter (fun q => decide (canP u s q)) ++ [nth L i] := by
            rw [take_snoc h1, List.filter_append]
            simp [h3]
          simp +contextual (disch := omega) [-getElem?_pos, -List.length_eq_zero_iff, -Int.natCast_eq_zero, wrap64, cond_yes, cond_yes2, int_beq, int_bne, get_int h1, hM]
          exact rnd_next (i + 1) (by rw [h5]; simp) (by omega) (by omega)
        · have h4 : decide (validP u s ∧ mayP u s (nth L i)) = false := decide_eq_false h3
          rw [h4] at hM
          have h5 : (L.take (i + 1)).filter (fun q => decide (canP u s q)) = (L.take i).filter (fun q => decide (canP u s q)) := by
            rw [take_snoc h1, List.filter_append]
            simp [h3]
          simp +contextual (disch := omega) [-getElem?_pos, -List.length_eq_zero_iff, -Int.natCast_eq_zero, wrap64, cond_yes, cond_yes2, int_beq, int_bne, get_int h1, hM]
          exact rnd_next (i + 1) (by rw [h5]; simp) (by omega) (by omega)
      · obtain rfl : i = L.length := by omega
        rw [List.take_length]
    · rw [if_neg he]
      have hf : fls u g = [] := by simp [fls, he]
      simp +contextual (disch := omega) [-getElem?_pos, -List.length_eq_zero_iff, -Int.natCast_eq_zero, wrap64, cond_yes, cond_yes2, int_beq, int_bne, v_r19_options, c_r18_Flows, he, hf])

noncomputable abbrev ocell (g : Int) (u : Un) (s : Us) : List V := [.slice none 1 ((optR u s g).map fun n => [i64 n])]
noncomputable def allE (us : List Un) (g : Int) : Int := if allF us g then 0 else 10
theorem c_r19_all {us : List Un} {ss : List Us} (hl : us.length = ss.length) (hn : us.length ≤ 1000) (hv : allV us ss) (g : Int) (G : List GObj) : Lim F 40 [uns us, sts ss, i64 g] G =
    some (.tuple [.slice (some 0) 1 (if allE us g = 0 then List.zipWith (ocell g) us ss else []), i64 (allE us g)], G) :=
  eq_of rfl rfl (by
    generalize hE : allE us g = E
    generalize hW : V.tuple [.slice (some 0) 1 (if E = 0 then List.zipWith (ocell g) us ss else []), i64 E] = W
    unfold allE at hE
    simp +contextual (disch := omega) [-getElem?_pos, -List.length_eq_zero_iff, -Int.natCast_eq_zero, wrap64, cond_yes, cond_yes2, int_beq, int_bne, v_r19_all]
    refine go_loop (fun i : Nat => v_r19_all_s0 (sts ss) g (.slice (some 1035) 1 (List.zipWith (ocell g) (us.take i) (ss.take i))) (uns us) us.length i i G)
      (fun i => i ≤ us.length ∧ ∀ j, j < i → flE (nth us j) g = 0) (fun i => us.length - i) 0 rfl (by simp) ⟨by omega, by omega⟩ ?_
    rintro i ⟨hi, hf⟩
    simp +contextual (disch := omega) [-getElem?_pos, -List.length_eq_zero_iff, -Int.natCast_eq_zero, wrap64, cond_yes, cond_yes2, int_beq, int_bne, v_r19_all_b0]
    refine cnd_dec (fun h3 => ?_) (fun h3 => ?_)
    · have h3 : i < us.length := by omega
      have h10 : i < ss.length := by omega
      have hC := c_r19_options (hv i h3) g []
      by_cases h4 : flE (nth us i) g = 0
      · rw [if_pos h4] at hC
        simp +contextual (disch := omega) [-getElem?_pos, -List.length_eq_zero_iff, -Int.natCast_eq_zero, wrap64, cond_yes, cond_yes2, int_beq, int_bne, get_nth (l := us), get_nth (l := ss), hC]
        refine rnd_next (i + 1) ?_ ⟨by omega, fun j hj => ?_⟩ (by omega)
        · rw [zip_snoc h3 h10]; simp
        rcases Nat.lt_or_ge j i with h5 | h5
        · exact hf j h5
        · rwa [show j = i by omega]
      · rw [if_neg h4] at hC
        rw [if_neg (fun h => h4 (h i h3))] at hE
        subst hE
        simp +contextual (disch := omega) [-getElem?_pos, -List.length_eq_zero_iff, -Int.natCast_eq_zero, wrap64, cond_yes, cond_yes2, int_beq, int_bne, get_nth (l := us), get_nth (l := ss), hC, h4]
        exact hW
    · obtain rfl : i = us.length := by omega
      rw [if_pos (show allF us g from hf)] at hE
      subst hE
      rw [List.take_length, List.take_of_length_le (by omega)]
      simp [← hW])

theorem prod_le {n k : Int} (h1 : 0 ≤ n ∧ n ≤ 1073741824) (h2 : 0 ≤ k ∧ k ≤ 4294967296) : 0 ≤ n * k ∧ n * k ≤ 4611686018427387904 := by
  have := Int.mul_le_mul h1.2 h2.2 h2.1 (by omega)
  have := Int.mul_nonneg h1.1 h2.1
  omega
theorem c_r19_Count {us : List Un} {ss : List Us} (hl : us.length = ss.length) (hn : us.length ≤ 1000) (hv : allV us ss) (g : Int) (G : List GObj) : ∃ n, Lim F 35 [uns us, sts ss, i64 g] G = some (i64 n, G) := by
  suffices h : Ret (Lim F) 35 [uns us, sts ss, i64 g] G fun v G' => G' = G ∧ ∃ n, v = i64 n by
    obtain ⟨_, _, h, rfl, n, rfl⟩ := h
    exact ⟨n, h⟩
  refine ret_of rfl rfl ?_
  have hA := c_r19_all hl hn hv g []
  by_cases he : allE us g = 0
  · have hf : allF us g := by
      unfold allE at he
      split at he
      · assumption
      · cases he
    rw [he, if_pos rfl] at hA
    simp +contextual (disch := omega) [-getElem?_pos, -List.length_eq_zero_iff, -Int.natCast_eq_zero, wrap64, cond_yes, cond_yes2, int_beq, int_bne, v_r19_Count, hA]
    have hzl : (List.zipWith (ocell g) us ss).length = us.length := by simp [hl]
    refine go_loop (fun x : Nat × Int => v_r19_Count_s0 x.2 (.slice none 1 (List.zipWith (ocell g) us ss)) us.length x.1 G) (fun x => x.1 ≤ us.length ∧ 0 ≤ x.2 ∧ x.2 ≤ 1073741824) (fun x => us.length - x.1) (0, 1) rfl (by simp [hl]) (by simp) ?_
    rintro ⟨i, n⟩ ⟨h1, h2, h3⟩
    simp only at h1 h2 h3
    simp +contextual (disch := omega) [-getElem?_pos, -List.length_eq_zero_iff, -Int.natCast_eq_zero, wrap64, cond_yes, cond_yes2, int_beq, int_bne, v_r19_Count_b0]
    refine cnd_dec (fun h4 => ?_) (fun h4 => ?_)
    · have h4 : i < us.length := by omega
      have h5 : i < ss.length := by omega
      have hg : (List.zipWith (ocell g) us ss)[i]? = some (ocell g (nth us i) (nth ss i)) := by
        rw [List.getElem?_zipWith, get_nth h4, get_nth h5]
      have h6 := optR_len (s := nth ss i) (hf i h4)
      have h7 := prod_le (n := n) (k := (optR (nth us i) (nth ss i) g).length) ⟨h2, h3⟩ (by omega)
      simp +contextual (disch := omega) [-getElem?_pos, -List.length_eq_zero_iff, -Int.natCast_eq_zero, wrap64, cond_yes, cond_yes2, int_beq, int_bne, hg]
      exact rnd_next (i + 1, min 1073741824 (n * (optR (nth us i) (nth ss i) g).length)) (by simp) ⟨by omega, by simp only; omega, by simp only; omega⟩ (by simp; omega)
    · simp +contextual (disch := omega) [-getElem?_pos, -List.length_eq_zero_iff, -Int.natCast_eq_zero, wrap64, cond_yes, cond_yes2, int_beq, int_bne, wrap64]
  · rw [if_neg he] at hA
    simp +contextual (disch := omega) [-getElem?_pos, -List.length_eq_zero_iff, -Int.natCast_eq_zero, wrap64, cond_yes, cond_yes2, int_beq, int_bne, v_r19_Count, hA, he]
end Go.Proofs.Ytnnfebjdjjbdaaa
namespace Go.Proofs.Ytnnfebjdjjbdaaa
set_option linter.all false
open Go.Vm

def Vd : List Nat → List Nat → Prop
  | [], [] => True
  | n :: ns, d :: a => d < n ∧ Vd ns a
  | _, _ => False
def prodN : List Nat → Nat
  | [] => 1
  | n :: ns => n * prodN ns
def rk : List Nat → List Nat → Nat
  | _ :: ns, d :: a => d * prodN ns + rk ns a
  | _, _ => 0
def inc : List Nat → List Nat → Option (List Nat)
  | n :: ns, d :: a => match inc ns a with
    | some b => some (d :: b)
    | none => if d + 1 < n then some ((d + 1) :: List.replicate a.length 0) else none
  | _, _ => none

theorem vd_len : ∀ {ns a : List Nat}, Vd ns a → a.length = ns.length
  | [], [], _ => rfl
  | _ :: _, _ :: _, h => by simp [vd_len h.2]
  | [], _ :: _, h => h.elim
  | _ :: _, [], h => h.elim
theorem vd_nth : ∀ {ns a : List Nat}, Vd ns a → ∀ i, i < ns.length → nth a i < nth ns i
  | n :: ns, d :: a, h, i, hi => by
    cases i with
    | zero => exact h.1
    | succ i => exact vd_nth h.2 i (by simpa using hi)
theorem rk_lt : ∀ {ns a : List Nat}, Vd ns a → rk ns a < prodN ns
  | [], [], _ => by simp [rk, prodN]
  | n :: ns, d :: a, h => by
    have ih := rk_lt h.2
    have h1 := Nat.mul_le_mul_right (prodN ns) (show d + 1 ≤ n from h.1)
    simp only [rk, prodN]
    rw [Nat.succ_mul] at h1
    omega
  | [], _ :: _, h => h.elim
  | _ :: _, [], h => h.elim
theorem rk_inj : ∀ {ns a b : List Nat}, Vd ns a → Vd ns b → rk ns a = rk ns b → a = b
  | [], [], [], _, _, _ => rfl
  | n :: ns, d :: a, e :: b, ha, hb, h => by
    have h1 := rk_lt ha.2
    have h2 := rk_lt hb.2
    simp only [rk] at h
    have hde : d = e := by
      rcases Nat.lt_trichotomy d e with h3 | h3 | h3
      · have := Nat.mul_le_mul_right (prodN ns) (show d + 1 ≤ e from h3)
        rw [Nat.succ_mul] at this
        omega
      · exact h3
      · have := Nat.mul_le_mul_right (prodN ns) (show e + 1 ≤ d from h3)
        rw [Nat.succ_mul] at this
        omega
    subst hde
    rw [rk_inj ha.2 hb.2 (by omega)]
  | [], _ :: _, _, h, _, _ => h.elim
  | [], [], _ :: _, _, h, _ => h.elim
  | _ :: _, [], _, h, _, _ => h.elim
  | _ :: _, _ :: _, [], _, h, _ => h.elim
theorem rk_zero : ∀ {ns : List Nat} {k : Nat}, rk ns (List.replicate k 0) = 0
  | [], k => by cases k <;> rfl
  | _ :: ns, 0 => rfl
  | _ :: ns, k + 1 => by simp [List.replicate_succ, rk, rk_zero]
theorem vd_zero : ∀ {ns : List Nat}, (∀ n ∈ ns, 0 < n) → Vd ns (List.replicate ns.length 0)
  | [], _ => trivial
  | n :: ns, h => ⟨h n (by simp), vd_zero fun m hm => h m (by simp [hm])⟩
theorem inc_spec : ∀ {ns a : List Nat}, Vd ns a → match inc ns a with
    | none => rk ns a + 1 = prodN ns
    | some b => Vd ns b ∧ rk ns b = rk ns a + 1
  | [], [], _ => by simp [inc, rk, prodN]
  | n :: ns, d :: a, h => by
    have ih := inc_spec h.2
    have hl := vd_len h.2
    unfold inc
    cases hi : inc ns a with
    | some b =>
      rw [hi] at ih
      simp only at ih ⊢
      exact ⟨⟨h.1, ih.1⟩, by simp only [rk]; omega⟩
    | none =>
      rw [hi] at ih
      simp only at ih ⊢
      have hp : ∀ m ∈ ns, 0 < m := fun m hm => by
        obtain ⟨i, hi, rfl⟩ := mem_nth hm
        have := vd_nth h.2 i hi
        omega
      by_cases hd : d + 1 < n
      · simp only [hd, if_true]
        refine ⟨⟨hd, by rw [hl]; exact vd_zero hp⟩, ?_⟩
        simp only [rk, rk_zero]
        rw [Nat.succ_mul]
        omega
      · simp only [hd, if_false]
        have : n = d + 1 := by have := h.1; omega
        subst this
        simp only [rk, prodN]
        rw [Nat.succ_mul]
        omega
  | [], _ :: _, h => h.elim
  | _ :: _, [], h => h.elim

theorem inc_none : ∀ {ns a : List Nat}, Vd ns a → (∀ j, j < ns.length → nth a j + 1 = nth ns j) → inc ns a = none
  | [], [], _, _ => rfl
  | n :: ns, d :: a, h, hm => by
    have ih := inc_none h.2 fun j hj => hm (j + 1) (by simpa using hj)
    have h0 := hm 0 (by simp)
    simp only [inc, ih]
    have : ¬d + 1 < n := by simp [nth] at h0; omega
    simp [this]
  | [], _ :: _, h, _ => h.elim
  | _ :: _, [], h, _ => h.elim
theorem inc_at : ∀ {ns a : List Nat} {i : Nat}, Vd ns a → i < ns.length → (∀ j, i < j → j < ns.length → nth a j + 1 = nth ns j) → nth a i + 1 < nth ns i →
    inc ns a = some (a.take i ++ (nth a i + 1) :: List.replicate (ns.length - 1 - i) 0)
  | n :: ns, d :: a, 0, h, _, hm, hlt => by
    have ih := inc_none h.2 fun j hj => hm (j + 1) (by omega) (by simpa using hj)
    have hl := vd_len h.2
    have : d + 1 < n := by simpa [nth] using hlt
    simp only [inc, ih, this, if_true]
    simp [nth, hl]
  | n :: ns, d :: a, i + 1, h, hi, hm, hlt => by
    have hi' : i < ns.length := by simpa using hi
    have ih := inc_at h.2 hi' (fun j h1 h2 => hm (j + 1) (by omega) (by simpa using h2)) hlt
    simp only [inc, ih]
    simp [nth]
    omega
  | [], [], _, _, hi, _, _ => by simp at hi
  | [], _ :: _, _, h, _, _, _ => h.elim
  | _ :: _, [], _, h, _, _, _ => h.elim

/-- The plan that digits name. -/
def planA (R : List (List Int)) (a : List Nat) : List Int := List.zipWith (fun o k => nth o k) R a
def feasR : List (List Int) → List Int → Prop
  | [], [] => True
  | o :: R, q :: F => q ∈ o ∧ feasR R F
  | _, _ => False
theorem planA_feas : ∀ {R : List (List Int)} {a : List Nat}, Vd (R.map List.length) a → feasR R (planA R a)
  | [], [], _ => trivial
  | o :: R, d :: a, h => ⟨nth_mem h.1, planA_feas h.2⟩
  | [], _ :: _, h => h.elim
  | _ :: _, [], h => h.elim
theorem feas_planA : ∀ {R : List (List Int)} {F : List Int}, feasR R F → ∃ a, Vd (R.map List.length) a ∧ planA R a = F
  | [], [], _ => ⟨[], trivial, rfl⟩
  | o :: R, q :: F, h => by
    obtain ⟨a, h1, h2⟩ := feas_planA h.2
    obtain ⟨d, h3, h4⟩ := mem_nth h.1
    exact ⟨d :: a, ⟨h3, h1⟩, by simp only [planA, List.zipWith_cons_cons] at h2 ⊢; rw [h2, h4]⟩
  | [], _ :: _, h => h.elim
  | _ :: _, [], h => h.elim
noncomputable def orl (us : List Un) (ss : List Us) (g : Int) : List (List Int) := List.zipWith (fun u s => optR u s g) us ss
theorem feasR_iff {g : Int} : ∀ {us : List Un} {ss : List Us} {F : List Int}, us.length = ss.length → (feasR (orl us ss g) F ↔ feas g us ss F)
  | [], [], [], _ => Iff.rfl
  | [], [], _ :: _, _ => Iff.rfl
  | [], _ :: _, _, h => by simp at h
  | _ :: _, [], _, h => by simp at h
  | _ :: _, _ :: _, [], _ => Iff.rfl
  | u :: us, s :: ss, q :: F, h => by
    have ih := feasR_iff (g := g) (us := us) (ss := ss) (F := F) (by simpa using h)
    show (q ∈ optR u s g ∧ feasR (orl us ss g) F) ↔ (q ∈ chs u s g ∧ feas g us ss F)
    rw [mem_optR, ih]
theorem opt_ne {u : Un} {s : Us} {g : Int} (hv : validP u s) : 0 < (optR u s g).length := by
  have : s.flow ∈ optR u s g := by
    rw [mem_optR, mem_chs]
    refine ⟨.inr (.inr rfl), hv, ?_⟩
    obtain ⟨hc, h1, h2⟩ := hv
    unfold mayP
    split
    · rename_i h; rw [h]; intro h3; omega
    · rename_i h
      rcases h2 with h2 | ⟨h2, h3⟩
      · exact absurd h2 h
      · exact ⟨h2, fun h4 => h h4.1, h3⟩
  exact List.length_pos_of_mem this

/-- What the search knows before it looks at the plan that digits a name. -/
def Kn (us : List Un) (ss : List Us) (R : List (List Int)) (release : Int) (r : Nat) : Option (List Int) → Prop
  | none => ∀ b, Vd (R.map List.length) b → rk (R.map List.length) b < r → release < (planA R b).sum
  | some F => (∃ b, Vd (R.map List.length) b ∧ planA R b = F ∧ F.sum ≤ release) ∧
      ∀ b, Vd (R.map List.length) b → rk (R.map List.length) b < r → (planA R b).sum ≤ release → ¬betP (pwF us (planA R b), stF ss (planA R b)) (pwF us F, stF ss F) (planA R b) F
noncomputable def newB (us : List Un) (ss : List Us) (release : Int) (P : List Int) : Option (List Int) → Option (List Int)
  | none => if P.sum ≤ release then some P else none
  | some F => if P.sum ≤ release then (if betP (pwF us P, stF ss P) (pwF us F, stF ss F) P F then some P else some F) else some F
theorem kn_step {us : List Un} {ss : List Us} {R : List (List Int)} {release : Int} {a : List Nat} (ha : Vd (R.map List.length) a) {best : Option (List Int)} (h : Kn us ss R release (rk (R.map List.length) a) best) :
    Kn us ss R release (rk (R.map List.length) a + 1) (newB us ss release (planA R a) best) := by
  have split : ∀ b, Vd (R.map List.length) b → rk (R.map List.length) b < rk (R.map List.length) a + 1 → rk (R.map List.length) b < rk (R.map List.length) a ∨ b = a := fun b hb hlt => by
    rcases Nat.lt_or_ge (rk (R.map List.length) b) (rk (R.map List.length) a) with h1 | h1
    · exact .inl h1
    · exact .inr (rk_inj hb ha (by omega))
  cases best with
  | none =>
    unfold newB
    by_cases hs : (planA R a).sum ≤ release
    · simp only [hs, if_true]
      refine ⟨⟨a, ha, rfl, hs⟩, fun b hb hlt hsum => ?_⟩
      rcases split b hb hlt with h1 | rfl
      · have := h b hb h1; omega
      · exact bet_irr
    · simp only [hs, if_false]
      intro b hb hlt
      rcases split b hb hlt with h1 | rfl
      · exact h b hb h1
      · omega
  | some F =>
    obtain ⟨h1, h2⟩ := h
    unfold newB
    by_cases hs : (planA R a).sum ≤ release
    · simp only [hs, if_true]
      by_cases hb : betP (pwF us (planA R a), stF ss (planA R a)) (pwF us F, stF ss F) (planA R a) F
      · simp only [hb, if_true]
        refine ⟨⟨a, ha, rfl, hs⟩, fun b hb' hlt hsum => ?_⟩
        rcases split b hb' hlt with h3 | rfl
        · exact fun h4 => h2 b hb' h3 hsum (bet_trans h4 hb)
        · exact bet_irr
      · simp only [hb, if_false]
        refine ⟨h1, fun b hb' hlt hsum => ?_⟩
        rcases split b hb' hlt with h3 | rfl
        · exact h2 b hb' h3 hsum
        · exact hb
    · simp only [hs, if_false]
      refine ⟨h1, fun b hb' hlt hsum => ?_⟩
      rcases split b hb' hlt with h3 | rfl
      · exact h2 b hb' h3 hsum
      · omega
/-- At the end. -/
theorem kn_end {us : List Un} {ss : List Us} {g release : Int} (hl : us.length = ss.length) {best : Option (List Int)} (h : Kn us ss (orl us ss g) release (prodN ((orl us ss g).map List.length)) best) :
    match best with
    | none => ∀ F, feas g us ss F → release < F.sum
    | some F => Best g us ss release F := by
  cases best with
  | none =>
    intro F hF
    obtain ⟨b, hb, rfl⟩ := feas_planA ((feasR_iff hl).2 hF)
    exact h b hb (rk_lt hb)
  | some F =>
    obtain ⟨⟨b, hb, e, hs⟩, h2⟩ := h
    refine ⟨?_, hs, fun E hE hEs => ?_⟩
    · rw [← e]; exact (feasR_iff hl).1 (planA_feas hb)
    · obtain ⟨c, hc, rfl⟩ := feas_planA ((feasR_iff hl).2 hE)
      exact h2 c hc (rk_lt hc) hEs
end Go.Proofs.Ytnnfebjdjjbdaaa
namespace Go.Proofs.Ytnnfebjdjjbdaaa
set_option linter.all false
open Go.Vm

abbrev rls (R : List (List Int)) : V := .slice none 1 (R.map fun o => [ints o])
def rb (best : Option (List Int)) : V := match best with
  | none => .nils
  | some F => ints F
noncomputable def rv (us : List Un) (ss : List Us) (best : Option (List Int)) : List V := match best with
  | none => [i64 0, i64 0]
  | some F => [i64 (pwF us F), i64 (stF ss F)]
def dcl (a : List Nat) : List V := icells (a.map fun d : Nat => (d : Int))
def ob (o : Option (List V)) : List (Nat × List V) := match o with
  | none => []
  | some c => [(56, c)]
@[simp] theorem rb_men {best : Option (List Int)} {d : Nat} : (rb best).men d = false := by cases best <;> rfl
@[simp] theorem rv_men {us : List Un} {ss : List Us} {best : Option (List Int)} {d : Nat} : ((rv us ss best).all fun v => !v.men0 d) = true := by cases best <;> rfl
@[simp] theorem dcl_men {a : List Nat} {d : Nat} : ((dcl a).all fun v => !v.men0 d) = true := icells_men
@[simp] theorem ob_drp {o : Option (List V)} : drp 56 (ob o) = [] := by cases o <;> rfl
@[simp] theorem ob_none : ob none = [] := rfl
@[simp] theorem ob_some {c : List V} : ob (some c) = [(56, c)] := rfl
@[simp] theorem ob_kp {o : Option (List V)} : kp (Go.Vm.look 56 (ob o)) 56 [] = ob o := by cases o <;> rfl
theorem dcl_get {a : List Nat} {i : Nat} (h : i < a.length) : (dcl a)[i]? = some (i64 ((nth a i : Nat) : Int)) := by
  have := icells_get (l := a.map fun d : Nat => (d : Int)) (i := i) (by simpa using h)
  rw [nth_map h] at this
  exact this
@[simp] theorem dcl_len {a : List Nat} : (dcl a).length = a.length := by simp [dcl]
theorem dcl_set {a : List Nat} {i d : Nat} : (dcl a).set i (i64 (d : Int)) = dcl (a.set i d) := by
  simp [dcl, List.map_set]
theorem nth_right {α : Type} [Inhabited α] {l m : List α} {i : Nat} (h : l.length ≤ i) : nth (l ++ m) i = nth m (i - l.length) := by
  simp [nth, List.getElem?_append_right h]
theorem nth_take {α : Type} [Inhabited α] {l : List α} {i k : Nat} (h : i < k) : nth (l.take k) i = nth l i := by
  simp [nth, List.getElem?_take, h]
theorem nth_rep {n i : Nat} : nth (List.replicate n (0 : Int)) i = 0 := by
  simp only [nth, List.getD, List.getElem?_replicate]
  split <;> rfl
theorem sum_take {l : List Int} {B : Int} (h : ∀ x ∈ l, 0 ≤ x ∧ x ≤ B) : ∀ j : Nat, j ≤ l.length → 0 ≤ (l.take j).sum ∧ (l.take j).sum ≤ B * j
  | 0, _ => by simp
  | j + 1, hj => by
    have ih := sum_take h j (by omega)
    have := h _ (nth_mem (show j < l.length from hj))
    rw [take_snoc hj]
    simp only [List.sum_append, List.sum_cons, List.sum_nil]
    have e : B * ((j + 1 : Nat) : Int) = B * j + B := by
      rw [show ((j + 1 : Nat) : Int) = (j : Int) + 1 from rfl, Int.mul_add, Int.mul_one]
    omega

theorem planA_len {R : List (List Int)} {a : List Nat} (h : a.length = R.length) : (planA R a).length = R.length := by simp [planA, h]

theorem r19_l0 {R : List (List Int)} {a : List Nat} {us : List Un} {ss : List Us} {release : Int} {fd : Bool} {best : Option (List Int)} {G : List GObj} {K : Post} (hn : R.length ≤ 6) (ha : Vd (R.map List.length) a)
    (hb : ∀ o ∈ R, ∀ q ∈ o, 0 ≤ q ∧ q ≤ 1073741824)
    (hK : ∀ z, K (.exit 2) ⟨[(0, uns us), (1, sts ss), (3, i64 release), (11, rls R), (13, .bool fd), (14, rb best), (15, .lptr 15 0), (16, .lref 53 1 R.length), (17, .lref 56 1 R.length), (18, i64 (planA R a).sum), (57, .lref 53 1 R.length), (58, i64 R.length), (59, i64 R.length), (60, z)],
      [(15, rv us ss best), (53, dcl a), (56, icells (planA R a))], [], G⟩) :
    go (Lim F) v_r19_Best_l0 (v_r19_Best_s0 (uns us) (sts ss) release (rls R) fd (rb best) R.length R.length 0 R.length R.length 0 (rv us ss best) (dcl a) (icells (List.replicate R.length 0)) G) K := by
  have hal := vd_len ha
  simp only [List.length_map] at hal
  have hpl := planA_len hal
  have hpm : ∀ x ∈ planA R a, 0 ≤ x ∧ x ≤ 1073741824 := by
    intro x hx
    obtain ⟨i, hi, rfl⟩ := mem_nth hx
    rw [hpl] at hi
    have h1 : nth (planA R a) i = nth (nth R i) (nth a i) := nth_zip hi (by omega)
    have h2 := vd_nth ha i (by simpa using hi)
    rw [nth_map hi] at h2
    rw [h1]
    exact hb _ (nth_mem hi) _ (nth_mem h2)
  refine go_loop (fun j : Nat => v_r19_Best_s0 (uns us) (sts ss) release (rls R) fd (rb best) R.length R.length ((planA R a).take j).sum R.length R.length j (rv us ss best) (dcl a) (icells ((planA R a).take j ++ List.replicate (R.length - j) 0)) G)
    (fun j => j ≤ R.length) (fun j => R.length - j) 0 rfl (by simp) (by omega) ?_
  intro j hj
  have hs := sum_take hpm j (by omega)
  simp +contextual (disch := omega) [-getElem?_pos, -List.length_eq_zero_iff, -Int.natCast_eq_zero, wrap64, cond_yes, cond_yes2, int_beq, int_bne, v_r19_Best_b0]
  refine cnd_dec (fun h1 => ?_) (fun h1 => ?_)
  · have h1 : j < R.length := by omega
    have h2 : j < a.length := by omega
    have h3 := vd_nth ha j (by simpa using h1)
    rw [nth_map h1] at h3
    have h4 : nth (planA R a) j = nth (nth R j) (nth a j) := nth_zip h1 h2
    have h5 := hpm _ (nth_mem (show j < (planA R a).length by omega))
    have h6 : (icells ((planA R a).take j ++ List.replicate (R.length - j) 0))[j]? = some (i64 0) := by
      rw [icells_get (by simp; omega), nth_right (by simp; omega), nth_rep]
    have e2 : ((planA R a).take j ++ List.replicate (R.length - j) (0 : Int)).set j (nth (nth R j) (nth a j)) = (planA R a).take (j + 1) ++ List.replicate (R.length - (j + 1)) 0 := by
      rw [List.set_append_right _ _ (by simp; omega), take_snoc (show j < (planA R a).length by omega), h4]
      have : j - ((planA R a).take j).length = 0 := by simp; omega
      rw [this]
      obtain ⟨m, hm⟩ : ∃ m, R.length - j = m + 1 := ⟨R.length - j - 1, by omega⟩
      rw [hm, List.replicate_succ, List.set_cons_zero, show R.length - (j + 1) = m by omega]
      simp
    have e3 : ((planA R a).take (j + 1)).sum = ((planA R a).take j).sum + nth (nth R j) (nth a j) := by
      rw [take_snoc (show j < (planA R a).length by omega), h4]; simp
    have h7 : (icells ((planA R a).take (j + 1) ++ List.replicate (R.length - (j + 1)) 0))[j]? = some (i64 (nth (nth R j) (nth a j))) := by
      rw [icells_get (by simp; omega), nth_left (by simp; omega), nth_take (by omega), h4]
    rw [h4] at h5
    simp +contextual (disch := omega) [-getElem?_pos, -List.length_eq_zero_iff, -Int.natCast_eq_zero, wrap64, cond_yes, cond_yes2, int_beq, int_bne, dcl_get h2, get_nth (l := R), get_int h3, h6, e2, h7]
    exact rnd_next (j + 1) (by simp [e3]) (by omega) (by omega)
  · obtain rfl : j = R.length := by omega
    rw [List.take_of_length_le (by omega)]
    simpa using hK _

/-- The state at the head of the loop that carries over. -/
noncomputable abbrev s1v (us : List Un) (ss : List Us) (R : List (List Int)) (release : Int) (fd : Bool) (best : Option (List Int)) (x : Int) (a : List Nat) (o : Option (List V)) (G : List GObj) : St :=
  ⟨[(0, uns us), (1, sts ss), (3, i64 release), (11, rls R), (13, .bool fd), (14, rb best), (15, .lptr 15 0), (16, .lref 53 1 R.length), (26, i64 x)], (15, rv us ss best) :: (53, dcl a) :: ob o, [], G⟩
theorem r19_l1 {R : List (List Int)} {a : List Nat} {us : List Un} {ss : List Us} {release : Int} {fd : Bool} {best : Option (List Int)} {o : Option (List V)} {G : List GObj} {K : Post} (hn : R.length ≤ 6) (ha : Vd (R.map List.length) a) (hlen : ∀ o ∈ R, o.length ≤ 1000)
    (h0 : ∀ z b, inc (R.map List.length) a = none → K (.exit 4) { s1v us ss R release fd best (-1) b o G with env := (s1v us ss R release fd best (-1) b o G).env ++ [(124, z)] })
    (h1 : ∀ z (i : Nat), i < R.length → nth a i + 1 < nth (R.map List.length) i → inc (R.map List.length) a = some (a.take i ++ (nth a i + 1) :: List.replicate (R.length - 1 - i) 0) →
      K (.exit 4) { s1v us ss R release fd best i (a.take (i + 1) ++ List.replicate (R.length - 1 - i) 0) o G with env := (s1v us ss R release fd best i a o G).env ++ [(124, z)] }) :
    go (Lim F) v_r19_Best_l1 (s1v us ss R release fd best (R.length - 1) a o G) K := by
  have hal := vd_len ha
  simp only [List.length_map] at hal
  refine go_loop (fun k : Nat => s1v us ss R release fd best (k - 1) (a.take k ++ List.replicate (R.length - k) 0) o G)
    (fun k => k ≤ R.length ∧ ∀ j, k ≤ j → j < R.length → nth a j + 1 = nth (R.map List.length) j) (fun k => k) R.length rfl (by rw [List.take_of_length_le (by omega)]; simp) ⟨by omega, by omega⟩ ?_
  rintro k ⟨hk, hm⟩
  by_cases hk0 : k = 0
  · subst hk0
    simp +contextual (disch := omega) [-getElem?_pos, -List.length_eq_zero_iff, -Int.natCast_eq_zero, wrap64, cond_yes, cond_yes2, int_beq, int_bne, v_r19_Best_b1]
    exact h0 _ _ (inc_none ha fun j hj => hm j (by omega) (by simpa using hj))
  · have e1 : 0 ≤ (k : Int) - 1 := by omega
    have e2 : ((k : Int) - 1).toNat = k - 1 := by omega
    have h3 : k - 1 < R.length := by omega
    have h4 : (dcl (a.take k ++ List.replicate (R.length - k) 0))[k - 1]? = some (i64 ((nth a (k - 1) : Nat) : Int)) := by
      rw [dcl_get (by simp; omega), nth_left (by simp; omega), nth_take (by omega)]
    have h5 := hlen _ (nth_mem h3)
    have h6 := vd_nth ha (k - 1) (by simpa using h3)
    rw [nth_map h3] at h6
    have h7 : (dcl (a.take k ++ List.replicate (R.length - k) 0)).set (k - 1) (i64 0) = dcl (a.take (k - 1) ++ List.replicate (R.length - (k - 1)) 0) := by
      have := dcl_set (a := a.take k ++ List.replicate (R.length - k) 0) (i := k - 1) (d := 0)
      rw [show (i64 ((0 : Nat) : Int)) = i64 0 from rfl] at this
      rw [this]
      congr 1
      obtain ⟨m, rfl⟩ : ∃ m, k = m + 1 := ⟨k - 1, by omega⟩
      rw [take_snoc (show m < a.length by omega)]
      have hl : (a.take m).length = m := by simp; omega
      rw [List.append_assoc, Nat.add_sub_cancel, List.set_append_right _ _ (by omega), hl, Nat.sub_self]
      simp only [List.singleton_append, List.set_cons_zero]
      rw [show R.length - m = (R.length - (m + 1)) + 1 by omega, List.replicate_succ]
    have h8 : nth (R.map List.length) (k - 1) = (nth R (k - 1)).length := nth_map h3
    simp +contextual (disch := omega) [-getElem?_pos, -List.length_eq_zero_iff, -Int.natCast_eq_zero, wrap64, cond_yes, cond_yes2, int_beq, int_bne, v_r19_Best_b1, e1, e2, h4, get_nth (l := R)]
    refine cnd_dec (fun h9 => ?_) (fun h9 => ?_)
    · have h10 : k ≤ (dcl (a.take k ++ List.replicate (R.length - k) 0)).length := by simp; omega
      simp +contextual (disch := omega) [-getElem?_pos, -List.length_eq_zero_iff, -Int.natCast_eq_zero, wrap64, cond_yes, cond_yes2, int_beq, int_bne, h10, h7]
      refine rnd_next (k - 1) ?_ ⟨by omega, fun j a1 a2 => ?_⟩ (by omega)
      · rw [show (((k - 1 : Nat)) : Int) = (k : Int) - 1 by omega]
        simp
      · rcases Nat.lt_or_ge j k with h11 | h11
        · obtain rfl : j = k - 1 := by omega
          rw [h8]; omega
        · exact hm j h11 a2
    · have hlt : nth a (k - 1) + 1 < nth (R.map List.length) (k - 1) := by rw [h8]; omega
      have hi := inc_at (i := k - 1) ha (by simpa using h3) (fun j a1 a2 => hm j (by omega) (by simpa using a2)) hlt
      simp only [List.length_map] at hi
      have := h1 (.bool (decide (((nth a (k - 1) : Nat) : Int) = ((nth R (k - 1)).length : Int) - 1))) (k - 1) h3 hlt hi
      rw [show (((k - 1 : Nat)) : Int) = (k : Int) - 1 by omega, show k - 1 + 1 = k by omega, show R.length - 1 - (k - 1) = R.length - k by omega] at this
      exact this

theorem orl_len {us : List Un} {ss : List Us} {g : Int} (h : us.length = ss.length) : (orl us ss g).length = us.length := by simp [orl, h]
theorem orl_cells (us : List Un) (ss : List Us) (g : Int) : List.zipWith (ocell g) us ss = (orl us ss g).map fun o => [ints o] := by
  rw [orl, List.map_zipWith]
theorem orl_all {us : List Un} {ss : List Us} {g : Int} (h : St0 us ss g) {o : List Int} (ho : o ∈ orl us ss g) : (0 < o.length ∧ o.length ≤ 1000) ∧ ∀ q ∈ o, 0 ≤ q ∧ q ≤ 1073741824 := by
  have hl := h.len
  obtain ⟨i, hi, rfl⟩ := mem_nth ho
  rw [orl_len hl] at hi
  have e : nth (orl us ss g) i = optR (nth us i) (nth ss i) g := nth_zip hi (by omega)
  rw [e]
  have h1 := optR_len (s := nth ss i) (h.flows i hi)
  refine ⟨⟨opt_ne (h.valid i hi), by omega⟩, fun q hq => ?_⟩
  simp only [optR, List.mem_filter, decide_eq_true_eq] at hq
  exact can_range hq.2

/-- The state at the head of the loop over all plans. -/
noncomputable abbrev s2v (us : List Un) (ss : List Us) (R : List (List Int)) (release : Int) (best : Option (List Int)) (a : List Nat) (o : Option (List V)) (G : List GObj) : St :=
  ⟨[(0, uns us), (1, sts ss), (3, i64 release), (11, rls R), (13, .bool best.isSome), (14, rb best), (15, .lptr 15 0), (16, .lref 53 1 R.length)], (15, rv us ss best) :: (53, dcl a) :: ob o, [], G⟩
theorem r19_l2 {R : List (List Int)} {us : List Un} {ss : List Us} {release : Int} {G : List GObj} {K : Post} (hn : R.length ≤ 6) (hun : us.length ≤ 6) (hRl : R.length = us.length) (hRa : ∀ o ∈ R, (0 < o.length ∧ o.length ≤ 1000) ∧ ∀ q ∈ o, 0 ≤ q ∧ q ≤ 1073741824)
    (hval : ∀ a, Vd (R.map List.length) a → valO us ss (planA R a) = some ((planA R a).sum, pwF us (planA R a), stF ss (planA R a)))
    (hz : Vd (R.map List.length) (List.replicate R.length 0))
    (hK : ∀ best b o z, Kn us ss R release (prodN (R.map List.length)) best → K (.exit 0) { s2v us ss R release best b o G with env := (s2v us ss R release best b o G).env ++ [(26, i64 (-1)), (131, z)] }) :
    go (Lim F) v_r19_Best_l2 (s2v us ss R release none (List.replicate R.length 0) none G) K := by
  refine go_loop (fun x : List Nat × Option (List Int) × Option (List V) => s2v us ss R release x.2.1 x.1 x.2.2 G) (fun x => Vd (R.map List.length) x.1 ∧ Kn us ss R release (rk (R.map List.length) x.1) x.2.1)
    (fun x => prodN (R.map List.length) - rk (R.map List.length) x.1) (List.replicate R.length 0, none, none) rfl (by simp [rb]) ⟨hz, by simp only [rk_zero]; intro b _ h; omega⟩ ?_
  rintro ⟨a, best, o⟩ ⟨ha, hkn⟩
  simp only at ha hkn
  have hrk := rk_lt ha
  have hal := vd_len ha
  simp only [List.length_map] at hal
  have hpl := planA_len hal
  have hsp := inc_spec ha
  replace hkn := kn_step ha hkn
  have hva := hval a ha
  have hV := c_r19_Value us ss (planA R a) (by omega) []
  rw [hva] at hV
  simp only [valV] at hV
  have hic : (List.replicate R.length [V.int .i64 0]).flatten = icells (List.replicate R.length 0) := by
    rw [icells]; simp
  simp +contextual (disch := omega) [-getElem?_pos, -List.length_eq_zero_iff, -Int.natCast_eq_zero, wrap64, cond_yes, cond_yes2, int_beq, int_bne, v_r19_Best_b2, hic]
  refine r19_l0 hn ha (fun o ho => (hRa o ho).2) fun z => ?_
  simp +contextual (disch := omega) [-getElem?_pos, -List.length_eq_zero_iff, -Int.natCast_eq_zero, wrap64, cond_yes, cond_yes2, int_beq, int_bne, wrap64]
  refine cnd_dec (fun h1 => ?_) (fun h1 => ?_)
  · have hrw : elsAll [none] (chunks 1 (icells (planA R a)) 0 R.length) = some ((planA R a).map fun n => [V.int .i64 n]) := icells_rows (by omega)
    cases best with
    | none =>
      have hnb : newB us ss release (planA R a) none = some (planA R a) := by simp [newB, h1]
      rw [hnb] at hkn
      simp +contextual (disch := omega) [-getElem?_pos, -List.length_eq_zero_iff, -Int.natCast_eq_zero, wrap64, cond_yes, cond_yes2, int_beq, int_bne, hrw, hV, rb, rv]
      refine r19_l1 (best := some (planA R a)) (o := none) (fd := true) hn ha (fun o ho => (hRa o ho).1.2) (fun z b he => ?_) (fun z i hi hlt he => ?_)
      · rw [he] at hsp
        simp only at hsp
        rw [hsp] at hkn
        simp +contextual (disch := omega) [-getElem?_pos, -List.length_eq_zero_iff, -Int.natCast_eq_zero, wrap64, cond_yes, cond_yes2, int_beq, int_bne, rb, rv]
        exact hK _ b none _ hkn
      · rw [he] at hsp
        simp only at hsp
        rw [← hsp.2] at hkn
        have q1 : (dcl (a.take (i + 1) ++ List.replicate (R.length - 1 - i) 0))[i]? = some (i64 ((nth a i : Nat) : Int)) := by
          rw [dcl_get (by simp; omega), nth_left (by simp; omega), nth_take (by omega)]
        have q2 := vd_nth ha i (by simpa using hi)
        rw [nth_map hi] at q2
        have q3 := (hRa _ (nth_mem hi)).1.2
        have q7 : ¬(i : Int) < 0 := by omega
        have q4 : i < a.length := by omega
        have q5 : (dcl (a.take (i + 1) ++ List.replicate (R.length - 1 - i) 0)).set i (i64 (((nth a i : Nat) : Int) + 1)) = dcl (a.take i ++ (nth a i + 1) :: List.replicate (R.length - 1 - i) 0) := by
          have := dcl_set (a := a.take (i + 1) ++ List.replicate (R.length - 1 - i) 0) (i := i) (d := nth a i + 1)
          rw [show (i64 ((nth a i + 1 : Nat) : Int)) = i64 (((nth a i : Nat) : Int) + 1) from rfl] at this
          rw [this, take_snoc q4, List.append_assoc, List.set_append_right _ _ (by simp; omega)]
          have : (a.take i).length = i := by simp; omega
          rw [this, Nat.sub_self]
          rfl
        have q6 : i < (dcl (a.take (i + 1) ++ List.replicate (R.length - 1 - i) 0)).length := by simp; omega
        simp +contextual (disch := omega) [-getElem?_pos, -List.length_eq_zero_iff, -Int.natCast_eq_zero, wrap64, cond_yes, cond_yes2, int_beq, int_bne, q1, q5, q6, q7, rb, rv]
        exact rnd_next (a.take i ++ (nth a i + 1) :: List.replicate (R.length - 1 - i) 0, some (planA R a), none) (by simp [rb, rv]) ⟨hsp.1, hkn⟩ (by simp only; omega)
    | some E =>
      by_cases hbt : betP (pwF us (planA R a), stF ss (planA R a)) (pwF us E, stF ss E) (planA R a) E
      · have hnb : newB us ss release (planA R a) (some E) = some (planA R a) := by simp [newB, h1, hbt]
        rw [hnb] at hkn
        have hB := c_r19_Better (pwF us (planA R a), stF ss (planA R a)) (pwF us E, stF ss E) (planA R a) E (by omega) []
        rw [decide_eq_true hbt] at hB
        simp +contextual (disch := omega) [-getElem?_pos, -List.length_eq_zero_iff, -Int.natCast_eq_zero, wrap64, cond_yes, cond_yes2, int_beq, int_bne, hrw, hV, rb, rv, hB]
        refine r19_l1 (best := some (planA R a)) (o := none) (fd := true) hn ha (fun o ho => (hRa o ho).1.2) (fun z b he => ?_) (fun z i hi hlt he => ?_)
        · rw [he] at hsp
          simp only at hsp
          rw [hsp] at hkn
          simp +contextual (disch := omega) [-getElem?_pos, -List.length_eq_zero_iff, -Int.natCast_eq_zero, wrap64, cond_yes, cond_yes2, int_beq, int_bne, rb, rv]
          exact hK _ b none _ hkn
        · rw [he] at hsp
          simp only at hsp
          rw [← hsp.2] at hkn
          have q1 : (dcl (a.take (i + 1) ++ List.replicate (R.length - 1 - i) 0))[i]? = some (i64 ((nth a i : Nat) : Int)) := by
            rw [dcl_get (by simp; omega), nth_left (by simp; omega), nth_take (by omega)]
          have q2 := vd_nth ha i (by simpa using hi)
          rw [nth_map hi] at q2
          have q3 := (hRa _ (nth_mem hi)).1.2
          have q7 : ¬(i : Int) < 0 := by omega
          have q4 : i < a.length := by omega
          have q5 : (dcl (a.take (i + 1) ++ List.replicate (R.length - 1 - i) 0)).set i (i64 (((nth a i : Nat) : Int) + 1)) = dcl (a.take i ++ (nth a i + 1) :: List.replicate (R.length - 1 - i) 0) := by
            have := dcl_set (a := a.take (i + 1) ++ List.replicate (R.length - 1 - i) 0) (i := i) (d := nth a i + 1)
            rw [show (i64 ((nth a i + 1 : Nat) : Int)) = i64 (((nth a i : Nat) : Int) + 1) from rfl] at this
            rw [this, take_snoc q4, List.append_assoc, List.set_append_right _ _ (by simp; omega)]
            have : (a.take i).length = i := by simp; omega
            rw [this, Nat.sub_self]
            rfl
          have q6 : i < (dcl (a.take (i + 1) ++ List.replicate (R.length - 1 - i) 0)).length := by simp; omega
          simp +contextual (disch := omega) [-getElem?_pos, -List.length_eq_zero_iff, -Int.natCast_eq_zero, wrap64, cond_yes, cond_yes2, int_beq, int_bne, q1, q5, q6, q7, rb, rv]
          exact rnd_next (a.take i ++ (nth a i + 1) :: List.replicate (R.length - 1 - i) 0, some (planA R a), none) (by simp [rb, rv]) ⟨hsp.1, hkn⟩ (by simp only; omega)
      · have hnb : newB us ss release (planA R a) (some E) = some E := by simp [newB, h1, hbt]
        rw [hnb] at hkn
        have hB := c_r19_Better (pwF us (planA R a), stF ss (planA R a)) (pwF us E, stF ss E) (planA R a) E (by omega) []
        rw [decide_eq_false hbt] at hB
        simp +contextual (disch := omega) [-getElem?_pos, -List.length_eq_zero_iff, -Int.natCast_eq_zero, wrap64, cond_yes, cond_yes2, int_beq, int_bne, hrw, hV, rb, rv, hB]
        refine r19_l1 (best := some E) (o := none) (fd := true) hn ha (fun o ho => (hRa o ho).1.2) (fun z b he => ?_) (fun z i hi hlt he => ?_)
        · rw [he] at hsp
          simp only at hsp
          rw [hsp] at hkn
          simp +contextual (disch := omega) [-getElem?_pos, -List.length_eq_zero_iff, -Int.natCast_eq_zero, wrap64, cond_yes, cond_yes2, int_beq, int_bne, rb, rv]
          exact hK _ b none _ hkn
        · rw [he] at hsp
          simp only at hsp
          rw [← hsp.2] at hkn
          have q1 : (dcl (a.take (i + 1) ++ List.replicate (R.length - 1 - i) 0))[i]? = some (i64 ((nth a i : Nat) : Int)) := by
            rw [dcl_get (by simp; omega), nth_left (by simp; omega), nth_take (by omega)]
          have q2 := vd_nth ha i (by simpa using hi)
          rw [nth_map hi] at q2
          have q3 := (hRa _ (nth_mem hi)).1.2
          have q7 : ¬(i : Int) < 0 := by omega
          have q4 : i < a.length := by omega
          have q5 : (dcl (a.take (i + 1) ++ List.replicate (R.length - 1 - i) 0)).set i (i64 (((nth a i : Nat) : Int) + 1)) = dcl (a.take i ++ (nth a i + 1) :: List.replicate (R.length - 1 - i) 0) := by
            have := dcl_set (a := a.take (i + 1) ++ List.replicate (R.length - 1 - i) 0) (i := i) (d := nth a i + 1)
            rw [show (i64 ((nth a i + 1 : Nat) : Int)) = i64 (((nth a i : Nat) : Int) + 1) from rfl] at this
            rw [this, take_snoc q4, List.append_assoc, List.set_append_right _ _ (by simp; omega)]
            have : (a.take i).length = i := by simp; omega
            rw [this, Nat.sub_self]
            rfl
          have q6 : i < (dcl (a.take (i + 1) ++ List.replicate (R.length - 1 - i) 0)).length := by simp; omega
          simp +contextual (disch := omega) [-getElem?_pos, -List.length_eq_zero_iff, -Int.natCast_eq_zero, wrap64, cond_yes, cond_yes2, int_beq, int_bne, q1, q5, q6, q7, rb, rv]
          exact rnd_next (a.take i ++ (nth a i + 1) :: List.replicate (R.length - 1 - i) 0, some E, none) (by simp [rb, rv]) ⟨hsp.1, hkn⟩ (by simp only; omega)
  · have hnb : newB us ss release (planA R a) best = best := by
      cases best with
      | none => simp [newB, h1]
      | some F => simp [newB, h1]
    rw [hnb] at hkn
    refine r19_l1 (best := best) (o := (some (icells (planA R a)))) (fd := best.isSome) hn ha (fun o ho => (hRa o ho).1.2) (fun z b he => ?_) (fun z i hi hlt he => ?_)
    · rw [he] at hsp
      simp only at hsp
      rw [hsp] at hkn
      simp +contextual (disch := omega) [-getElem?_pos, -List.length_eq_zero_iff, -Int.natCast_eq_zero, wrap64, cond_yes, cond_yes2, int_beq, int_bne, rb_men]
      exact hK _ b (some (icells (planA R a))) _ hkn
    · rw [he] at hsp
      simp only at hsp
      rw [← hsp.2] at hkn
      have q1 : (dcl (a.take (i + 1) ++ List.replicate (R.length - 1 - i) 0))[i]? = some (i64 ((nth a i : Nat) : Int)) := by
        rw [dcl_get (by simp; omega), nth_left (by simp; omega), nth_take (by omega)]
      have q2 := vd_nth ha i (by simpa using hi)
      rw [nth_map hi] at q2
      have q3 := (hRa _ (nth_mem hi)).1.2
      have q7 : ¬(i : Int) < 0 := by omega
      have q4 : i < a.length := by omega
      have q5 : (dcl (a.take (i + 1) ++ List.replicate (R.length - 1 - i) 0)).set i (i64 (((nth a i : Nat) : Int) + 1)) = dcl (a.take i ++ (nth a i + 1) :: List.replicate (R.length - 1 - i) 0) := by
        have := dcl_set (a := a.take (i + 1) ++ List.replicate (R.length - 1 - i) 0) (i := i) (d := nth a i + 1)
        rw [show (i64 ((nth a i + 1 : Nat) : Int)) = i64 (((nth a i : Nat) : Int) + 1) from rfl] at this
        rw [this, take_snoc q4, List.append_assoc, List.set_append_right _ _ (by simp; omega)]
        have : (a.take i).length = i := by simp; omega
        rw [this, Nat.sub_self]
        rfl
      have q6 : i < (dcl (a.take (i + 1) ++ List.replicate (R.length - 1 - i) 0)).length := by simp; omega
      simp +contextual (disch := omega) [-getElem?_pos, -List.length_eq_zero_iff, -Int.natCast_eq_zero, wrap64, cond_yes, cond_yes2, int_beq, int_bne, q1, q5, q6, q7, rb_men]
      exact rnd_next (a.take i ++ (nth a i + 1) :: List.replicate (R.length - 1 - i) 0, best, (some (icells (planA R a)))) (by simp [rb_men]) ⟨hsp.1, hkn⟩ (by simp only; omega)

theorem c_r19_Best (us : List Un) (ss : List Us) (g release : Int) (G : List GObj) : ∃ t, Lim F 19 [uns us, sts ss, i64 g, i64 release] G = some (.tuple [.slice t 1 ((bestL us ss g release).map fun n => [i64 n]), i64 (bestE us ss g release)], G) := by
  suffices h : ∀ Q : V → Prop, (∀ t, Q (.tuple [.slice t 1 ((bestL us ss g release).map fun n => [i64 n]), i64 (bestE us ss g release)])) → Ret (Lim F) 19 [uns us, sts ss, i64 g, i64 release] G fun v G' => Q v ∧ G' = G by
    obtain ⟨_, _, h, ⟨t, rfl⟩, rfl⟩ := h (fun v => ∃ t, v = .tuple [.slice t 1 ((bestL us ss g release).map fun n => [i64 n]), i64 (bestE us ss g release)]) fun t => ⟨t, rfl⟩
    exact ⟨t, h⟩
  intro Q hQ
  refine ret_of rfl rfl ?_
  have hwr := c_r19_wrong us ss g []
  by_cases hw : wrE us ss g = 0
  · obtain ⟨w1, w2, w3, w4⟩ : us.length ≤ 6 ∧ us.length = ss.length ∧ allV us ss ∧ (1 ≤ g ∧ g ≤ 1073741824) := by
      unfold wrE at hw
      split at hw
      · cases hw
      · split at hw
        · cases hw
        · split at hw
          · cases hw
          · split at hw
            · cases hw
            · rename_i a1 a2 a3 a4
              exact ⟨by omega, Decidable.of_not_not a2, Decidable.of_not_not a3, by omega⟩
    have est : stE us ss g release = if g < 1 ∨ 1073741824 < g ∨ release < 0 ∨ 1073741824 < release then 1 else if 200 * g < release then 10 else if ¬allF us g then 10 else 0 := by
      unfold stE
      rw [if_neg (by omega), if_neg (fun h => h w2), if_neg (fun h => h w3)]
    by_cases hr : release < 0 ∨ 1073741824 < release
    · rw [if_pos (by omega)] at est
      have eL : bestL us ss g release = [] := by simp [bestL, est]
      have eE : bestE us ss g release = 1 := by simp [bestE, est]
      rw [eL, eE] at hQ
      have h8 : (!decide (0 ≤ release) || !decide (release ≤ 1073741824)) = true := by simp; omega
      simp +contextual (disch := omega) [-getElem?_pos, -List.length_eq_zero_iff, -Int.natCast_eq_zero, wrap64, cond_yes, cond_yes2, int_beq, int_bne, v_r19_Best, hwr, hw, c_r01_In, h8]
      exact hQ _
    · rw [if_neg (by omega)] at est
      have h8 : (!decide (0 ≤ release) || !decide (release ≤ 1073741824)) = false := by simp; omega
      by_cases h9 : 200 * g < release
      · rw [if_pos h9] at est
        have eL : bestL us ss g release = [] := by simp [bestL, est]
        have eE : bestE us ss g release = 10 := by simp [bestE, est]
        rw [eL, eE] at hQ
        simp +contextual (disch := omega) [-getElem?_pos, -List.length_eq_zero_iff, -Int.natCast_eq_zero, wrap64, cond_yes, cond_yes2, int_beq, int_bne, v_r19_Best, hwr, hw, c_r01_In, h8, h9]
        exact hQ _
      · rw [if_neg h9] at est
        have hA := c_r19_all w2 (by omega) w3 g []
        by_cases hF : allF us g
        · rw [if_neg (fun h => h hF)] at est
          have hE : allE us g = 0 := by simp [allE, hF]
          rw [hE, if_pos rfl, orl_cells] at hA
          have h0 := (st0_of est).1
          have hbo := best_of h0 (left := release) (by omega)
          have eL : bestL us ss g release = (recF (lls us ss g) release).getD [] := by simp [bestL, est]
          have eE : bestE us ss g release = if recF (lls us ss g) release = none then 9 else 0 := by simp [bestE, est]
          have hRl := orl_len (g := g) w2
          have hRa := fun o (ho : o ∈ orl us ss g) => orl_all h0 ho
          have hval : ∀ a, Vd ((orl us ss g).map List.length) a → valO us ss (planA (orl us ss g) a) = some ((planA (orl us ss g) a).sum, pwF us (planA (orl us ss g) a), stF ss (planA (orl us ss g) a)) := fun a ha => valO_feas ((feasR_iff w2).1 (planA_feas ha))
          have hendN : Kn us ss (orl us ss g) release (prodN ((orl us ss g).map List.length)) none → ∀ F, feas g us ss F → release < F.sum := kn_end (g := g) w2
          have hendS : ∀ F, Kn us ss (orl us ss g) release (prodN ((orl us ss g).map List.length)) (some F) → Best g us ss release F := fun F => kn_end (g := g) w2
          generalize hR : orl us ss g = R at *
          have hz : Vd (R.map List.length) (List.replicate R.length 0) := by
            have := vd_zero (ns := R.map List.length) fun n hn => by
              obtain ⟨o, ho, rfl⟩ := List.mem_map.1 hn
              exact (hRa o ho).1.1
            simpa using this
          simp +contextual (disch := omega) [-getElem?_pos, -List.length_eq_zero_iff, -Int.natCast_eq_zero, wrap64, cond_yes, cond_yes2, int_beq, int_bne, v_r19_Best, hwr, hw, c_r01_In, h8, h9, hA]
          have hic : List.replicate R.length (V.int .i64 0) = dcl (List.replicate R.length 0) := by simp [dcl, icells]
          rw [hic]
          refine r19_l2 (us := us) (ss := ss) (release := release) (by omega) w1 hRl hRa hval hz fun best b o z hkn => ?_
          cases best with
          | none =>
            have hb := hendN hkn
            have hno : recF (lls us ss g) release = none := by
              cases hc : recF (lls us ss g) release with
              | none => rfl
              | some F =>
                rw [hc] at hbo
                have := hb F hbo.feas
                have := hbo.sum
                omega
            rw [eL, eE, hno] at hQ
            simp only [if_true, Option.getD_none] at hQ
            simp +contextual (disch := omega) [-getElem?_pos, -List.length_eq_zero_iff, -Int.natCast_eq_zero, wrap64, cond_yes, cond_yes2, int_beq, int_bne, rb]
            exact hQ _
          | some F =>
            have hb := hendS F hkn
            have hso : recF (lls us ss g) release = some F := by
              cases hc : recF (lls us ss g) release with
              | none =>
                rw [hc] at hbo
                have := hbo F hb.feas
                have := hb.sum
                omega
              | some E =>
                rw [hc] at hbo
                rw [Best.unique hbo hb]
            rw [eL, eE, hso] at hQ
            simp only [Option.getD_some, reduceCtorEq, if_false] at hQ
            simp +contextual (disch := omega) [-getElem?_pos, -List.length_eq_zero_iff, -Int.natCast_eq_zero, wrap64, cond_yes, cond_yes2, int_beq, int_bne, rb]
            exact hQ _
        · rw [if_pos hF] at est
          have hE : allE us g = 10 := by simp [allE, hF]
          have eL : bestL us ss g release = [] := by simp [bestL, est]
          have eE : bestE us ss g release = 10 := by simp [bestE, est]
          rw [hE, if_neg (by omega)] at hA
          rw [eL, eE] at hQ
          simp +contextual (disch := omega) [-getElem?_pos, -List.length_eq_zero_iff, -Int.natCast_eq_zero, wrap64, cond_yes, cond_yes2, int_beq, int_bne, v_r19_Best, hwr, hw, c_r01_In, h8, h9, hA]
          exact hQ _
  · have est : stE us ss g release = wrE us ss g := by
      unfold wrE at hw ⊢
      unfold stE
      split
      · rfl
      · split
        · rfl
        · split
          · rfl
          · rename_i a1 a2 a3
            simp only [a1, a2, a3, if_false] at hw
            split at hw
            · rw [if_pos (by omega), if_pos (by assumption)]
            · exact absurd rfl hw
    have est2 : ¬stE us ss g release = 0 := by rw [est]; exact hw
    have eL : bestL us ss g release = [] := by simp [bestL, est2]
    have eE : bestE us ss g release = wrE us ss g := by simp [bestE, est, hw]
    rw [eL, eE] at hQ
    simp +contextual (disch := omega) [-getElem?_pos, -List.length_eq_zero_iff, -Int.natCast_eq_zero, wrap64, cond_yes, cond_yes2, int_beq, int_bne, v_r19_Best, hwr, hw]
    exact hQ _
end Go.Proofs.Ytnnfebjdjjbdaaa
namespace Go.Proofs.Ytnnfebjdjjbdaaa
set_option linter.all false
open Go.Vm

noncomputable def loU (g : Int) (u : Un) (s : Us) : Int := nth (chs u s g) 0
noncomputable def hiU (g : Int) (u : Un) (s : Us) : Int := nth (chs u s g) ((chs u s g).length - 1)
noncomputable def loS (g : Int) (us : List Un) (ss : List Us) : Int := (List.zipWith (loU g) us ss).sum
noncomputable def hiS (g : Int) (us : List Un) (ss : List Us) : Int := (List.zipWith (hiU g) us ss).sum

theorem chs_ne {u : Un} {s : Us} {g : Int} (hv : validP u s) : 0 < (chs u s g).length := by
  obtain ⟨q, hq⟩ := List.exists_mem_of_length_pos (opt_ne (g := g) hv)
  exact List.length_pos_of_mem (mem_optR.1 hq)
theorem up_nth {l : List Int} (h : l.Pairwise (· < ·)) : ∀ {i j : Nat}, i < j → j < l.length → nth l i < nth l j := by
  intro i j hij hj
  have := List.pairwise_iff_getElem.1 h i j (by omega) hj hij
  simpa [nth, hj, show i < l.length by omega] using this
theorem lo_le {u : Un} {s : Us} {g q : Int} (h : q ∈ chs u s g) : loU g u s ≤ q ∧ q ≤ hiU g u s := by
  obtain ⟨i, hi, rfl⟩ := mem_nth h
  unfold loU hiU
  constructor
  · rcases Nat.eq_zero_or_pos i with rfl | h1
    · omega
    · exact Int.le_of_lt (up_nth chs_up h1 hi)
  · rcases Nat.lt_or_ge i ((chs u s g).length - 1) with h1 | h1
    · exact Int.le_of_lt (up_nth chs_up h1 (by omega))
    · rw [show i = (chs u s g).length - 1 by omega]; omega
theorem lo_mem {u : Un} {s : Us} {g : Int} (hv : validP u s) : loU g u s ∈ chs u s g ∧ hiU g u s ∈ chs u s g := by
  have := chs_ne (g := g) hv
  exact ⟨nth_mem this, nth_mem (by omega)⟩
theorem lo_range {u : Un} {s : Us} {g : Int} (hv : validP u s) : (0 ≤ loU g u s ∧ loU g u s ≤ 1073741824) ∧ 0 ≤ hiU g u s ∧ hiU g u s ≤ 1073741824 := by
  obtain ⟨h1, h2⟩ := lo_mem (g := g) hv
  exact ⟨can_range (mem_chs.1 h1).2, can_range (mem_chs.1 h2).2⟩
theorem zs_range {us : List Un} {ss : List Us} {f : Un → Us → Int} (hl : us.length = ss.length) (h : ∀ i, i < us.length → 0 ≤ f (nth us i) (nth ss i) ∧ f (nth us i) (nth ss i) ≤ 1073741824) (j : Nat) (hj : j ≤ us.length) :
    0 ≤ ((List.zipWith f us ss).take j).sum ∧ ((List.zipWith f us ss).take j).sum ≤ 1073741824 * j := by
  refine sum_take (fun x hx => ?_) j (by simp; omega)
  obtain ⟨i, hi, rfl⟩ := mem_nth hx
  simp at hi
  rw [nth_zip (by omega) (by omega)]
  exact h i (by omega)

noncomputable def rngE (us : List Un) (ss : List Us) (g : Int) : Int := stE us ss g 0
noncomputable def rngV (us : List Un) (ss : List Us) (g : Int) : V := .tuple [.agg (if rngE us ss g = 0 then [i64 (loS g us ss), i64 (hiS g us ss)] else [i64 0, i64 0]), i64 (rngE us ss g)]

theorem c_dispatch_Range (us : List Un) (ss : List Us) (g : Int) (G : List GObj) : Lim F 20 [uns us, sts ss, i64 g] G = some (rngV us ss g, G) :=
  eq_of rfl rfl (by
    generalize hW : rngV us ss g = W
    unfold rngV rngE at hW
    have hS := c_station us ss g 0 []
    by_cases h0 : stE us ss g 0 = 0
    · rw [h0, if_pos rfl, lls_cells] at hS
      rw [h0, if_pos rfl] at hW
      have h1 := (st0_of h0).1
      have hL := lb_of h1
      have hll := lls_len (g := g) h1.len
      have hl := h1.len
      have hfw := h1.few
      have elt : ∀ i, i < us.length → nth (lls us ss g) i = chF g (nth us i) (nth ss i) := fun i hi => nth_zip hi (by omega)
      have r1 := fun j => zs_range (f := loU g) hl (fun i hi => (lo_range (h1.valid i hi)).1) j
      have r2 := fun j => zs_range (f := hiU g) hl (fun i hi => (lo_range (h1.valid i hi)).2) j
      simp +contextual (disch := omega) [-getElem?_pos, -List.length_eq_zero_iff, -Int.natCast_eq_zero, wrap64, cond_yes, cond_yes2, int_beq, int_bne, v_dispatch_Range, hS]
      refine go_loop (fun i : Nat => v_dispatch_Range_s0 (.slice none 1 ((lls us ss g).map chl)) (lls us ss g).length i [i64 0, i64 0] [i64 ((List.zipWith (loU g) us ss).take i).sum, i64 ((List.zipWith (hiU g) us ss).take i).sum] G) (fun i => i ≤ us.length) (fun i => us.length - i) 0 rfl (by simp) (by omega) ?_
      intro i hi
      simp +contextual (disch := omega) [-getElem?_pos, -List.length_eq_zero_iff, -Int.natCast_eq_zero, wrap64, cond_yes, cond_yes2, int_beq, int_bne, v_dispatch_Range_b0]
      refine cnd_dec (fun h2 => ?_) (fun h2 => ?_)
      · have h2 : i < us.length := by omega
        have h3 : i < (lls us ss g).length := by omega
        have h4 := elt i h2
        have h5 := chs_ne (g := g) (h1.valid i h2)
        have h6 : (chF g (nth us i) (nth ss i)).length = (chs (nth us i) (nth ss i) g).length := by simp [chF]
        have h7 := chs_len (s := nth ss i) (h1.flows i h2)
        have h8 : (nth (chF g (nth us i) (nth ss i)) 0).flow = loU g (nth us i) (nth ss i) := by rw [chF, nth_map h5]; rfl
        have h9 : (nth (chF g (nth us i) (nth ss i)) ((chF g (nth us i) (nth ss i)).length - 1)).flow = hiU g (nth us i) (nth ss i) := by rw [h6, chF, nth_map (by omega)]; rfl
        have s1 := r1 i hi
        have s2 := r2 i hi
        have s3 := lo_range (g := g) (h1.valid i h2)
        have e1 : ((List.zipWith (loU g) us ss).take (i + 1)).sum = ((List.zipWith (loU g) us ss).take i).sum + loU g (nth us i) (nth ss i) := by
          rw [take_snoc (by simp; omega), nth_zip h2 (by omega)]; simp
        have e2 : ((List.zipWith (hiU g) us ss).take (i + 1)).sum = ((List.zipWith (hiU g) us ss).take i).sum + hiU g (nth us i) (nth ss i) := by
          rw [take_snoc (by simp; omega), nth_zip h2 (by omega)]; simp
        generalize chF g (nth us i) (nth ss i) = L at *
        have h10 : ¬(L.length : Int) = 0 := by omega
        have h11 : 0 < L.length := by omega
        have h12 : ((L.length : Int) - 1).toNat = L.length - 1 := by omega
        have h13 : L.length - 1 < L.length := by omega
        have h14 := get_nth h11
        have h15 := get_nth h13
        simp +contextual (disch := omega) [-getElem?_pos, -List.length_eq_zero_iff, -Int.natCast_eq_zero, wrap64, cond_yes, cond_yes2, int_beq, int_bne, get_nth h3, h4, h10, h12, h14, h15, h8, h9]
        exact rnd_next (i + 1) (by simp [e1, e2]) (by omega) (by omega)
      · obtain rfl : i = us.length := by omega
        rw [List.take_of_length_le (by simp; omega), List.take_of_length_le (by simp; omega)]
        simpa [loS, hiS] using hW
    · rw [if_neg h0] at hS hW
      simp +contextual (disch := omega) [-getElem?_pos, -List.length_eq_zero_iff, -Int.natCast_eq_zero, wrap64, cond_yes, cond_yes2, int_beq, int_bne, v_dispatch_Range, hS, h0]
      exact hW)

theorem c_r19_Range (us : List Un) (ss : List Us) (g : Int) (G : List GObj) : Lim F 21 [uns us, sts ss, i64 g] G = some (rngV us ss g, G) :=
  eq_of rfl rfl (by
    generalize hW : rngV us ss g = W
    unfold rngV rngE at hW
    have hwr := c_r19_wrong us ss g []
    by_cases hw : wrE us ss g = 0
    · obtain ⟨w1, w2, w3, w4⟩ : us.length ≤ 6 ∧ us.length = ss.length ∧ allV us ss ∧ (1 ≤ g ∧ g ≤ 1073741824) := by
        unfold wrE at hw
        split at hw
        · cases hw
        · split at hw
          · cases hw
          · split at hw
            · cases hw
            · split at hw
              · cases hw
              · rename_i a1 a2 a3 a4
                exact ⟨by omega, Decidable.of_not_not a2, Decidable.of_not_not a3, by omega⟩
      have est : stE us ss g 0 = if ¬allF us g then 10 else 0 := by
        unfold stE
        rw [if_neg (by omega), if_neg (fun h => h w2), if_neg (fun h => h w3), if_neg (by omega), if_neg (by omega)]
      have hA := c_r19_all w2 (by omega) w3 g []
      by_cases hF : allF us g
      · rw [if_neg (fun h => h hF)] at est
        have hE : allE us g = 0 := by simp [allE, hF]
        rw [hE, if_pos rfl, orl_cells] at hA
        rw [est, if_pos rfl] at hW
        have h0 := (st0_of est).1
        have hRl := orl_len (g := g) w2
        have r1 := fun j => zs_range (f := loU g) w2 (fun i hi => (lo_range (w3 i hi)).1) j
        have r2 := fun j => zs_range (f := hiU g) w2 (fun i hi => (lo_range (w3 i hi)).2) j
        simp +contextual (disch := omega) [-getElem?_pos, -List.length_eq_zero_iff, -Int.natCast_eq_zero, wrap64, cond_yes, cond_yes2, int_beq, int_bne, v_r19_Range, hwr, hw, hA]
        refine go_loop (fun i : Nat => v_r19_Range_s1 (rls (orl us ss g)) (orl us ss g).length i [i64 0, i64 0] [i64 ((List.zipWith (loU g) us ss).take i).sum, i64 ((List.zipWith (hiU g) us ss).take i).sum] G) (fun i => i ≤ us.length) (fun i => us.length - i) 0 rfl (by simp) (by omega) ?_
        intro i hi
        simp +contextual (disch := omega) [-getElem?_pos, -List.length_eq_zero_iff, -Int.natCast_eq_zero, wrap64, cond_yes, cond_yes2, int_beq, int_bne, v_r19_Range_b1]
        refine cnd_dec (fun h2 => ?_) (fun h2 => ?_)
        · have h2 : i < us.length := by omega
          have h3 : i < (orl us ss g).length := by omega
          have h4 : nth (orl us ss g) i = optR (nth us i) (nth ss i) g := nth_zip h2 (by omega)
          have h5 := opt_ne (g := g) (w3 i h2)
          have h7 := optR_len (s := nth ss i) (hF i h2)
          have s1 := r1 i hi
          have s2 := r2 i hi
          have s3 := lo_range (g := g) (w3 i h2)
          have e1 : ((List.zipWith (loU g) us ss).take (i + 1)).sum = ((List.zipWith (loU g) us ss).take i).sum + loU g (nth us i) (nth ss i) := by
            rw [take_snoc (by simp; omega), nth_zip h2 (by omega)]; simp
          have e2 : ((List.zipWith (hiU g) us ss).take (i + 1)).sum = ((List.zipWith (hiU g) us ss).take i).sum + hiU g (nth us i) (nth ss i) := by
            rw [take_snoc (by simp; omega), nth_zip h2 (by omega)]; simp
          have m1 := lo_mem (g := g) (w3 i h2)
          have mm : ∀ q, q ∈ optR (nth us i) (nth ss i) g → loU g (nth us i) (nth ss i) ≤ q ∧ q ≤ hiU g (nth us i) (nth ss i) := fun q hq => lo_le (mem_optR.1 hq)
          have m2 := mem_optR.2 m1.1
          have m3 := mem_optR.2 m1.2
          generalize loU g (nth us i) (nth ss i) = lo at *
          generalize hiU g (nth us i) (nth ss i) = hi' at *
          generalize optR (nth us i) (nth ss i) g = L at *
          have h14 := get_int h5
          simp +contextual (disch := omega) [-getElem?_pos, -List.length_eq_zero_iff, -Int.natCast_eq_zero, wrap64, cond_yes, cond_yes2, int_beq, int_bne, get_nth h3, h4, h14]
          refine go_loop (fun x : Nat × Int × Int => v_r19_Range_s0 x.2.1 x.2.2 (rls (orl us ss g)) (orl us ss g).length i (ints L) L.length x.1 [i64 0, i64 0] [i64 ((List.zipWith (loU g) us ss).take i).sum, i64 ((List.zipWith (hiU g) us ss).take i).sum] G)
            (fun x => x.1 ≤ L.length ∧ (x.2.1 ∈ L ∧ x.2.2 ∈ L) ∧ ∀ j, j < x.1 → x.2.1 ≤ nth L j ∧ nth L j ≤ x.2.2) (fun x => L.length - x.1) (0, nth L 0, nth L 0) rfl (by simp) ⟨by omega, ⟨nth_mem h5, nth_mem h5⟩, by simp⟩ ?_
          rintro ⟨j, a, b⟩ ⟨j1, ⟨j2, j3⟩, j4⟩
          simp only at j1 j2 j3 j4
          simp +contextual (disch := omega) [-getElem?_pos, -List.length_eq_zero_iff, -Int.natCast_eq_zero, wrap64, cond_yes, cond_yes2, int_beq, int_bne, v_r19_Range_b0]
          refine cnd_dec (fun h6 => ?_) (fun h6 => ?_)
          · have h6 : j < L.length := by omega
            simp +contextual (disch := omega) [-getElem?_pos, -List.length_eq_zero_iff, -Int.natCast_eq_zero, wrap64, cond_yes, cond_yes2, int_beq, int_bne, get_int h6]
            refine rnd_next (j + 1, min a (nth L j), max b (nth L j)) (by simp) ⟨by omega, ⟨?_, ?_⟩, fun k hk => ?_⟩ (by simp; omega)
            · rcases Int.le_total a (nth L j) with h | h
              · simp only; rw [Int.min_eq_left h]; exact j2
              · simp only; rw [Int.min_eq_right h]; exact nth_mem h6
            · rcases Int.le_total b (nth L j) with h | h
              · simp only; rw [Int.max_eq_right h]; exact nth_mem h6
              · simp only; rw [Int.max_eq_left h]; exact j3
            · rcases Nat.lt_or_ge k j with h | h
              · have := j4 k h
                simp only; omega
              · rw [show k = j by omega]
                simp only; omega
          · obtain rfl : j = L.length := by omega
            have ea : a = lo := by
              obtain ⟨k, k1, k2⟩ := mem_nth m2
              have := j4 k k1
              have := (mm a j2).1
              omega
            have eb : b = hi' := by
              obtain ⟨k, k1, k2⟩ := mem_nth m3
              have := j4 k k1
              have := (mm b j3).2
              omega
            subst ea eb
            simp +contextual (disch := omega) [-getElem?_pos, -List.length_eq_zero_iff, -Int.natCast_eq_zero, wrap64, cond_yes, cond_yes2, int_beq, int_bne, wrap64]
            exact rnd_next (i + 1) (by simp [e1, e2]) (by omega) (by omega)
        · obtain rfl : i = us.length := by omega
          rw [List.take_of_length_le (by simp; omega), List.take_of_length_le (by simp; omega)]
          simpa [loS, hiS] using hW
      · rw [if_pos hF] at est
        have hE : allE us g = 10 := by simp [allE, hF]
        rw [hE, if_neg (by omega)] at hA
        rw [est, if_neg (by omega)] at hW
        simp +contextual (disch := omega) [-getElem?_pos, -List.length_eq_zero_iff, -Int.natCast_eq_zero, wrap64, cond_yes, cond_yes2, int_beq, int_bne, v_r19_Range, hwr, hw, hA]
        exact hW
    · have est : stE us ss g 0 = wrE us ss g := by
        unfold wrE at hw ⊢
        unfold stE
        split
        · rfl
        · split
          · rfl
          · split
            · rfl
            · rename_i a1 a2 a3
              simp only [a1, a2, a3, if_false] at hw
              split at hw
              · rw [if_pos (by omega), if_pos (by assumption)]
              · exact absurd rfl hw
      rw [est, if_neg hw] at hW
      simp +contextual (disch := omega) [-getElem?_pos, -List.length_eq_zero_iff, -Int.natCast_eq_zero, wrap64, cond_yes, cond_yes2, int_beq, int_bne, v_r19_Range, hwr, hw]
      exact hW)
end Go.Proofs.Ytnnfebjdjjbdaaa
namespace Go.Proofs.Ytnnfebjdjjbdaaa
set_option linter.all false
open Go.Vm

theorem stE_zero {us : List Un} {ss : List Us} {g release : Int} (h : St0 us ss g) (h1 : 0 ≤ release ∧ release ≤ 1073741824) (h2 : release ≤ 200 * g) : stE us ss g release = 0 := by
  have := h.few
  have := h.grain
  unfold stE
  rw [if_neg (by omega), if_neg (fun q => q h.len), if_neg (fun q => q h.valid), if_neg (by omega), if_neg (by omega), if_neg (fun q => q h.flows)]
theorem best_facts {us : List Un} {ss : List Us} {g release : Int} (h : St0 us ss g) (h1 : 0 ≤ release ∧ release ≤ 1073741824) (h2 : release ≤ 200 * g) :
    (bestE us ss g release = 0 ∧ Best g us ss release (bestL us ss g release)) ∨ (bestE us ss g release = 9 ∧ bestL us ss g release = [] ∧ ∀ F, feas g us ss F → release < F.sum) := by
  have hs := stE_zero h h1 h2
  have hb := best_of h h1.1
  unfold bestE bestL
  rw [hs]
  cases hc : recF (lls us ss g) release with
  | none =>
    rw [hc] at hb
    exact .inr ⟨by simp, by simp, hb⟩
  | some F =>
    rw [hc] at hb
    exact .inl ⟨by simp, by simpa using hb⟩

theorem st0_made {a : List Un} {b : List Us} (h : Uws a b) (hn : a.length ≤ 6) {g : Int} (hg : 1 ≤ g ∧ g ≤ 1073741824) : St0 a b g :=
  ⟨hn, h.len, h.state, hg, fun i hi => (h.unit i hi).flE hg.1 hg.2⟩

theorem feas_lo {g : Int} : ∀ {us : List Un} {ss : List Us}, us.length = ss.length → allV us ss → feas g us ss (List.zipWith (loU g) us ss)
  | [], [], _, _ => trivial
  | [], _ :: _, h, _ => by simp at h
  | _ :: _, [], h, _ => by simp at h
  | u :: us, s :: ss, h, hv => ⟨(lo_mem (hv 0 (by simp))).1, feas_lo (by simpa using h) fun i hi => hv (i + 1) (by simpa using hi)⟩
theorem feas_sum {g : Int} : ∀ {us : List Un} {ss : List Us} {F : List Int}, feas g us ss F → loS g us ss ≤ F.sum ∧ F.sum ≤ hiS g us ss
  | [], [], [], _ => by simp [loS, hiS]
  | u :: us, s :: ss, q :: F, h => by
    have ih := feas_sum h.2
    have h1 := lo_le h.1
    simp only [loS, hiS, List.zipWith_cons_cons, List.sum_cons] at ih ⊢
    omega
  | [], _ :: _, _, h => h.elim
  | [], [], _ :: _, h => h.elim
  | _ :: _, [], _, h => h.elim
  | _ :: _, _ :: _, [], h => h.elim

theorem more_walk {l : List Int} (hl : l.length ≤ 9223372036854775807) (more : Int) : ∃ G', Lim F 7 [ints l, i64 more] [] = some (.bool true, G') := by
  suffices h : Ret (Lim F) 7 [ints l, i64 more] [] fun v G => v = .bool true by
    obtain ⟨_, G, h, rfl⟩ := h
    exact ⟨G, h⟩
  refine ret_of rfl rfl ?_
  obtain ⟨us, ss, k1, n1, hd1, hu, hn⟩ := c_mk_Units (l := l) (k := 0) ⟨by omega, hl⟩ (m := 3) (by omega)
  obtain ⟨g, k2, n2, hd2, hg⟩ := c_Next hd1 4 (by omega)
  obtain ⟨r, k3, n3, hd3, hr⟩ := c_Next hd2 60 (by omega)
  have h0 := st0_made hu (by omega) (g := 1 + g) (by omega)
  have hM := c_Mod (n := more) (m := 30) (by omega) []
  have hm := modV_range (v := more) (n := 30) (by omega) (by omega)
  generalize modV more 30 = mo at hM hm
  have hR := c_dispatch_Range us ss (1 + g) []
  obtain ⟨G1, hB1⟩ := c_dispatch_Best us ss (1 + g) r
  obtain ⟨G2, hB2⟩ := c_dispatch_Best us ss (1 + g) (r + mo)
  have f1 := best_facts h0 (release := r) (by omega) (by omega)
  have f2 := best_facts h0 (release := r + mo) (by omega) (by omega)
  have hrE : rngE us ss (1 + g) = 0 := stE_zero h0 (by omega) (by omega)
  have hlo := feas_lo (g := 1 + g) hu.len hu.state
  have hlos : (List.zipWith (loU (1 + g)) us ss).sum = loS (1 + g) us ss := rfl
  have hlh := feas_sum hlo
  rw [hlos] at hlh
  have n1' : Lim F 16 [.gptr 0 0, i64 3] [dk l 0] = some (.tuple [unsO us, stsO ss], [dk l k1]) := n1
  unfold rngV at hR
  rw [hrE, if_pos rfl] at hR
  have hV := fun fs => c_dispatch_Value us ss fs (by omega) []
  rcases f1 with ⟨e1, b1⟩ | ⟨e1, e1', b1⟩
  · have hge : loS (1 + g) us ss ≤ r := by have := (feas_sum b1.feas).1; have := b1.sum; omega
    rcases f2 with ⟨e2, b2⟩ | ⟨e2, _, b2⟩
    · have v1 := valO_feas b1.feas
      have v2 := valO_feas b2.feas
      have hb := b2.best _ b1.feas (by have := b1.sum; omega)
      rw [bet_iff] at hb
      unfold vgt at hb
      have hs := (feas_sum b2.feas).2
      rw [e1] at hB1
      rw [e2] at hB2
      generalize bestL us ss (1 + g) r = x at *
      generalize bestL us ss (1 + g) (r + mo) = y at *
      have hV1 := hV x
      have hV2 := hV y
      rw [v1] at hV1
      rw [v2] at hV2
      simp only [valV] at hV1 hV2
      have g1 : ¬(hiS (1 + g) us ss < loS (1 + g) us ss) := by omega
      have g2 : pwF us x ≤ pwF us y := by simp only at hb; omega
      simp (config := { maxSteps := 2000000 }) +contextual (disch := omega) [-getElem?_pos, -List.length_eq_zero_iff, -Int.natCast_eq_zero, wrap64, cond_yes, cond_yes2, int_beq, int_bne, v_w19_DispatchMore, c_New, n1', n2, n3, hR, hB1, hM, hB2, g1, hge, hV1, hV2, g2, hs, c_awake19]
    · exact absurd (b2 _ b1.feas) (by have := b1.sum; omega)
  · have hlt := b1 _ hlo
    rw [hlos] at hlt
    have g1 : ¬(hiS (1 + g) us ss < loS (1 + g) us ss) := by omega
    have g2 : ¬(loS (1 + g) us ss ≤ r) := by omega
    rw [e1, e1'] at hB1
    rcases f2 with ⟨e2, b2⟩ | ⟨e2, _, b2⟩
    · rw [e2] at hB2
      simp (config := { maxSteps := 2000000 }) +contextual (disch := omega) [-getElem?_pos, -List.length_eq_zero_iff, -Int.natCast_eq_zero, wrap64, cond_yes, cond_yes2, int_beq, int_bne, v_w19_DispatchMore, c_New, n1', n2, n3, hR, hB1, hM, hB2, g1, g2, c_awake19]
    · rw [e2] at hB2
      simp (config := { maxSteps := 2000000 }) +contextual (disch := omega) [-getElem?_pos, -List.length_eq_zero_iff, -Int.natCast_eq_zero, wrap64, cond_yes, cond_yes2, int_beq, int_bne, v_w19_DispatchMore, c_New, n1', n2, n3, hR, hB1, hM, hB2, g1, g2, c_awake19]
end Go.Proofs.Ytnnfebjdjjbdaaa
namespace Go.Proofs.Ytnnfebjdjjbdaaa
set_option linter.all false
open Go.Vm

def somQ (g : Int) : List Un → List Int → Prop
  | u :: us, q :: F => (q ∈ goods u g ∨ q = 0) ∧ somQ g us F
  | [], [] => True
  | _, _ => False
theorem somQ_snoc {g : Int} : ∀ {us : List Un} {F : List Int} {q : Int}, somQ g (us.take F.length) F → (h : F.length < us.length) → (q ∈ goods (nth us F.length) g ∨ q = 0) → somQ g (us.take (F.length + 1)) (F ++ [q])
  | u :: us, [], q, _, _, hq => ⟨hq, trivial⟩
  | u :: us, x :: F, q, h, hl, hq => ⟨h.1, somQ_snoc (us := us) h.2 (by simpa using hl) hq⟩
  | [], _, _, _, h, _ => by simp at h
theorem valR_feas' {g : Int} : ∀ {us : List Un} {ss : List Us} {F : List Int} {a r : Int × Int × Int}, us.length = ss.length → somQ g us F → valR us ss F a = some r → feas g us ss F
  | [], [], [], _, _, _, _, _ => trivial
  | u :: us, s :: ss, q :: F, a, r, hl, hq, hv => by
    unfold valR at hv
    split at hv
    · rename_i hc
      refine ⟨mem_chs.2 ⟨?_, hc⟩, valR_feas' (by simpa using hl) hq.2 hv⟩
      rcases hq.1 with h | h
      · exact .inl h
      · exact .inr (.inl h)
    · cases hv
  | [], _ :: _, _, _, _, h, _, _ => by simp at h
  | _ :: _, [], _, _, _, h, _, _ => by simp at h
  | [], [], _ :: _, _, _, _, h, _ => h.elim
  | _ :: _, _ :: _, [], _, _, _, h, _ => h.elim

theorem greatest_walk {l : List Int} (hl : l.length ≤ 9223372036854775807) : ∃ G', Lim F 5 [ints l] [] = some (.bool true, G') := by
  suffices h : Ret (Lim F) 5 [ints l] [] fun v G => v = .bool true by
    obtain ⟨_, G, h, rfl⟩ := h
    exact ⟨G, h⟩
  refine ret_of rfl rfl ?_
  obtain ⟨us, ss, k1, n1, hd1, hu, hn⟩ := c_mk_Units (l := l) (k := 0) ⟨by omega, hl⟩ (m := 3) (by omega)
  obtain ⟨g, k2, n2, hd2, hg⟩ := c_Next hd1 4 (by omega)
  obtain ⟨r, k3, n3, hd3, hr⟩ := c_Next hd2 60 (by omega)
  have h0 := st0_made hu (by omega) (g := 1 + g) (by omega)
  obtain ⟨G1, hB1⟩ := c_dispatch_Best us ss (1 + g) r
  have f1 := best_facts h0 (release := r) (by omega) (by omega)
  have n1' : Lim F 16 [.gptr 0 0, i64 3] [dk l 0] = some (.tuple [unsO us, stsO ss], [dk l k1]) := n1
  have hV := fun fs => c_dispatch_Value us ss fs (by omega) []
  rcases f1 with ⟨e1, b1⟩ | ⟨e1, e1', b1⟩
  · have v1 := valO_feas b1.feas
    have hlen := (feas_len b1.feas).1
    have hsum := b1.sum
    rw [e1] at hB1
    generalize bestL us ss (1 + g) r = x at *
    have hV1 := hV x
    rw [v1] at hV1
    simp only [valV] at hV1
    have hns : ¬r < x.sum := by omega
    simp (config := { maxSteps := 2000000 }) +contextual (disch := omega) [-getElem?_pos, -List.length_eq_zero_iff, -Int.natCast_eq_zero, wrap64, cond_yes, cond_yes2, int_beq, int_bne, v_w19_DispatchGreatest, c_New, n1', n2, n3, hB1, hV1, hlen, hns]
    refine go_loop (fun y : Nat × Nat => v_w19_DispatchGreatest_s1 (.gptr 0 0) (uns us) (sts ss) (1 + g) r (ints x) (pwF us x) (stF ss x) y.1 [dk l y.2]) (fun y => y.1 ≤ 8 ∧ okd l y.2) (fun y => 8 - y.1) (0, k3) rfl (by simp) ⟨by simp, hd3⟩ ?_
    rintro ⟨c, k4⟩ ⟨hc, hd4⟩
    simp only at hc hd4
    simp +contextual (disch := omega) [-getElem?_pos, -List.length_eq_zero_iff, -Int.natCast_eq_zero, wrap64, cond_yes, cond_yes2, int_beq, int_bne, v_w19_DispatchGreatest_b1]
    refine cnd_dec (fun h1 => ?_) (fun h1 => ?_)
    · refine go_loop (fun y : List Int × Nat => v_w19_DispatchGreatest_s0 (.gptr 0 0) (uns us) (sts ss) (1 + g) r (ints x) (pwF us x) (stF ss x) (.slice (some 1112) 1 (y.1.map fun n => [i64 n])) c us.length y.1.length y.1.length [dk l y.2])
        (fun y => y.1.length ≤ us.length ∧ somQ (1 + g) (us.take y.1.length) y.1 ∧ okd l y.2) (fun y => us.length - y.1.length) ([], k4) rfl (by simp) ⟨by simp, trivial, hd4⟩ ?_
      rintro ⟨p, k5⟩ ⟨hp, hq, hd5⟩
      simp only at hp hq hd5
      simp +contextual (disch := omega) [-getElem?_pos, -List.length_eq_zero_iff, -Int.natCast_eq_zero, wrap64, cond_yes, cond_yes2, int_beq, int_bne, v_w19_DispatchGreatest_b0]
      refine cnd_dec (fun h2 => ?_) (fun h2 => ?_)
      · have h2 : p.length < us.length := by omega
        have hfl := h0.flows p.length h2
        have hF := c_r18_Flows (nth us p.length) (1 + g) []
        rw [hfl] at hF
        have hfs : fls (nth us p.length) (1 + g) = goods (nth us p.length) (1 + g) := by simp [fls, hfl]
        rw [hfs] at hF
        have hgl := goods_len hfl
        obtain ⟨b1, k6, n6, hd6, hb1⟩ := c_Next hd5 3 (by omega)
        obtain ⟨b2, k7, n7, hd7, hb2⟩ := c_Next hd6 (goods (nth us p.length) (1 + g)).length (by omega)
        by_cases h3 : 0 < (goods (nth us p.length) (1 + g)).length
        · by_cases h4 : 0 < b1
          · have h5 : b2.toNat < (goods (nth us p.length) (1 + g)).length := by omega
            simp (config := { maxSteps := 2000000 }) +contextual (disch := omega) [-getElem?_pos, -List.length_eq_zero_iff, -Int.natCast_eq_zero, wrap64, cond_yes, cond_yes2, int_beq, int_bne, get_nth (l := us), hF, h3, n6, h4, n7, get_int h5]
            exact rnd_next (p ++ [nth (goods (nth us p.length) (1 + g)) b2.toNat], k7) (by simp) ⟨by simp; omega, by simpa using somQ_snoc hq h2 (.inl (nth_mem h5)), hd7⟩ (by simp; omega)
          · simp (config := { maxSteps := 2000000 }) +contextual (disch := omega) [-getElem?_pos, -List.length_eq_zero_iff, -Int.natCast_eq_zero, wrap64, cond_yes, cond_yes2, int_beq, int_bne, get_nth (l := us), hF, h3, n6, h4]
            exact rnd_next (p ++ [0], k6) (by simp) ⟨by simp; omega, by simpa using somQ_snoc hq h2 (.inr rfl), hd6⟩ (by simp; omega)
        · simp (config := { maxSteps := 2000000 }) +contextual (disch := omega) [-getElem?_pos, -List.length_eq_zero_iff, -Int.natCast_eq_zero, wrap64, cond_yes, cond_yes2, int_beq, int_bne, get_nth (l := us), hF, h3]
          exact rnd_next (p ++ [0], k5) (by simp) ⟨by simp; omega, by simpa using somQ_snoc hq h2 (.inr rfl), hd5⟩ (by simp; omega)
      · have h3 : p.length = us.length := by omega
        rw [h3, List.take_length] at hq
        have hV2 := hV p
        cases hv : valO us ss p with
        | none =>
          rw [hv] at hV2
          simp only [valV] at hV2
          simp (config := { maxSteps := 2000000 }) +contextual (disch := omega) [-getElem?_pos, -List.length_eq_zero_iff, -Int.natCast_eq_zero, wrap64, cond_yes, cond_yes2, int_beq, int_bne, hV2]
          exact rnd_next (c + 1, k5) (by simp) ⟨by simp only; omega, hd5⟩ (by simp; omega)
        | some q =>
          have hfe : feas (1 + g) us ss p := by
            unfold valO at hv
            rw [if_pos ⟨hu.len, h3.symm⟩] at hv
            exact valR_feas' hu.len hq hv
          have hv2 := valO_feas hfe
          rw [hv2] at hV2
          simp only [valV] at hV2
          by_cases h4 : p.sum ≤ r
          · have hb := b1.best p hfe h4
            have hBt := c_dispatch_Better (pwF us p, stF ss p) (pwF us x, stF ss x) p x (by omega) []
            rw [decide_eq_false hb] at hBt
            simp (config := { maxSteps := 2000000 }) +contextual (disch := omega) [-getElem?_pos, -List.length_eq_zero_iff, -Int.natCast_eq_zero, wrap64, cond_yes, cond_yes2, int_beq, int_bne, hV2, h4, hBt]
            exact rnd_next (c + 1, k5) (by simp) ⟨by simp only; omega, hd5⟩ (by simp; omega)
          · simp (config := { maxSteps := 2000000 }) +contextual (disch := omega) [-getElem?_pos, -List.length_eq_zero_iff, -Int.natCast_eq_zero, wrap64, cond_yes, cond_yes2, int_beq, int_bne, hV2, h4]
            exact rnd_next (c + 1, k5) (by simp) ⟨by simp only; omega, hd5⟩ (by simp; omega)
    · simp (config := { maxSteps := 2000000 }) +contextual (disch := omega) [-getElem?_pos, -List.length_eq_zero_iff, -Int.natCast_eq_zero, wrap64, cond_yes, cond_yes2, int_beq, int_bne, c_awake19]
  · rw [e1, e1'] at hB1
    have hne : us ≠ [] := by
      rintro rfl
      have := b1 [] (by cases ss with | nil => trivial | cons _ _ => have := hu.len; simp at this)
      simp at this; omega
    have hpos : 0 < us.length := List.length_pos_iff.2 hne
    simp (config := { maxSteps := 2000000 }) +contextual (disch := omega) [-getElem?_pos, -List.length_eq_zero_iff, -Int.natCast_eq_zero, wrap64, cond_yes, cond_yes2, int_beq, int_bne, v_w19_DispatchGreatest, c_New, n1', n2, n3, hB1, hpos, c_awake19]
end Go.Proofs.Ytnnfebjdjjbdaaa
namespace Go.Proofs.Ytnnfebjdjjbdaaa
set_option linter.all false
open Go.Vm

theorem feas_app {g : Int} : ∀ {a b : List Un} {c d : List Us} {E F : List Int}, a.length = c.length → a.length = E.length → (feas g (a ++ b) (c ++ d) (E ++ F) ↔ feas g a c E ∧ feas g b d F)
  | [], b, [], d, [], F, _, _ => by simp [feas]
  | u :: a, b, s :: c, d, q :: E, F, h1, h2 => by
    have ih := feas_app (g := g) (a := a) (b := b) (c := c) (d := d) (E := E) (F := F) (by simpa using h1) (by simpa using h2)
    show (q ∈ chs u s g ∧ feas g (a ++ b) (c ++ d) (E ++ F)) ↔ (q ∈ chs u s g ∧ feas g a c E) ∧ feas g b d F
    rw [ih, and_assoc]
  | [], _, _ :: _, _, _, _, h, _ => by simp at h
  | _ :: _, _, [], _, _, _, h, _ => by simp at h
  | [], _, [], _, _ :: _, _, _, h => by simp at h
  | _ :: _, _, _ :: _, _, [], _, _, h => by simp at h
theorem pwF_app : ∀ {a b : List Un} {E F : List Int}, a.length = E.length → pwF (a ++ b) (E ++ F) = pwF a E + pwF b F
  | [], b, [], F, _ => by simp [pwF]
  | u :: a, b, q :: E, F, h => by
    have ih := pwF_app (a := a) (b := b) (E := E) (F := F) (by simpa using h)
    simp only [List.cons_append, pwF, ih]; omega
  | [], _, _ :: _, _, h => by simp at h
  | _ :: _, _, [], _, h => by simp at h
theorem stF_app : ∀ {a b : List Us} {E F : List Int}, a.length = E.length → stF (a ++ b) (E ++ F) = stF a E + stF b F
  | [], b, [], F, _ => by simp [stF]
  | u :: a, b, q :: E, F, h => by
    have ih := stF_app (a := a) (b := b) (E := E) (F := F) (by simpa using h)
    simp only [List.cons_append, stF, ih]; omega
  | [], _, _ :: _, _, h => by simp at h
  | _ :: _, _, [], _, h => by simp at h
/-- A plan of units, and of the units in another order. -/
theorem feas_rot {g : Int} {us : List Un} {ss : List Us} {F : List Int} (k : Nat) (h : feas g us ss F) : feas g (us.drop k ++ us.take k) (ss.drop k ++ ss.take k) (F.drop k ++ F.take k) ∧
    pwF (us.drop k ++ us.take k) (F.drop k ++ F.take k) = pwF us F ∧ stF (ss.drop k ++ ss.take k) (F.drop k ++ F.take k) = stF ss F ∧ (F.drop k ++ F.take k).sum = F.sum := by
  obtain ⟨l1, l2⟩ := feas_len h
  have hu : us = us.take k ++ us.drop k := (List.take_append_drop k us).symm
  have hs : ss = ss.take k ++ ss.drop k := (List.take_append_drop k ss).symm
  have hF : F = F.take k ++ F.drop k := (List.take_append_drop k F).symm
  have a1 : (us.take k).length = (ss.take k).length := by simp; omega
  have a2 : (us.take k).length = (F.take k).length := by simp; omega
  have a3 : (ss.take k).length = (F.take k).length := by simp; omega
  have b1 : (us.drop k).length = (ss.drop k).length := by simp; omega
  have b2 : (us.drop k).length = (F.drop k).length := by simp; omega
  have b3 : (ss.drop k).length = (F.drop k).length := by simp; omega
  have h' : feas g (us.take k ++ us.drop k) (ss.take k ++ ss.drop k) (F.take k ++ F.drop k) := by rwa [← hu, ← hs, ← hF]
  obtain ⟨c1, c2⟩ := (feas_app a1 a2).1 h'
  refine ⟨(feas_app b1 b2).2 ⟨c2, c1⟩, ?_, ?_, ?_⟩
  · rw [pwF_app b2]
    have := pwF_app (b := us.drop k) (F := F.drop k) a2
    rw [← hu, ← hF] at this
    omega
  · rw [stF_app b3]
    have := stF_app (b := ss.drop k) (F := F.drop k) a3
    rw [← hs, ← hF] at this
    omega
  · have := List.sum_append (l₁ := F.take k) (l₂ := F.drop k)
    rw [← hF] at this
    rw [List.sum_append]
    omega
theorem rot_rot {α : Type} (l : List α) (k : Nat) (hk : k ≤ l.length) : (l.drop k ++ l.take k).drop (l.length - k) ++ (l.drop k ++ l.take k).take (l.length - k) = l := by
  have h1 : (l.drop k).length = l.length - k := by simp
  rw [← h1, List.drop_left, List.take_left, List.take_append_drop]

theorem pow_zero {u : Un} : pow u 0 = 0 := by simp [pow]
theorem stt_zero {s : Us} : stt s 0 = 0 := by simp [stt]
theorem lexC_snoc : ∀ {p q : List Int}, p.length = q.length → lexC (p ++ [0]) (q ++ [0]) = lexC p q
  | [], [], _ => by simp [lexC]
  | a :: p, b :: q, h => by
    have ih := lexC_snoc (p := p) (q := q) (by simpa using h)
    simp only [List.cons_append, lexC, ih]
  | [], _ :: _, h => by simp at h
  | _ :: _, [], h => by simp at h
theorem valid_out {w : Un} (hw : uChk w = 0) : validP w ⟨0, 0, true⟩ := ⟨hw, by simp only; omega, .inl rfl⟩
theorem chs_out {w : Un} (hw : uChk w = 0) {g q : Int} : q ∈ chs w ⟨0, 0, true⟩ g ↔ q = 0 := by
  rw [mem_chs]
  constructor
  · rintro ⟨_, _, h⟩
    unfold mayP at h
    split at h
    · assumption
    · cases h.1
  · rintro rfl
    exact ⟨.inr (.inl rfl), valid_out hw, by simp [mayP]⟩
theorem feas_out {g : Int} {us : List Un} {ss : List Us} {w : Un} (hw : uChk w = 0) (hl : us.length = ss.length) {F : List Int} : feas g (us ++ [w]) (ss ++ [⟨0, 0, true⟩]) F ↔ ∃ E, F = E ++ [0] ∧ feas g us ss E := by
  constructor
  · intro h
    have l := feas_len h
    have e : F = F.take us.length ++ F.drop us.length := (List.take_append_drop _ F).symm
    rw [e] at h
    have l1 : us.length = (F.take us.length).length := by simp at l ⊢; omega
    obtain ⟨h1, h2⟩ := (feas_app hl l1).1 h
    refine ⟨F.take us.length, ?_, h1⟩
    cases hd : F.drop us.length with
    | nil => rw [hd] at h2; exact h2.elim
    | cons q r =>
      rw [hd] at h2 e
      have h3 := (chs_out hw).1 h2.1
      cases r with
      | nil => rw [e, h3]; simp [← l1]
      | cons _ _ => exact h2.2.elim
  · rintro ⟨E, rfl, h⟩
    have l := feas_len h
    exact (feas_app hl (by omega)).2 ⟨h, (chs_out hw).2 rfl, trivial⟩
theorem best_out {g r : Int} {us : List Un} {ss : List Us} {w : Un} (hw : uChk w = 0) (hl : us.length = ss.length) {x : List Int} (h : Best g us ss r x) : Best g (us ++ [w]) (ss ++ [⟨0, 0, true⟩]) r (x ++ [0]) := by
  have lx := feas_len h.feas
  refine ⟨(feas_out hw hl).2 ⟨x, rfl, h.feas⟩, by simpa using h.sum, fun E0 hE0 hs => ?_⟩
  obtain ⟨E, rfl, hE⟩ := (feas_out hw hl).1 hE0
  have lE := feas_len hE
  have hb := h.best E hE (by simpa using hs)
  rw [pwF_app (by omega), pwF_app (by omega), stF_app (by omega), stF_app (by omega)]
  rw [bet_iff] at hb ⊢
  rw [lexC_snoc (by omega)]
  simpa [pwF, stF, pow_zero, stt_zero] using hb

theorem best_out_none {g r : Int} {us : List Un} {ss : List Us} {w : Un} (hw : uChk w = 0) (hl : us.length = ss.length) (h : ∀ F, feas g us ss F → r < F.sum) : ∀ F, feas g (us ++ [w]) (ss ++ [⟨0, 0, true⟩]) F → r < F.sum := by
  intro F hF
  obtain ⟨E, rfl, hE⟩ := (feas_out hw hl).1 hF
  simpa using h E hE

theorem allV_app {a b : List Un} {c d : List Us} (hl : a.length = c.length) (h1 : allV a c) (h2 : allV b d) : allV (a ++ b) (c ++ d) := by
  intro i hi
  simp at hi
  rcases Nat.lt_or_ge i a.length with h | h
  · rw [nth_left h, nth_left (by omega)]; exact h1 i h
  · rw [nth_right h, nth_right (by omega), ← hl]; exact h2 _ (by omega)
theorem allF_app {a b : List Un} {g : Int} (h1 : allF a g) (h2 : allF b g) : allF (a ++ b) g := by
  intro i hi
  simp at hi
  rcases Nat.lt_or_ge i a.length with h | h
  · rw [nth_left h]; exact h1 i h
  · rw [nth_right h]; exact h2 _ (by omega)
theorem nth_drop {α : Type} [Inhabited α] {l : List α} {i k : Nat} : nth (l.drop k) i = nth l (k + i) := by simp [nth, List.getElem?_drop]
theorem st0_rot {us : List Un} {ss : List Us} {g : Int} (h : St0 us ss g) (k : Nat) : St0 (us.drop k ++ us.take k) (ss.drop k ++ ss.take k) g := by
  have hl := h.len
  refine ⟨by have := h.few; simp; omega, by simp; omega, ?_, h.grain, ?_⟩
  · refine allV_app (by simp; omega) (fun i hi => ?_) (fun i hi => ?_)
    · simp at hi
      rw [nth_drop, nth_drop]; exact h.valid _ (by omega)
    · simp at hi
      rw [nth_take (by omega), nth_take (by omega)]; exact h.valid _ (by omega)
  · refine allF_app (fun i hi => ?_) (fun i hi => ?_)
    · simp at hi
      rw [nth_drop]; exact h.flows _ (by omega)
    · simp at hi
      rw [nth_take (by omega)]; exact h.flows _ (by omega)
theorem st0_out {us : List Un} {ss : List Us} {w : Un} {g : Int} (h : St0 us ss g) (hn : us.length ≤ 5) (hw : Uw w) : St0 (us ++ [w]) (ss ++ [⟨0, 0, true⟩]) g := by
  have hl := h.len
  have hg := h.grain
  refine ⟨by simp; omega, by simp [hl], allV_app hl h.valid (fun i hi => ?_), hg, allF_app h.flows (fun i hi => ?_)⟩
  · simp at hi; subst hi; exact valid_out hw.chk
  · simp at hi; subst hi; exact hw.flE hg.1 hg.2

@[simp high] theorem opk_g_app {L : CallF} {d : Option Nat} {g : Nat} {f : Nat} {s : Option Nat} {h : Sh} {x y : Opd} {w : Bool} {os : List VOp} {keep : Keep} {k : Post} {S : St} :
    opk L (⟨d, .app f s h x y, some (g, w)⟩ :: os) keep k S = gcnd w (Go.Vm.look g S.env) (opk L (⟨d, .app f s h x y, none⟩ :: os) keep k S) (opk L os keep k (S.put d .undef)) := by
  rw [opk_guard, opk_guard]
  simp only [VOp.run]
  rcases Go.Vm.look g S.env with _ | v
  · simp [bnd, gcnd]
  · cases v with
    | bool b => simp only [gcnd]; cases b == w <;> simp
    | undef => simp [gcnd]
    | _ => simp [bnd, gcnd]
@[simp high] theorem opk_g_lit {L : CallF} {d : Option Nat} {g : Nat} {f : Option Nat} {h : Sh} {z : List V} {n : Nat} {q : List (Nat × Opd)} {w : Bool} {os : List VOp} {keep : Keep} {k : Post} {S : St} :
    opk L (⟨d, .lit f h z n q, some (g, w)⟩ :: os) keep k S = gcnd w (Go.Vm.look g S.env) (opk L (⟨d, .lit f h z n q, none⟩ :: os) keep k S) (opk L os keep k (S.put d .undef)) := by
  rw [opk_guard, opk_guard]
  simp only [VOp.run]
  rcases Go.Vm.look g S.env with _ | v
  · simp [bnd, gcnd]
  · cases v with
    | bool b => simp only [gcnd]; cases b == w <;> simp
    | undef => simp [gcnd]
    | _ => simp [bnd, gcnd]
set_option maxRecDepth 100000 in
set_option maxHeartbeats 4000000 in
theorem turns_walk {l : List Int} (hl : l.length ≤ 9223372036854775807) (turn : Int) : ∃ G', Lim F 6 [ints l, i64 turn] [] = some (.bool true, G') := by
  suffices h : Ret (Lim F) 6 [ints l, i64 turn] [] fun v G => v = .bool true by
    obtain ⟨_, G, h, rfl⟩ := h
    exact ⟨G, h⟩
  refine ret_of rfl rfl ?_
  obtain ⟨us, ss, k1, n1, hd1, hu, hn⟩ := c_mk_Units (l := l) (k := 0) ⟨by omega, hl⟩ (m := 3) (by omega)
  obtain ⟨g, k2, n2, hd2, hg⟩ := c_Next hd1 4 (by omega)
  obtain ⟨r, k3, n3, hd3, hr⟩ := c_Next hd2 60 (by omega)
  obtain ⟨w, k4, n4, hd4, hw⟩ := c_mk_Unit hd3
  have h0 := st0_made hu (by omega) (g := 1 + g) (by omega)
  have n1' : Lim F 16 [.gptr 0 0, i64 3] [dk l 0] = some (.tuple [unsO us, stsO ss], [dk l k1]) := n1
  have hul := hu.len
  obtain ⟨k, hk1, hk2⟩ : ∃ k : Nat, k ≤ us.length ∧ (if 0 < us.length then modV turn us.length else 0) = (k : Int) := by
    split
    · have := modV_range (v := turn) (n := us.length) (by omega) (by omega)
      exact ⟨(modV turn us.length).toNat, by omega, by omega⟩
    · exact ⟨0, by omega, rfl⟩
  have h1 := st0_rot h0 k
  have h2 := st0_out h0 (by omega) hw
  have f1 := best_facts h0 (release := r) (by omega) (by omega)
  have f2 := best_facts h1 (release := r) (by omega) (by omega)
  have f3 := best_facts h2 (release := r) (by omega) (by omega)
  obtain ⟨G1, hB1⟩ := c_dispatch_Best us ss (1 + g) r
  obtain ⟨G2, hB2⟩ := c_dispatch_Best (us.drop k ++ us.take k) (ss.drop k ++ ss.take k) (1 + g) r
  obtain ⟨G3, hB3⟩ := c_dispatch_Best (us ++ [w]) (ss ++ [⟨0, 0, true⟩]) (1 + g) r
  have hV1 := fun fs => c_dispatch_Value us ss fs (by omega) []
  have hkM : 0 < us.length → Lim F 24 [i64 turn, i64 us.length] [] = some (i64 k, []) := fun h => by
    rw [if_pos h] at hk2
    rw [← hk2]
    exact c_Mod (by omega) []
  have R1 : ∀ F, feas (1 + g) us ss F → ∃ E, feas (1 + g) (us.drop k ++ us.take k) (ss.drop k ++ ss.take k) E ∧ pwF (us.drop k ++ us.take k) E = pwF us F ∧ stF (ss.drop k ++ ss.take k) E = stF ss F ∧ E.sum = F.sum := fun F hF => ⟨_, feas_rot k hF⟩
  have R2 : ∀ E, feas (1 + g) (us.drop k ++ us.take k) (ss.drop k ++ ss.take k) E → ∃ F, feas (1 + g) us ss F ∧ pwF us F = pwF (us.drop k ++ us.take k) E ∧ stF ss F = stF (ss.drop k ++ ss.take k) E ∧ F.sum = E.sum := fun E hE => by
    have h := feas_rot (us.length - k) hE
    rw [rot_rot us k hk1] at h
    have h3 := rot_rot ss k (by omega)
    rw [← hul] at h3
    rw [h3] at h
    exact ⟨_, h⟩
  have D1 : (us.map Un.row).drop k ++ (us.map Un.row).take k = (us.drop k ++ us.take k).map Un.row := by simp
  have D2 : (ss.map Us.row).drop k ++ (ss.map Us.row).take k = (ss.drop k ++ ss.take k).map Us.row := by simp
  have D3 : us.map Un.row ++ [w.row] = (us ++ [w]).map Un.row := by simp
  have D4 : ss.map Us.row ++ [[i64 0, i64 0, .bool true]] = (ss ++ [(⟨0, 0, true⟩ : Us)]).map Us.row := by simp
  have T1 : (us.map Un.row).take us.length = us.map Un.row := List.take_of_length_le (by simp)
  have T2 : (ss.map Us.row).take ss.length = ss.map Us.row := List.take_of_length_le (by simp)
  have hlim : lim = 4294967296 := rfl
  have L1 : us.length ≤ lim + k := by omega
  have L2 : ss.length ≤ lim + k := by omega
  have c1 := hw.chk
  have bo := fun x => best_out (g := 1 + g) (r := r) (x := x) (w := w) c1 hul
  have bn := best_out_none (g := 1 + g) (r := r) (w := w) c1 hul
  have hvl : (us.drop k ++ us.take k).length = us.length := by simp; omega
  have hul2 : (us ++ [w]).length = us.length + 1 := by simp
  generalize us.drop k ++ us.take k = v at *
  generalize ss.drop k ++ ss.take k = t at *
  generalize us ++ [w] = uw at *
  generalize ss ++ [(⟨0, 0, true⟩ : Us)] = sw at *
  have main : (bestE us ss (1 + g) r = 0 ∧ bestE v t (1 + g) r = 0 ∧ bestE uw sw (1 + g) r = 0 ∧ bestL uw sw (1 + g) r = bestL us ss (1 + g) r ++ [0] ∧
      valO us ss (bestL us ss (1 + g) r) = some ((bestL us ss (1 + g) r).sum, pwF us (bestL us ss (1 + g) r), stF ss (bestL us ss (1 + g) r)) ∧
      (∃ n, valO v t (bestL v t (1 + g) r) = some (n, pwF us (bestL us ss (1 + g) r), stF ss (bestL us ss (1 + g) r))) ∧ (bestL us ss (1 + g) r).length = us.length) ∨
      (bestE us ss (1 + g) r = 9 ∧ bestE v t (1 + g) r = 9 ∧ bestE uw sw (1 + g) r = 9 ∧ bestL us ss (1 + g) r = [] ∧ bestL v t (1 + g) r = [] ∧ bestL uw sw (1 + g) r = []) := by
    rcases f1 with ⟨a1, a2⟩ | ⟨a1, a2, a3⟩
    · rcases f2 with ⟨b1, b2⟩ | ⟨b1, b2, b3⟩
      · rcases f3 with ⟨d1, d2⟩ | ⟨d1, d2, d3⟩
        · refine .inl ⟨a1, b1, d1, Best.unique d2 (bo _ a2), valO_feas a2.feas, ⟨(bestL v t (1 + g) r).sum, ?_⟩, (feas_len a2.feas).1⟩
          rw [valO_feas b2.feas]
          obtain ⟨E, e1, e2, e3, e4⟩ := R1 _ a2.feas
          obtain ⟨F, g1, g2, g3, g4⟩ := R2 _ b2.feas
          have p1 := b2.best E e1 (by have := a2.sum; omega)
          have p2 := a2.best F g1 (by have := b2.sum; omega)
          rw [bet_iff] at p1 p2
          unfold vgt at p1 p2
          simp only at p1 p2
          have q1 : pwF v (bestL v t (1 + g) r) = pwF us (bestL us ss (1 + g) r) := by omega
          have q2 : stF t (bestL v t (1 + g) r) = stF ss (bestL us ss (1 + g) r) := by omega
          rw [q1, q2]
        · exact absurd (d3 _ (bo _ a2).feas) (by have := (bo _ a2).sum; omega)
      · obtain ⟨E, e1, _, _, e4⟩ := R1 _ a2.feas
        exact absurd (b3 E e1) (by have := a2.sum; omega)
    · rcases f2 with ⟨b1, b2⟩ | ⟨b1, b2, b3⟩
      · obtain ⟨F, g1, _, _, g4⟩ := R2 _ b2.feas
        exact absurd (a3 F g1) (by have := b2.sum; omega)
      · rcases f3 with ⟨d1, d2⟩ | ⟨d1, d2, d3⟩
        · exact absurd (bn a3 _ d2.feas) (by have := d2.sum; omega)
        · exact .inr ⟨a1, b1, d1, a2, b2, d2⟩
  have hV2 := fun fs => c_dispatch_Value v t fs (by omega) []
  rcases main with ⟨a1, a2, a3, a4, a5, ⟨n, a6⟩, a7⟩ | ⟨a1, a2, a3, a4, a5, a6⟩
  · rw [a1] at hB1
    rw [a2] at hB2
    rw [a3, a4] at hB3
    generalize bestL us ss (1 + g) r = x at *
    generalize bestL v t (1 + g) r = y at *
    have hV1 := hV1 x
    have hV2 := hV2 y
    rw [a5] at hV1
    rw [a6] at hV2
    simp only [valV] at hV1 hV2
    have hS := c_Same (x ++ [0]) (x ++ [0]) (by simp; omega) []
    rw [decide_eq_true rfl] at hS
    simp only [ints, List.map_append, List.map_cons, List.map_nil] at hS
    by_cases hp : 0 < us.length
    · have hM := hkM hp
      simp (config := { maxSteps := 2000000 }) +contextual (disch := omega) [-getElem?_pos, -List.length_eq_zero_iff, -Int.natCast_eq_zero, wrap64, cond_yes, cond_yes2, int_beq, int_bne, v_w19_DispatchTurns, c_New, n1', n2, n3, hp, hM, T1, T2, L1, L2, D1, D2, n4, D3, D4, hB1, hB2, hB3, hV1, hV2, hS, c_awake19]
    · have hk0 : k = 0 := by rw [if_neg hp] at hk2; omega
      subst hk0
      simp only [List.drop_zero, List.take_zero, List.append_nil] at D1 D2
      simp only [uns, sts, ← D1, ← D2] at hB2 hV2
      simp (config := { maxSteps := 2000000 }) +contextual (disch := omega) [-getElem?_pos, -List.length_eq_zero_iff, -Int.natCast_eq_zero, wrap64, cond_yes, cond_yes2, int_beq, int_bne, v_w19_DispatchTurns, c_New, n1', n2, n3, hp, T1, T2, L1, L2, n4, D3, D4, hB1, hB2, hB3, hV1, hV2, hS, c_awake19]
  · rw [a1, a4] at hB1
    rw [a2, a5] at hB2
    rw [a3, a6] at hB3
    by_cases hp : 0 < us.length
    · have hM := hkM hp
      simp (config := { maxSteps := 2000000 }) +contextual (disch := omega) [-getElem?_pos, -List.length_eq_zero_iff, -Int.natCast_eq_zero, wrap64, cond_yes, cond_yes2, int_beq, int_bne, v_w19_DispatchTurns, c_New, n1', n2, n3, hp, hM, T1, T2, L1, L2, D1, D2, n4, D3, D4, hB1, hB2, hB3]
      simp +contextual (disch := omega) [-getElem?_pos, -List.length_eq_zero_iff, -Int.natCast_eq_zero, wrap64, cond_yes, cond_yes2, int_beq, int_bne, c_awake19]
    · have hk0 : k = 0 := by rw [if_neg hp] at hk2; omega
      subst hk0
      simp only [List.drop_zero, List.take_zero, List.append_nil] at D1 D2
      simp only [uns, sts, ← D1, ← D2] at hB2
      simp (config := { maxSteps := 2000000 }) +contextual (disch := omega) [-getElem?_pos, -List.length_eq_zero_iff, -Int.natCast_eq_zero, wrap64, cond_yes, cond_yes2, int_beq, int_bne, v_w19_DispatchTurns, c_New, n1', n2, n3, hp, T1, T2, L1, L2, n4, D3, D4, hB1, hB2, hB3]
      simp +contextual (disch := omega) [-getElem?_pos, -List.length_eq_zero_iff, -Int.natCast_eq_zero, wrap64, cond_yes, cond_yes2, int_beq, int_bne, c_awake19]
end Go.Proofs.Ytnnfebjdjjbdaaa
namespace Go.Proofs.Ytnnfebjdjjbdaaa
set_option linter.all false
open Go.Vm

theorem c_light (us : List Un) (ss : List Us) (g : Int) (G : List GObj) : ∃ b, Lim F 17 [uns us, sts ss, i64 g] G = some (.bool b, G) := by
  suffices h : ∀ Q : V → Prop, (∀ b, Q (.bool b)) → Ret (Lim F) 17 [uns us, sts ss, i64 g] G fun v G' => Q v ∧ G' = G by
    obtain ⟨_, _, h, ⟨b, rfl⟩, rfl⟩ := h (fun v => ∃ b, v = .bool b) fun b => ⟨b, rfl⟩
    exact ⟨b, h⟩
  intro Q hQ
  refine ret_of rfl rfl ?_
  simp +contextual (disch := omega) [-getElem?_pos, -List.length_eq_zero_iff, -Int.natCast_eq_zero, wrap64, cond_yes, cond_yes2, int_beq, int_bne, v_w19_light]
  refine cnd_bool (fun h => ?_) (fun h => ?_)
  · exact hQ _
  · simp [-List.length_eq_zero_iff, -Int.natCast_eq_zero] at h
    have h1 : us.length = ss.length := by omega
    refine go_loop (fun i : Nat => v_w19_light_s0 (uns us) (sts ss) g us.length i G) (fun i => i ≤ us.length ∧ ∀ j, j < i → validP (nth us j) (nth ss j)) (fun i => us.length - i) 0 rfl (by simp [h1]) ⟨by omega, by omega⟩ ?_
    rintro i ⟨hi, hv⟩
    simp +contextual (disch := omega) [-getElem?_pos, -List.length_eq_zero_iff, -Int.natCast_eq_zero, wrap64, cond_yes, cond_yes2, int_beq, int_bne, v_w19_light_b0]
    refine cnd_dec (fun h2 => ?_) (fun h2 => ?_)
    · have h2 : i < us.length := by omega
      by_cases h4 : validP (nth us i) (nth ss i)
      · simp +contextual (disch := omega) [-getElem?_pos, -List.length_eq_zero_iff, -Int.natCast_eq_zero, wrap64, cond_yes, cond_yes2, int_beq, int_bne, get_nth (l := us), get_nth (l := ss), c_r18_Valid, h4]
        refine rnd_next (i + 1) (by simp) ⟨by omega, fun j hj => ?_⟩ (by omega)
        rcases Nat.lt_or_ge j i with h5 | h5
        · exact hv j h5
        · rwa [show j = i by omega]
      · simp +contextual (disch := omega) [-getElem?_pos, -List.length_eq_zero_iff, -Int.natCast_eq_zero, wrap64, cond_yes, cond_yes2, int_beq, int_bne, get_nth (l := us), get_nth (l := ss), c_r18_Valid, h4]
        exact hQ _
    · obtain rfl : i = us.length := by omega
      obtain ⟨n, hn⟩ := c_r19_Count h1 (by omega) hv g []
      simp +contextual (disch := omega) [-getElem?_pos, -List.length_eq_zero_iff, -Int.natCast_eq_zero, wrap64, cond_yes, cond_yes2, int_beq, int_bne, hn]
      exact hQ _

theorem c_dispatch_Best' (us : List Un) (ss : List Us) (g release : Int) : ∃ G', Lim F 18 [uns us, sts ss, i64 g, i64 release] [] = some (.tuple [own (bestL us ss g release), i64 (bestE us ss g release)], G') := c_dispatch_Best us ss g release

theorem bestL_len (us : List Un) (ss : List Us) (g release : Int) : (bestL us ss g release).length ≤ 6 := by
  unfold bestL
  split
  · simp
  · rename_i h
    have h : stE us ss g release = 0 := Decidable.of_not_not h
    obtain ⟨h0, h1, h2⟩ := st0_of h
    have hb := best_of h0 h1.1
    cases hc : recF (lls us ss g) release with
    | none => simp
    | some E =>
      rw [hc] at hb
      have := feas_len hb.feas
      have := h0.few
      simp; omega

theorem rngV_two (us : List Un) (ss : List Us) (g : Int) : ∃ a b e, rngV us ss g = .tuple [.agg [i64 a, i64 b], i64 e] := by
  unfold rngV
  split
  · exact ⟨_, _, _, rfl⟩
  · exact ⟨_, _, _, rfl⟩

set_option maxHeartbeats 4000000 in
theorem best_walk {l : List Int} (hl : l.length ≤ 9223372036854775807) (ru : List Un) (rs : List Us) (grain release : Int) : ∃ G', Lim F 4 [uns ru, sts rs, ints l, i64 grain, i64 release] [] = some (.bool true, G') := by
  suffices h : Ret (Lim F) 4 [uns ru, sts rs, ints l, i64 grain, i64 release] [] fun v G => v = .bool true by
    obtain ⟨_, G, h, rfl⟩ := h
    exact ⟨G, h⟩
  refine ret_of rfl rfl ?_
  simp +contextual (disch := omega) [-getElem?_pos, -List.length_eq_zero_iff, -Int.natCast_eq_zero, wrap64, cond_yes, cond_yes2, int_beq, int_bne, v_w19_DispatchBest]
  refine cnd_bool (fun h => ?_) (fun h => ?_)
  · simp +contextual (disch := omega) [-getElem?_pos, -List.length_eq_zero_iff, -Int.natCast_eq_zero, wrap64, cond_yes, cond_yes2, int_beq, int_bne, c_awake19]
  · simp [-List.length_eq_zero_iff, -Int.natCast_eq_zero] at h
    obtain ⟨us, ss, k1, n1, hd1, hu, hn⟩ := c_mk_Units (l := l) (k := 0) ⟨by omega, hl⟩ (m := 3) (by omega)
    obtain ⟨g, k2, n2, hd2, hg⟩ := c_Next hd1 4 (by omega)
    have n1' : Lim F 16 [.gptr 0 0, i64 3] [dk l 0] = some (.tuple [unsO us, stsO ss], [dk l k1]) := n1
    simp +contextual (disch := omega) [-getElem?_pos, -List.length_eq_zero_iff, -Int.natCast_eq_zero, wrap64, cond_yes, cond_yes2, int_beq, int_bne, c_New, n1', n2]
    refine go_loop (fun x : Nat × Nat => v_w19_DispatchBest_s2 (sts rs) grain release (.gptr 0 0) (sts ss) (1 + g) (.slice none 1 [[uns us], [uns ru]]) 2 x.1 [dk l x.2]) (fun x => x.1 ≤ 2 ∧ okd l x.2) (fun x => 2 - x.1) (0, k2) rfl (by simp) ⟨by simp, hd2⟩ ?_
    rintro ⟨i, k3⟩ ⟨hi, hd3⟩
    simp only at hi hd3
    simp +contextual (disch := omega) [-getElem?_pos, -List.length_eq_zero_iff, -Int.natCast_eq_zero, wrap64, cond_yes, cond_yes2, int_beq, int_bne, v_w19_DispatchBest_b2]
    refine cnd_dec (fun h1 => ?_) (fun h1 => ?_)
    · have h1 : i < 2 := by omega
      obtain ⟨x, hx⟩ : ∃ x, ([[uns us], [uns ru]] : List (List V))[i]? = some [uns x] := by
        rcases (by omega : i = 0 ∨ i = 1) with rfl | rfl
        · exact ⟨us, rfl⟩
        · exact ⟨ru, rfl⟩
      simp +contextual (disch := omega) [-getElem?_pos, -List.length_eq_zero_iff, -Int.natCast_eq_zero, wrap64, cond_yes, cond_yes2, int_beq, int_bne, hx]
      refine go_loop (fun y : Nat × Nat => v_w19_DispatchBest_s1 (sts rs) grain release (.gptr 0 0) (sts ss) (1 + g) (uns x) (.slice none 1 [[uns us], [uns ru]]) 2 i (.slice none 1 [[sts ss], [sts rs]]) 2 y.1 [dk l y.2]) (fun y => y.1 ≤ 2 ∧ okd l y.2) (fun y => 2 - y.1) (0, k3) rfl (by simp) ⟨by simp, hd3⟩ ?_
      rintro ⟨j, k4⟩ ⟨hj, hd4⟩
      simp only at hj hd4
      simp +contextual (disch := omega) [-getElem?_pos, -List.length_eq_zero_iff, -Int.natCast_eq_zero, wrap64, cond_yes, cond_yes2, int_beq, int_bne, v_w19_DispatchBest_b1]
      refine cnd_dec (fun h2 => ?_) (fun h2 => ?_)
      · have h2 : j < 2 := by omega
        obtain ⟨y, hy⟩ : ∃ y, ([[sts ss], [sts rs]] : List (List V))[j]? = some [sts y] := by
          rcases (by omega : j = 0 ∨ j = 1) with rfl | rfl
          · exact ⟨ss, rfl⟩
          · exact ⟨rs, rfl⟩
        obtain ⟨q1, k5, n5, hd5, hq1⟩ := c_Next hd4 60 (by omega)
        obtain ⟨q2, k6, n6, hd6, hq2⟩ := c_Next hd5 60 (by omega)
        simp +contextual (disch := omega) [-getElem?_pos, -List.length_eq_zero_iff, -Int.natCast_eq_zero, wrap64, cond_yes, cond_yes2, int_beq, int_bne, hy, n5, n6]
        refine go_loop (fun z : Nat => v_w19_DispatchBest_s0 (sts rs) grain release (.gptr 0 0) (sts ss) (1 + g) (uns x) (sts y) (.slice none 1 [[uns us], [uns ru]]) 2 i (.slice none 1 [[sts ss], [sts rs]]) 2 j (.slice none 2 [[i64 (1 + g), i64 q1], [i64 grain, i64 release], [i64 (1 + g), i64 release], [i64 grain, i64 q2]]) 4 z [dk l k6])
          (fun z => z ≤ 4) (fun z => 4 - z) 0 rfl (by simp) (by omega) ?_
        intro z hz
        simp +contextual (disch := omega) [-getElem?_pos, -List.length_eq_zero_iff, -Int.natCast_eq_zero, wrap64, cond_yes, cond_yes2, int_beq, int_bne, v_w19_DispatchBest_b0]
        refine cnd_dec (fun h3 => ?_) (fun h3 => ?_)
        · have h3 : z < 4 := by omega
          obtain ⟨pg, pr, hp⟩ : ∃ pg pr, ([[i64 (1 + g), i64 q1], [i64 grain, i64 release], [i64 (1 + g), i64 release], [i64 grain, i64 q2]] : List (List V))[z]? = some [i64 pg, i64 pr] := by
            rcases (by omega : z = 0 ∨ z = 1 ∨ z = 2 ∨ z = 3) with rfl | rfl | rfl | rfl
            · exact ⟨_, _, rfl⟩
            · exact ⟨_, _, rfl⟩
            · exact ⟨_, _, rfl⟩
            · exact ⟨_, _, rfl⟩
          obtain ⟨b, hL⟩ := c_light x y pg []
          cases b with
          | false =>
            simp +contextual (disch := omega) [-getElem?_pos, -List.length_eq_zero_iff, -Int.natCast_eq_zero, wrap64, cond_yes, cond_yes2, int_beq, int_bne, hp, hL]
            exact rnd_next (z + 1) (by simp) (by omega) (by omega)
          | true =>
            obtain ⟨G1, hB1⟩ := c_dispatch_Best x y pg pr
            obtain ⟨t, hB2⟩ := c_r19_Best x y pg pr []
            have hR1 := c_dispatch_Range x y pg []
            have hR2 := c_r19_Range x y pg []
            obtain ⟨r1, r2, r3, hr⟩ := rngV_two x y pg
            rw [hr] at hR1 hR2
            have hl6 := bestL_len x y pg pr
            generalize bestL x y pg pr = F at *
            have hS := c_Same F F (by omega) []
            rw [decide_eq_true rfl] at hS
            cases t with
            | none =>
              simp (config := { maxSteps := 2000000 }) +contextual (disch := omega) [-getElem?_pos, -List.length_eq_zero_iff, -Int.natCast_eq_zero, wrap64, cond_yes, cond_yes2, int_beq, int_bne, hp, hL, hB1, hB2, hR1, hR2, V.aeq, eqCells, eqCell, hS]
              exact rnd_next (z + 1) (by simp) (by omega) (by omega)
            | some t =>
              simp (config := { maxSteps := 2000000 }) +contextual (disch := omega) [-getElem?_pos, -List.length_eq_zero_iff, -Int.natCast_eq_zero, wrap64, cond_yes, cond_yes2, int_beq, int_bne, hp, hL, hB1, hB2, hR1, hR2, V.aeq, eqCells, eqCell, hS]
              exact rnd_next (z + 1) (by simp) (by omega) (by omega)
        · obtain rfl : z = 4 := by omega
          exact rnd_next (j + 1, k6) (by simp) ⟨by simp only; omega, hd6⟩ (by simp; omega)
      · exact rnd_next (i + 1, k4) (by simp) ⟨by simp only; omega, hd4⟩ (by simp; omega)
    · simp +contextual (disch := omega) [-getElem?_pos, -List.length_eq_zero_iff, -Int.natCast_eq_zero, wrap64, cond_yes, cond_yes2, int_beq, int_bne, c_awake19]
end Go.Proofs.Ytnnfebjdjjbdaaa
