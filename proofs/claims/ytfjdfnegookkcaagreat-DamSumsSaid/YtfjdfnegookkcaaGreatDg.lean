/-
  Parts of the proof, joined: Dam7, Dob1, Dam8, Dsm1, Dsm2.
-/
import Derived.Test.YtfjdfnegookkcaaGreatDe
namespace Go.Proofs.YtfjdfnegookkcaaGreat
set_option linter.all false
open Go.Vm

theorem nxu_valid {u : Un} {s : Us} (hv : validP u s) (q : Int) : validP u (nxu u s q) := by
  have h1 := hv.2.1
  unfold nxu
  split
  · rename_i hm
    refine ⟨hv.1, ?_, ?_⟩
    · unfold nextS; simp only; split <;> omega
    · unfold nextS; simp only
      unfold mayP at hm
      by_cases hq : q = 0
      · exact .inl hq
      · rw [if_neg hq] at hm; exact .inr ⟨hm.1, hm.2.2⟩
  · exact ⟨hv.1, by simp, .inl rfl⟩
theorem bs_el {lv w : Int} {g : List Gt} {s : List Gs} (hl : g.length = s.length) (hs : allG g s) (hv : ∀ i, i < g.length → Gv (nth g i)) : ∀ i, i ≤ g.length →
    ∀ j, j < g.length → 0 ≤ nth (bs lv w g s i).1 j ∧ nth (bs lv w g s i).1 j ≤ (nth g j).most := by
  intro i
  induction i with
  | zero =>
    intro _ j hj
    have hr := rch_ok (hv j hj) (hs j hj)
    simp only [bs]
    rw [gel_nth hj (by omega)]
    omega
  | succ i ih =>
    intro hi j hj
    simp only [bs]
    rw [nth_set (by rw [bs_len hl]; omega)]
    split
    · rename_i e
      subst e
      have hr := rch_ok (hv i hj) (hs i hj)
      have ho := opn_range (lv := lv) (w := w) (hv i hj) (hs i hj) (bs lv w g s i).2
      omega
    · exact ih (by omega) j hj
theorem setS_len {g : List Gt} {s : List Gs} {lv w : Int} (h : aE g s lv = 0) (hw : 0 ≤ w ∧ w ≤ 1073741824) : (setS g s lv w).length = g.length ∧ allG g (setS g s lv w) := by
  obtain ⟨h1, h2, h3, h4, h5⟩ := aE_zero h
  have hE : setE g s lv w = 0 := by simp [setE, h, hw]
  have hS : setS g s lv w = outS (bs lv w g s g.length).1 s := by unfold setS; rw [if_pos hE]
  have hb := bs_len (lv := lv) (w := w) h2 g.length
  rw [hS]
  refine ⟨by simp [outS]; omega, fun i hi => ?_⟩
  unfold outS
  rw [nth_zip (by omega) (by omega)]
  exact bs_el h2 h3 h4 g.length (Nat.le_refl _) i hi

theorem nus_nth {d : Dm} {s : Ds} {m : Int} {n i : Nat} (hi : i < n) : nth (nus d s m n) i = nxu (nth d.u i) (nth s.u i) (flw d s m i) := by
  unfold nus
  simp [nth, hi]
/-- A step leads to a right state. -/
theorem stS_fit {d : Dm} (h : Dv d) {s : Ds} (hf : dfit d s) {inf los rel : Int} (hi : 0 ≤ inf ∧ inf ≤ 1073741824) (hl : 0 ≤ los ∧ los ≤ 1073741824) (hr : 0 ≤ rel ∧ rel ≤ 1073741824) : dfit d (stS d s inf los rel) := by
  have p := stp_of h hf hi hl hr
  have hv := hf.1
  have hC := dCr_range h.r
  have hD := dDd_range h.r
  have hT := p.T0
  have hP := p.P0
  have hs := p.sum
  have hL := p.L
  have hfr : fre d (stL s inf los) ≤ stL s inf los := by unfold fre; omega
  have hO : stO d s inf los rel = max (stL s inf los - (stT d s inf los rel + stP d s inf los rel) - dCr d) 0 := rfl
  have hg := setS_len (aE_dam h hf) p.w0
  refine ⟨?_, ?_, nus_len, hg.1, fun i hi => ?_, hg.2⟩
  · show 0 ≤ stL s inf los - (stT d s inf los rel + stP d s inf los rel) - stO d s inf los rel ∧ stL s inf los - (stT d s inf los rel + stP d s inf los rel) - stO d s inf los rel ≤ dCr d
    omega
  · show 0 ≤ min (stT d s inf los rel + stP d s inf los rel) 1073741824 ∧ min (stT d s inf los rel + stP d s inf los rel) 1073741824 ≤ 1073741824
    omega
  · show validP (nth d.u i) (nth (nus d s _ d.u.length) i)
    rw [nus_nth hi]
    exact nxu_valid (hf.2.2.2.2.1 i hi) _

def balL (a b : Ds) (r : Dr) : List Int := [a.v, b.v, r.inf, r.los, r.tur, r.spi, r.ovr]
def balIn (n : Int) : Prop := 0 ≤ n ∧ n ≤ 274877906944
instance {n : Int} : Decidable (balIn n) := inferInstanceAs (Decidable (_ ∧ _))
def balP (a b : Ds) (r : Dr) : Prop := (∀ i, i < 7 → balIn (nth (balL a b r) i)) ∧ b.v = a.v + r.inf - r.los - r.tur - r.spi - r.ovr
noncomputable instance {a b : Ds} {r : Dr} : Decidable (balP a b r) := Classical.propDecidable _
end Go.Proofs.YtfjdfnegookkcaaGreat
namespace Go.Proofs.YtfjdfnegookkcaaGreat
set_option linter.all false
open Go.Vm

/-- A step without inflow and loss. -/
theorem obeys {d : Dm} (h : Dv d) {s : Ds} (hf : dfit d s) {rel : Int} (hr : 0 ≤ rel ∧ rel ≤ 1073741824) :
    stT d s 0 0 rel + stP d s 0 0 rel ≤ max 0 (s.v - dDd d) ∧ stO d s 0 0 rel = 0 ∧ (stS d s 0 0 rel).v = s.v - stT d s 0 0 rel - stP d s 0 0 rel ∧
    (0 ≤ stT d s 0 0 rel ∧ stT d s 0 0 rel ≤ 1099511627776) ∧ (0 ≤ stP d s 0 0 rel ∧ stP d s 0 0 rel ≤ 1099511627776) ∧
    (d.u.length = 0 → min (min rel (max 0 (s.v - dDd d))) (canB d s) ≤ stP d s 0 0 rel) := by
  have p := stp_of h hf (inf := 0) (los := 0) (rel := rel) (by omega) (by omega) hr
  have hv := hf.1
  have hL := p.L
  have hL : stL s 0 0 = s.v := by omega
  have hF : fre d (stL s 0 0) = max 0 (s.v - dDd d) := by rw [hL]; unfold fre; omega
  have hs := p.sum
  have hT := p.T0
  have hTr := p.Tr
  have hP := p.P0
  have hP1 := p.P1
  rw [hF] at hs
  have hO : stO d s 0 0 rel = 0 := by unfold stO; rw [hL]; omega
  refine ⟨hs, hO, ?_, ⟨hT, by omega⟩, ⟨hP, by omega⟩, fun hu => ?_⟩
  · show stL s 0 0 - (stT d s 0 0 rel + stP d s 0 0 rel) - stO d s 0 0 rel = _
    rw [hO, hL]; omega
  · have hT0 : stT d s 0 0 rel = 0 := by unfold stT; rw [hu]; rfl
    have he : dE d s = 0 := by
      unfold dE
      have hc : dChk d = 0 := by
        unfold dChk
        rw [if_neg (fun g => g h.r), if_neg (by have := h.g; omega), if_neg (fun g => g (fsE_zero fun i _ hi => h.uv i (by omega))), if_neg (fun g => g (fsE_zero fun i _ hi => h.gv i (by omega))), if_neg (by have := h.gr; omega)]
      rw [if_neg (fun g => g hc), if_pos hf]
    have hc : canB d s = uHi d.u s.u d.gr + gMost d.g s.g (hgt d.r s.v) := by simp [canB, lvl, he]
    have hu0 : uHi d.u s.u d.gr = 0 := by
      have hu1 : d.u = [] := List.length_eq_zero_iff.1 hu
      unfold uHi
      split
      · simp [hiS, hu1]
      · rfl
    have hm := setF_most d.g s.g (hgt d.r s.v) (wnt d rel (stL s 0 0) (stT d s 0 0 rel)) p.w0
    have hw : wnt d rel (stL s 0 0) (stT d s 0 0 rel) = min rel (max 0 (s.v - dDd d)) := by unfold wnt; rw [hF, hT0]; omega
    have hPe : stP d s 0 0 rel = min (setF d.g s.g (hgt d.r s.v) (wnt d rel (stL s 0 0) (stT d s 0 0 rel))) (fre d (stL s 0 0) - stT d s 0 0 rel) := rfl
    rw [hPe, hF, hT0]
    rw [hT0] at hm hw
    rw [hw] at hm ⊢
    rw [hc, hu0]
    omega

theorem stAns_ok {d : Dm} (hc : dChk d = 0) {s : Ds} (hf : dfit d s) {inf los rel : Int} (hi : 0 ≤ inf ∧ inf ≤ 1073741824) (hl : 0 ≤ los ∧ los ≤ 1073741824) (hr : 0 ≤ rel ∧ rel ≤ 1073741824) :
    stAns d s inf los rel = .tuple [dst (stS d s inf los rel), dr (stR d s inf los rel), i64 0] := by
  have hd : dE d s = 0 := by unfold dE; rw [if_neg (fun g => g hc), if_pos hf]
  have ho : [inf, los, rel].any out1 = false := by simp [out1]; omega
  have he : stE' d s inf los rel = 0 := by unfold stE'; rw [if_neg (fun g => g hd), ho]; rfl
  unfold stAns
  rw [if_pos he]

end Go.Proofs.YtfjdfnegookkcaaGreat
namespace Go.Proofs.YtfjdfnegookkcaaGreat
set_option linter.all false
open Go.Vm

theorem c_clone_us (s : List Us) (hs : s.length ≤ 1000) (G : List GObj) : Lim F 65 [sts s] G = some (stsO s, G) := by
  cases s with
  | nil =>
    refine eq_of_split (p := 0) (m := 3) rfl rfl rfl rfl ?_ ?_
    · simp +contextual (disch := omega) [-getElem?_pos, -List.length_eq_zero_iff, -Int.natCast_eq_zero, wrap64, cond_yes, cond_yes2, int_beq, int_bne, v_slices_Clone_api_UnitState_api_UnitState]
    · simp +contextual (disch := omega) [-getElem?_pos, -List.length_eq_zero_iff, -Int.natCast_eq_zero, wrap64, cond_yes, cond_yes2, int_beq, int_bne, v_slices_Clone_api_UnitState_api_UnitState]
  | cons a s =>
    have hs : s.length + 1 ≤ 1000 := by simpa using hs
    show Lim F 65 [.slice none 3 (a.row :: s.map Us.row)] G = some (.slice (some 0) 3 (a.row :: s.map Us.row), G)
    refine eq_of_nosplit (p := 0) rfl rfl rfl (fun m => by simp) ?_
    simp +contextual (disch := omega) [-getElem?_pos, -List.length_eq_zero_iff, -Int.natCast_eq_zero, wrap64, cond_yes, cond_yes2, int_beq, int_bne, v_slices_Clone_api_UnitState_api_UnitState]
theorem c_clone_gs (s : List Gs) (hs : s.length ≤ 1000) (G : List GObj) : Lim F 66 [gss s] G = some (gssO s, G) := by
  cases s with
  | nil =>
    refine eq_of_split (p := 0) (m := 2) rfl rfl rfl rfl ?_ ?_
    · simp +contextual (disch := omega) [-getElem?_pos, -List.length_eq_zero_iff, -Int.natCast_eq_zero, wrap64, cond_yes, cond_yes2, int_beq, int_bne, v_slices_Clone_api_GateState_api_GateState]
    · simp +contextual (disch := omega) [-getElem?_pos, -List.length_eq_zero_iff, -Int.natCast_eq_zero, wrap64, cond_yes, cond_yes2, int_beq, int_bne, v_slices_Clone_api_GateState_api_GateState]
  | cons a s =>
    have hs : s.length + 1 ≤ 1000 := by simpa using hs
    show Lim F 66 [.slice none 2 (a.row :: s.map Gs.row)] G = some (.slice (some 0) 2 (a.row :: s.map Gs.row), G)
    refine eq_of_nosplit (p := 0) rfl rfl rfl (fun m => by simp) ?_
    simp +contextual (disch := omega) [-getElem?_pos, -List.length_eq_zero_iff, -Int.natCast_eq_zero, wrap64, cond_yes, cond_yes2, int_beq, int_bne, v_slices_Clone_api_GateState_api_GateState]

/-- The states behind steps, and their records. -/
noncomputable def rnS (d : Dm) (s : Ds) (A B C : List Int) : Nat → Ds
  | 0 => s
  | i + 1 => stS d (rnS d s A B C i) (nth A i) (nth B i) (nth C i)
noncomputable def rnR (d : Dm) (s : Ds) (A B C : List Int) (i : Nat) : Dr := stR d (rnS d s A B C i) (nth A i) (nth B i) (nth C i)
noncomputable def rnL (d : Dm) (s : Ds) (A B C : List Int) (n : Nat) : List Dr := (List.range n).map (rnR d s A B C)
theorem rnL_succ {d : Dm} {s : Ds} {A B C : List Int} {n : Nat} : rnL d s A B C (n + 1) = rnL d s A B C n ++ [rnR d s A B C n] := by simp [rnL, List.range_succ]
theorem rnL_len {d : Dm} {s : Ds} {A B C : List Int} {n : Nat} : (rnL d s A B C n).length = n := by simp [rnL]
def inR (A : List Int) : Prop := ∀ i, i < A.length → 0 ≤ nth A i ∧ nth A i ≤ 1073741824
abbrev drs (l : List Dr) : V := .slice (some 0) 7 (l.map Dr.row)
theorem c_dam_Run {d : Dm} (hc : dChk d = 0) {s : Ds} (hf : dfit d s) {A B C : List Int} (hb : A.length = B.length) (hcl : A.length = C.length) (hn : A.length ≤ 4096) (ha : inR A) (hb' : inR B) (hc' : inR C) :
    Lim F 29 [dm d, dst s, ints A, ints B, ints C] [] = some (.tuple [dst (rnS d s A B C A.length), drs (rnL d s A B C A.length), i64 0], []) ∧ dfit d (rnS d s A B C A.length) := by
  have hdv := dv_of hc
  have hd : dE d s = 0 := by unfold dE; rw [if_neg (fun g => g hc), if_pos hf]
  have hu6 := hdv.u
  have hg8 := hdv.g
  have hul := hf.2.2.1
  have hgl := hf.2.2.2.1
  have fit : ∀ i, i ≤ A.length → dfit d (rnS d s A B C i) := by
    intro i
    induction i with
    | zero => intro _; exact hf
    | succ i ih => intro hi; exact stS_fit hdv (ih (by omega)) (ha i (by omega)) (hb' i (by omega)) (hc' i (by omega))
  refine ⟨?_, fit _ (Nat.le_refl _)⟩
  refine eq_of rfl rfl ?_
  have b1 : (B.length : Int) = A.length := by omega
  have b2 : (C.length : Int) = A.length := by omega
  have b3 : ¬ (4096 : Int) < A.length := by omega
  have hcu := c_clone_us s.u (by omega) []
  have hcg := c_clone_gs s.g (by omega) []
  simp +contextual (disch := omega) [-getElem?_pos, -List.length_eq_zero_iff, -Int.natCast_eq_zero, wrap64, cond_yes, cond_yes2, int_beq, int_bne, v_dam_Run, b1, b2, b3, c_dam_asked, hd, hcu, hcg]
  refine go_loop (fun i : Nat => v_dam_Run_s0 (ints A) (ints B) (ints C) (.slice (some 1089) 7 ((rnL d s A B C i).map Dr.row)) A.length i d.row [i64 0, i64 0, .nils, .nils] (rnS d s A B C i).row i []) (fun i => i ≤ A.length) (fun i => A.length - i) 0 rfl (by simp [rnS, rnL]) (by omega) ?_
  intro i hi
  have hll := rnL_len (d := d) (s := s) (A := A) (B := B) (C := C) (n := i)
  obtain ⟨G1, hS⟩ := c_dam_Step d (rnS d s A B C i) (nth A i) (nth B i) (nth C i)
  simp +contextual (disch := omega) [-getElem?_pos, -List.length_eq_zero_iff, -Int.natCast_eq_zero, wrap64, cond_yes, cond_yes2, int_beq, int_bne, v_dam_Run_b0]
  refine cnd_dec (fun h5 => ?_) (fun h5 => ?_)
  · have h5 : i < A.length := by omega
    have h6 : i < B.length := by omega
    have h7 : i < C.length := by omega
    rw [stAns_ok hc (fit i hi) (ha i h5) (hb' i h6) (hc' i h7)] at hS
    simp +contextual (disch := omega) [-getElem?_pos, -List.length_eq_zero_iff, -Int.natCast_eq_zero, wrap64, cond_yes, cond_yes2, int_beq, int_bne, get_int (l := A), get_int (l := B), get_int (l := C), hS, hll]
    exact rnd_next (i + 1) (by simp [rnL_succ, rnS, rnR]) (by omega) (by omega)
  · obtain rfl : i = A.length := by omega
    simp +contextual (disch := omega) [-getElem?_pos, -List.length_eq_zero_iff, -Int.natCast_eq_zero, wrap64, cond_yes, cond_yes2, int_beq, int_bne, hll]
end Go.Proofs.YtfjdfnegookkcaaGreat
namespace Go.Proofs.YtfjdfnegookkcaaGreat
set_option linter.all false
open Go.Vm

theorem c_mk_Flows' {l : List Int} {k : Nat} (hd : okd l k) {n : Nat} {m : Int} (hn : n ≤ 1000) (hm : 1 ≤ m ∧ m ≤ 1000000) : ∃ f k', Lim F 28 [.gptr 0 0, i64 n, i64 m] [dk l k] = some (own f, [dk l k']) ∧ okd l k' ∧ f.length = n ∧ inR f := by
  suffices h : ∀ Q : V → List GObj → Prop, (∀ f k', okd l k' → f.length = n → inR f → Q (own f) [dk l k']) → Ret (Lim F) 28 [.gptr 0 0, i64 n, i64 m] [dk l k] Q by
    obtain ⟨_, _, h, f, k', rfl, rfl, h1⟩ := h (fun v G => ∃ f k', v = own f ∧ G = [dk l k'] ∧ okd l k' ∧ f.length = n ∧ inR f) fun f k' h1 h2 h3 => ⟨f, k', rfl, rfl, h1, h2, h3⟩
    exact ⟨f, k', h, h1⟩
  intro Q hQ
  refine ret_of rfl rfl ?_
  simp +contextual (disch := omega) [-getElem?_pos, -List.length_eq_zero_iff, -Int.natCast_eq_zero, wrap64, cond_yes, cond_yes2, int_beq, int_bne, v_mk_Flows]
  refine go_loop (fun s : List Int × Nat => v_mk_Flows_s0 (.gptr 0 0) m (.slice (some 1016) 1 (s.1.map fun n => [i64 n])) n s.1.length s.1.length [dk l s.2]) (fun s => s.1.length ≤ n ∧ okd l s.2 ∧ inR s.1) (fun s => n - s.1.length) ([], k) rfl (by simp) ⟨by simp, hd, fun i hi => by simp at hi⟩ ?_
  rintro ⟨f, k⟩ ⟨h1, hd, h2⟩
  simp only at h1 hd h2
  obtain ⟨a, k2, n2, hd2, ha⟩ := c_Next hd m (by omega)
  simp +contextual (disch := omega) [-getElem?_pos, -List.length_eq_zero_iff, -Int.natCast_eq_zero, wrap64, cond_yes, cond_yes2, int_beq, int_bne, v_mk_Flows_b0]
  refine cnd_dec (fun h4 => ?_) (fun h4 => ?_)
  · simp +contextual (disch := omega) [-getElem?_pos, -List.length_eq_zero_iff, -Int.natCast_eq_zero, wrap64, cond_yes, cond_yes2, int_beq, int_bne, n2]
    refine rnd_next (f ++ [a], k2) (by simp) ⟨by simp; omega, hd2, fun i hi => ?_⟩ (by simp; omega)
    simp only at hi ⊢
    simp at hi
    rw [nth_app]
    split
    · exact h2 i (by assumption)
    · rw [if_pos (by omega)]; omega
  · exact hQ f k hd (by omega) h2

theorem rnS_take {d : Dm} {s : Ds} {A B C : List Int} {m : Nat} : ∀ i, i ≤ m → rnS d s (A.take m) (B.take m) (C.take m) i = rnS d s A B C i
  | 0, _ => rfl
  | i + 1, h => by
    simp only [rnS]
    rw [rnS_take i (by omega), nth_take (by omega), nth_take (by omega), nth_take (by omega)]
theorem nth_drop' {α : Type} [Inhabited α] {l : List α} {i k : Nat} : nth (l.drop k) i = nth l (k + i) := by simp [nth, List.getElem?_drop]
theorem rnS_drop {d : Dm} {s : Ds} {A B C : List Int} {m : Nat} : ∀ i, rnS d (rnS d s A B C m) (A.drop m) (B.drop m) (C.drop m) i = rnS d s A B C (m + i)
  | 0 => rfl
  | i + 1 => by
    rw [← Nat.add_assoc]
    simp only [rnS]
    rw [rnS_drop i, nth_drop', nth_drop', nth_drop']
theorem rnL_take {d : Dm} {s : Ds} {A B C : List Int} {m : Nat} : rnL d s (A.take m) (B.take m) (C.take m) m = rnL d s A B C m := by
  unfold rnL
  refine List.map_congr_left fun i hi => ?_
  have hi := List.mem_range.1 hi
  unfold rnR
  rw [rnS_take i (by omega), nth_take hi, nth_take hi, nth_take hi]
theorem rnL_drop {d : Dm} {s : Ds} {A B C : List Int} {m n : Nat} : rnL d s A B C m ++ rnL d (rnS d s A B C m) (A.drop m) (B.drop m) (C.drop m) n = rnL d s A B C (m + n) := by
  unfold rnL
  rw [List.range_add, List.map_append, List.map_map]
  congr 1
  refine List.map_congr_left fun i _ => ?_
  unfold rnR
  rw [rnS_drop, nth_drop', nth_drop', nth_drop']
  rfl
theorem inR_take {A : List Int} (h : inR A) (m : Nat) : inR (A.take m) := fun i hi => by
  simp at hi
  rw [nth_take (by omega)]
  exact h i (by omega)
theorem inR_drop {A : List Int} (h : inR A) (m : Nat) : inR (A.drop m) := fun i hi => by
  simp at hi
  rw [nth_drop']
  exact h _ (by omega)

theorem c_r20_Same_refl (g : List Gs) (hg : g.length ≤ 1000) (G : List GObj) : Lim F 64 [gss g, gss g] G = some (.bool true, G) :=
  eq_of rfl rfl (by
    simp +contextual (disch := omega) [-getElem?_pos, -List.length_eq_zero_iff, -Int.natCast_eq_zero, wrap64, cond_yes, cond_yes2, int_beq, int_bne, v_r20_Same]
    refine go_loop (fun i : Nat => v_r20_Same_s0 (gss g) (gss g) g.length i G) (fun i => i ≤ g.length) (fun i => g.length - i) 0 rfl (by simp) (by omega) ?_
    intro i hi
    simp +contextual (disch := omega) [-getElem?_pos, -List.length_eq_zero_iff, -Int.natCast_eq_zero, wrap64, cond_yes, cond_yes2, int_beq, int_bne, v_r20_Same_b0]
    refine cnd_dec (fun h5 => ?_) (fun h5 => ?_)
    · have h5 : i < g.length := by omega
      simp +contextual (disch := omega) [-getElem?_pos, -List.length_eq_zero_iff, -Int.natCast_eq_zero, wrap64, cond_yes, cond_yes2, int_beq, int_bne, get_nth (l := g), V.aeq, eqCells, eqCell]
      refine rnd_next (i + 1) (by simp) (by omega) (by omega)
    · trivial)
theorem c_r22_Same_refl (s : Ds) (hu : s.u.length ≤ 1000) (hg : s.g.length ≤ 1000) (G : List GObj) : Lim F 27 [dst s, dst s] G = some (.bool true, G) :=
  eq_of rfl rfl (by
    have h := c_r20_Same_refl s.g hg []
    simp +contextual (disch := omega) [-getElem?_pos, -List.length_eq_zero_iff, -Int.natCast_eq_zero, wrap64, cond_yes, cond_yes2, int_beq, int_bne, v_r22_Same, h]
    refine go_loop (fun i : Nat => v_r22_Same_s0 s.u.length i s.row s.row G) (fun i => i ≤ s.u.length) (fun i => s.u.length - i) 0 rfl (by simp) (by omega) ?_
    intro i hi
    simp +contextual (disch := omega) [-getElem?_pos, -List.length_eq_zero_iff, -Int.natCast_eq_zero, wrap64, cond_yes, cond_yes2, int_beq, int_bne, v_r22_Same_b0]
    refine cnd_dec (fun h5 => ?_) (fun h5 => ?_)
    · have h5 : i < s.u.length := by omega
      simp +contextual (disch := omega) [-getElem?_pos, -List.length_eq_zero_iff, -Int.natCast_eq_zero, wrap64, cond_yes, cond_yes2, int_beq, int_bne, get_nth (l := s.u), V.aeq, eqCells, eqCell]
      refine rnd_next (i + 1) (by simp) (by omega) (by omega)
    · trivial)
theorem c_r22_SameRecords_refl (g : List Dr) (hg : g.length ≤ 5000) (G : List GObj) : Lim F 30 [.slice none 7 (g.map Dr.row), .slice none 7 (g.map Dr.row)] G = some (.bool true, G) :=
  eq_of rfl rfl (by
    simp +contextual (disch := omega) [-getElem?_pos, -List.length_eq_zero_iff, -Int.natCast_eq_zero, wrap64, cond_yes, cond_yes2, int_beq, int_bne, v_r22_SameRecords]
    refine go_loop (fun i : Nat => v_r22_SameRecords_s0 (.slice none 7 (g.map Dr.row)) (.slice none 7 (g.map Dr.row)) g.length i G) (fun i => i ≤ g.length) (fun i => g.length - i) 0 rfl (by simp) (by omega) ?_
    intro i hi
    simp +contextual (disch := omega) [-getElem?_pos, -List.length_eq_zero_iff, -Int.natCast_eq_zero, wrap64, cond_yes, cond_yes2, int_beq, int_bne, v_r22_SameRecords_b0]
    refine cnd_dec (fun h5 => ?_) (fun h5 => ?_)
    · have h5 : i < g.length := by omega
      simp +contextual (disch := omega) [-getElem?_pos, -List.length_eq_zero_iff, -Int.natCast_eq_zero, wrap64, cond_yes, cond_yes2, int_beq, int_bne, get_nth (l := g), V.aeq, eqCells, eqCell]
      refine rnd_next (i + 1) (by simp) (by omega) (by omega)
    · trivial)
end Go.Proofs.YtfjdfnegookkcaaGreat
namespace Go.Proofs.YtfjdfnegookkcaaGreat
set_option linter.all false
open Go.Vm

@[simp high] theorem opk_g_app {L : CallF} {d : Option Nat} {g : Nat} {f : Nat} {s : Option Nat} {h : Sh} {x y : Opd} {w : Bool} {os : List VOp} {keep : Keep} {k : Post} {S : St} :
    opk L (⟨d, .app f s h x y, some (g, w)⟩ :: os) keep k S = gcnd w (Go.Vm.look g S.env) (opk L (⟨d, .app f s h x y, none⟩ :: os) keep k S) (opk L os keep k (S.put d .undef)) := by
  rw [opk_guard, opk_guard]
  simp only [VOp.run]
  rcases Go.Vm.look g S.env with _ | v
  · simp [bnd, gcnd]
  · cases v with
    | bool b => simp only [gcnd]; cases b == w <;> simp
    | undef => simp [gcnd]
    | _ => simp [bnd, gcnd]
theorem sum_step {d : Dm} (h : Dv d) {s : Ds} (hf : dfit d s) (htop : dCr d ≤ 10000) {a b c : Int} (ha : 0 ≤ a ∧ a ≤ 1073741824) (hb : 0 ≤ b ∧ b ≤ 1073741824) (hc : 0 ≤ c ∧ c ≤ 1073741824) :
    (stS d s a b c).v = s.v + (a - (stR d s a b c).los - ((stR d s a b c).tur + (stR d s a b c).spi + (stR d s a b c).ovr)) ∧
      (0 ≤ (stR d s a b c).los ∧ (stR d s a b c).los ≤ 1099511627776) ∧ (0 ≤ (stR d s a b c).tur ∧ (stR d s a b c).tur ≤ 1099511627776) ∧ (0 ≤ (stR d s a b c).spi ∧ (stR d s a b c).spi ≤ 1099511627776) ∧ (0 ≤ (stR d s a b c).ovr ∧ (stR d s a b c).ovr ≤ 1099511627776) := by
  have p := stp_of h hf ha hb hc
  have hv := hf.1
  have hC := dCr_range h.r
  have hL : stL s a b = s.v + a - min b (s.v + a) := rfl
  have hO : stO d s a b c = max (stL s a b - (stT d s a b c + stP d s a b c) - dCr d) 0 := rfl
  have hT0 := p.T0
  have hTr := p.Tr
  have hP0 := p.P0
  have hP1 := p.P1
  have e1 : (stR d s a b c).los = min b (s.v + a) := rfl
  have e2 : (stR d s a b c).tur = stT d s a b c := rfl
  have e3 : (stR d s a b c).spi = stP d s a b c := rfl
  have e4 : (stR d s a b c).ovr = stO d s a b c := rfl
  have e5 : (stS d s a b c).v = stL s a b - (stT d s a b c + stP d s a b c) - stO d s a b c := rfl
  rw [e1, e2, e3, e4, e5]
  omega

theorem dsum_walk {l : List Int} (hl : l.length ≤ 9223372036854775807) (cut : Int) : ∃ G', Lim F 5 [ints l, i64 cut] [] = some (.bool true, G') := by
  suffices h : Ret (Lim F) 5 [ints l, i64 cut] [] fun v G => v = .bool true by
    obtain ⟨_, G, h, rfl⟩ := h
    exact ⟨G, h⟩
  refine ret_of rfl rfl ?_
  obtain ⟨d, s, k1, n1, hd1, hw⟩ := c_mk_Dam (l := l) (k := 0) ⟨by omega, hl⟩
  obtain ⟨A, k2, n2, hd2, hA, rA⟩ := c_mk_Flows' hd1 (n := 6) (m := 90) (by omega) (by omega)
  obtain ⟨B, k3, n3, hd3, hB, rB⟩ := c_mk_Flows' hd2 (n := 6) (m := 20) (by omega) (by omega)
  obtain ⟨C, k4, n4, hd4, hC, rC⟩ := c_mk_Flows' hd3 (n := 6) (m := 60) (by omega) (by omega)
  rw [show ((6 : Nat) : Int) = 6 from rfl] at n2 n3 n4
  have hM := c_Mod (n := cut) (m := 7) (by omega) []
  have hm := modV_range (v := cut) (n := 7) (by omega) (by omega)
  generalize modV cut 7 = m at hM hm
  obtain ⟨m, rfl⟩ : ∃ j : Nat, m = j := ⟨m.toNat, by omega⟩
  have hm6 : m ≤ 6 := by omega
  obtain ⟨r1, f1⟩ := c_dam_Run hw.chk hw.fit (A := A) (B := B) (C := C) (by omega) (by omega) (by omega) rA rB rC
  obtain ⟨r2, f2⟩ := c_dam_Run hw.chk hw.fit (A := A.take m) (B := B.take m) (C := C.take m) (by simp; omega) (by simp; omega) (by simp; omega) (inR_take rA m) (inR_take rB m) (inR_take rC m)
  obtain ⟨r3, f3⟩ := c_dam_Run hw.chk f2 (A := A.drop m) (B := B.drop m) (C := C.drop m) (by simp; omega) (by simp; omega) (by simp; omega) (inR_drop rA m) (inR_drop rB m) (inR_drop rC m)
  have lt : (A.take m).length = m := by simp; omega
  have ld : (A.drop m).length = 6 - m := by simp; omega
  rw [hA] at r1 f1
  rw [lt] at r2 f2
  rw [lt, ld] at r3 f3
  rw [rnS_take m (Nat.le_refl _)] at r2 r3 f3
  rw [rnL_take] at r2
  rw [rnS_drop, show m + (6 - m) = 6 by omega] at r3
  have hL6 := rnL_drop (d := d) (s := s) (A := A) (B := B) (C := C) (m := m) (n := 6 - m)
  rw [show m + (6 - m) = 6 by omega] at hL6
  have hSm := c_r22_Same_refl (rnS d s A B C 6) (by have := f1.2.2.1; have := hw.u2; omega) (by have := f1.2.2.2.1; have := hw.g2; omega) []
  have hSr := c_r22_SameRecords_refl (rnL d s A B C 6) (by rw [rnL_len]; omega) []
  have hl6 := rnL_len (d := d) (s := s) (A := A) (B := B) (C := C) (n := 6)
  have hlp := rnL_len (d := d) (s := s) (A := A) (B := B) (C := C) (n := m)
  have hlq := rnL_len (d := d) (s := rnS d s A B C m) (A := A.drop m) (B := B.drop m) (C := C.drop m) (n := 6 - m)
  have r2' : Lim F 29 [dm d, dst s, .slice none 1 ((A.map fun n => [i64 n]).take m), .slice none 1 ((B.map fun n => [i64 n]).take m), .slice none 1 ((C.map fun n => [i64 n]).take m)] [] =
      some (.tuple [dst (rnS d s A B C m), drs (rnL d s A B C m), i64 0], []) := by
    rw [← List.map_take, ← List.map_take, ← List.map_take]
    exact r2
  have r3' : Lim F 29 [dm d, dst (rnS d s A B C m), .slice none 1 (((A.map fun n => [i64 n]).take 6).drop m), .slice none 1 (((B.map fun n => [i64 n]).take 6).drop m), .slice none 1 (((C.map fun n => [i64 n]).take 6).drop m)] [] =
      some (.tuple [dst (rnS d s A B C 6), drs (rnL d (rnS d s A B C m) (A.drop m) (B.drop m) (C.drop m) (6 - m)), i64 0], []) := by
    rw [List.take_of_length_le (by simp; omega), List.take_of_length_le (by simp; omega), List.take_of_length_le (by simp; omega), ← List.map_drop, ← List.map_drop, ← List.map_drop]
    exact r3
  simp (config := { maxSteps := 2000000 }) +contextual (disch := omega) [-getElem?_pos, -List.length_eq_zero_iff, -Int.natCast_eq_zero, wrap64, cond_yes, cond_yes2, int_beq, int_bne, v_w22_DamSums, c_New, n1, n2, n3, n4, r1, hM]
  simp (config := { maxSteps := 2000000 }) +contextual (disch := omega) [-getElem?_pos, -List.length_eq_zero_iff, -Int.natCast_eq_zero, wrap64, cond_yes, cond_yes2, int_beq, int_bne, r2', hA, hB, hC]
  generalize rnL d (rnS d s A B C m) (A.drop m) (B.drop m) (C.drop m) (6 - m) = Q at *
  generalize hP : rnL d s A B C m = P at *
  have hmap : P.map Dr.row ++ Q.map Dr.row = (rnL d s A B C 6).map Dr.row := by rw [← List.map_append, hL6]
  simp (config := { maxSteps := 2000000 }) +contextual (disch := omega) [-getElem?_pos, -List.length_eq_zero_iff, -Int.natCast_eq_zero, wrap64, cond_yes, cond_yes2, int_beq, int_bne, r3']
  simp (config := { maxSteps := 2000000 }) +contextual (disch := omega) [-getElem?_pos, -List.length_eq_zero_iff, -Int.natCast_eq_zero, wrap64, cond_yes, cond_yes2, int_beq, int_bne, hSm]
  simp (config := { maxSteps := 2000000 }) +contextual (disch := omega) [-getElem?_pos, -List.length_eq_zero_iff, -Int.natCast_eq_zero, wrap64, cond_yes, cond_yes2, int_beq, int_bne, hmap, hSr]
  have fit : ∀ i, i ≤ 6 → dfit d (rnS d s A B C i) := by
    intro i
    induction i with
    | zero => intro _; exact hw.fit
    | succ i ih => intro hi; exact stS_fit (dv_of hw.chk) (ih (by omega)) (rA i (by omega)) (rB i (by omega)) (rC i (by omega))
  have hcr := dCr_range (dv_of hw.chk).r
  refine go_loop (fun i : Nat => v_w22_DamSums_s0 (ints A) (rnS d s A B C i).v (.slice none 7 ((rnL d s A B C 6).map Dr.row)) 6 i (rnS d s A B C 6).row [dk l k4]) (fun i => i ≤ 6) (fun i => 6 - i) 0 rfl (by simp [rnS, hl6]) (by omega) ?_
  intro i hi
  simp (config := { maxSteps := 2000000 }) +contextual (disch := omega) [-getElem?_pos, -List.length_eq_zero_iff, -Int.natCast_eq_zero, wrap64, cond_yes, cond_yes2, int_beq, int_bne, v_w22_DamSums_b0]
  refine cnd_dec (fun h5 => ?_) (fun h5 => ?_)
  · have h5 : i < 6 := by omega
    have h6 : i < A.length := by omega
    have h7 : i < (rnL d s A B C 6).length := by omega
    have hnth : nth (rnL d s A B C 6) i = rnR d s A B C i := by simp [rnL, nth, h5]
    obtain ⟨q1, q2, q3, q4, q5⟩ := sum_step (dv_of hw.chk) (fit i hi) hw.top (rA i h6) (rB i (by omega)) (rC i (by omega))
    have hv := (fit i hi).1
    have hrA := rA i h6
    have hFl := c_dam_Flow (stR d (rnS d s A B C i) (nth A i) (nth B i) (nth C i)) (by omega) (by omega) (by omega) []
    have hR : rnR d s A B C i = stR d (rnS d s A B C i) (nth A i) (nth B i) (nth C i) := rfl
    have hv2 : (rnS d s A B C (i + 1)).v = (stS d (rnS d s A B C i) (nth A i) (nth B i) (nth C i)).v := rfl
    rw [← hv2] at q1
    rw [hR] at hnth
    generalize stR d (rnS d s A B C i) (nth A i) (nth B i) (nth C i) = R at *
    simp (config := { maxSteps := 2000000 }) +contextual (disch := omega) [-getElem?_pos, -List.length_eq_zero_iff, -Int.natCast_eq_zero, wrap64, cond_yes, cond_yes2, int_beq, int_bne, get_int (l := A), get_nth (l := rnL d s A B C 6), hnth, hFl]
    refine rnd_next (i + 1) (by simp [q1]) (by omega) (by omega)
  · obtain rfl : i = 6 := by omega
    simp (config := { maxSteps := 2000000 }) +contextual (disch := omega) [-getElem?_pos, -List.length_eq_zero_iff, -Int.natCast_eq_zero, wrap64, cond_yes, cond_yes2, int_beq, int_bne, c_awake22]
end Go.Proofs.YtfjdfnegookkcaaGreat
