/-
  Parts of the proof, joined: Dam7, Dob1, Dba1.
-/
import Derived.Test.YtfjdfnegookkcaaGreatDe
namespace Go.Proofs.YtfjdfnegookkcaaGreat
set_option linter.all false
open Go.Vm

theorem nxu_valid {u : Un} {s : Us} (hv : validP u s) (q : Int) : validP u (nxu u s q) := by
  have h1 := hv.2.1
  unfold nxu
  split
  · rename_i hm
    refine ⟨hv.1, ?_, ?_⟩
    · unfold nextS; simp only; split <;> omega
    · unfold nextS; simp only
      unfold mayP at hm
      by_cases hq : q = 0
      · exact .inl hq
      · rw [if_neg hq] at hm; exact .inr ⟨hm.1, hm.2.2⟩
  · exact ⟨hv.1, by simp, .inl rfl⟩
theorem bs_el {lv w : Int} {g : List Gt} {s : List Gs} (hl : g.length = s.length) (hs : allG g s) (hv : ∀ i, i < g.length → Gv (nth g i)) : ∀ i, i ≤ g.length →
    ∀ j, j < g.length → 0 ≤ nth (bs lv w g s i).1 j ∧ nth (bs lv w g s i).1 j ≤ (nth g j).most := by
  intro i
  induction i with
  | zero =>
    intro _ j hj
    have hr := rch_ok (hv j hj) (hs j hj)
    simp only [bs]
    rw [gel_nth hj (by omega)]
    omega
  | succ i ih =>
    intro hi j hj
    simp only [bs]
    rw [nth_set (by rw [bs_len hl]; omega)]
    split
    · rename_i e
      subst e
      have hr := rch_ok (hv i hj) (hs i hj)
      have ho := opn_range (lv := lv) (w := w) (hv i hj) (hs i hj) (bs lv w g s i).2
      omega
    · exact ih (by omega) j hj
theorem setS_len {g : List Gt} {s : List Gs} {lv w : Int} (h : aE g s lv = 0) (hw : 0 ≤ w ∧ w ≤ 1073741824) : (setS g s lv w).length = g.length ∧ allG g (setS g s lv w) := by
  obtain ⟨h1, h2, h3, h4, h5⟩ := aE_zero h
  have hE : setE g s lv w = 0 := by simp [setE, h, hw]
  have hS : setS g s lv w = outS (bs lv w g s g.length).1 s := by unfold setS; rw [if_pos hE]
  have hb := bs_len (lv := lv) (w := w) h2 g.length
  rw [hS]
  refine ⟨by simp [outS]; omega, fun i hi => ?_⟩
  unfold outS
  rw [nth_zip (by omega) (by omega)]
  exact bs_el h2 h3 h4 g.length (Nat.le_refl _) i hi

theorem nus_nth {d : Dm} {s : Ds} {m : Int} {n i : Nat} (hi : i < n) : nth (nus d s m n) i = nxu (nth d.u i) (nth s.u i) (flw d s m i) := by
  unfold nus
  simp [nth, hi]
/-- A step leads to a right state. -/
theorem stS_fit {d : Dm} (h : Dv d) {s : Ds} (hf : dfit d s) {inf los rel : Int} (hi : 0 ≤ inf ∧ inf ≤ 1073741824) (hl : 0 ≤ los ∧ los ≤ 1073741824) (hr : 0 ≤ rel ∧ rel ≤ 1073741824) : dfit d (stS d s inf los rel) := by
  have p := stp_of h hf hi hl hr
  have hv := hf.1
  have hC := dCr_range h.r
  have hD := dDd_range h.r
  have hT := p.T0
  have hP := p.P0
  have hs := p.sum
  have hL := p.L
  have hfr : fre d (stL s inf los) ≤ stL s inf los := by unfold fre; omega
  have hO : stO d s inf los rel = max (stL s inf los - (stT d s inf los rel + stP d s inf los rel) - dCr d) 0 := rfl
  have hg := setS_len (aE_dam h hf) p.w0
  refine ⟨?_, ?_, nus_len, hg.1, fun i hi => ?_, hg.2⟩
  · show 0 ≤ stL s inf los - (stT d s inf los rel + stP d s inf los rel) - stO d s inf los rel ∧ stL s inf los - (stT d s inf los rel + stP d s inf los rel) - stO d s inf los rel ≤ dCr d
    omega
  · show 0 ≤ min (stT d s inf los rel + stP d s inf los rel) 1073741824 ∧ min (stT d s inf los rel + stP d s inf los rel) 1073741824 ≤ 1073741824
    omega
  · show validP (nth d.u i) (nth (nus d s _ d.u.length) i)
    rw [nus_nth hi]
    exact nxu_valid (hf.2.2.2.2.1 i hi) _

def balL (a b : Ds) (r : Dr) : List Int := [a.v, b.v, r.inf, r.los, r.tur, r.spi, r.ovr]
def balIn (n : Int) : Prop := 0 ≤ n ∧ n ≤ 274877906944
instance {n : Int} : Decidable (balIn n) := inferInstanceAs (Decidable (_ ∧ _))
def balP (a b : Ds) (r : Dr) : Prop := (∀ i, i < 7 → balIn (nth (balL a b r) i)) ∧ b.v = a.v + r.inf - r.los - r.tur - r.spi - r.ovr
noncomputable instance {a b : Ds} {r : Dr} : Decidable (balP a b r) := Classical.propDecidable _
theorem c_dam_Balance (a b : Ds) (r : Dr) (G : List GObj) : Lim F 12 [dst a, dst b, dr r] G = some (.bool (decide (balP a b r)), G) :=
  eq_of rfl rfl (by
    generalize hW : decide (balP a b r) = W
    simp +contextual (disch := omega) [-getElem?_pos, -List.length_eq_zero_iff, -Int.natCast_eq_zero, wrap64, cond_yes, cond_yes2, int_beq, int_bne, v_dam_Balance]
    have hic : icells (balL a b r) = [i64 a.v, i64 b.v, i64 r.inf, i64 r.los, i64 r.tur, i64 r.spi, i64 r.ovr] := rfl
    refine go_loop (fun i : Nat => v_dam_Balance_s0 (.agg (icells (balL a b r))) i a.row b.row r.row G) (fun i => i ≤ 7 ∧ ∀ j, j < i → balIn (nth (balL a b r) j)) (fun i => 7 - i) 0 rfl (by simp [hic]) ⟨by omega, by omega⟩ ?_
    rintro i ⟨hi, hj⟩
    have hlen : (balL a b r).length = 7 := rfl
    simp +contextual (disch := omega) [-getElem?_pos, -List.length_eq_zero_iff, -Int.natCast_eq_zero, wrap64, cond_yes, cond_yes2, int_beq, int_bne, v_dam_Balance_b0]
    refine cnd_dec (fun h1 => ?_) (fun h1 => ?_)
    · have h1 : i < 7 := by omega
      by_cases h2 : balIn (nth (balL a b r) i)
      · have h3 : (decide (0 ≤ nth (balL a b r) i) && decide (nth (balL a b r) i ≤ 274877906944)) = true := by simp; exact h2
        simp +contextual (disch := omega) [-getElem?_pos, -List.length_eq_zero_iff, -Int.natCast_eq_zero, wrap64, cond_yes, cond_yes2, int_beq, int_bne, icells_get, hlen, h1, c_quantity_Within, h3]
        refine rnd_next (i + 1) (by simp) ⟨by omega, fun j hj2 => ?_⟩ (by omega)
        rcases Nat.lt_or_ge j i with h4 | h4
        · exact hj j h4
        · rwa [show j = i by omega]
      · have h3 : (decide (0 ≤ nth (balL a b r) i) && decide (nth (balL a b r) i ≤ 274877906944)) = false := by
          have h2 : ¬ (0 ≤ nth (balL a b r) i ∧ nth (balL a b r) i ≤ 274877906944) := h2
          simp; omega
        simp +contextual (disch := omega) [-getElem?_pos, -List.length_eq_zero_iff, -Int.natCast_eq_zero, wrap64, cond_yes, cond_yes2, int_beq, int_bne, icells_get, hlen, h1, c_quantity_Within, h3]
        rw [← hW, decide_eq_false (fun h : balP a b r => h2 (h.1 i h1))]
    · have hj : ∀ j, j < 7 → balIn (nth (balL a b r) j) := fun j h => hj j (by omega)
      have b0 : 0 ≤ a.v ∧ a.v ≤ 274877906944 := hj 0 (by omega)
      have b1 : 0 ≤ b.v ∧ b.v ≤ 274877906944 := hj 1 (by omega)
      have b2 : 0 ≤ r.inf ∧ r.inf ≤ 274877906944 := hj 2 (by omega)
      have b3 : 0 ≤ r.los ∧ r.los ≤ 274877906944 := hj 3 (by omega)
      have b4 : 0 ≤ r.tur ∧ r.tur ≤ 274877906944 := hj 4 (by omega)
      have b5 : 0 ≤ r.spi ∧ r.spi ≤ 274877906944 := hj 5 (by omega)
      have b6 : 0 ≤ r.ovr ∧ r.ovr ≤ 274877906944 := hj 6 (by omega)
      simp (disch := omega) only [wrap64]
      rw [← hW]
      refine decide_eq_decide.2 ⟨fun h => ⟨hj, h⟩, fun h => h.2⟩)
end Go.Proofs.YtfjdfnegookkcaaGreat
namespace Go.Proofs.YtfjdfnegookkcaaGreat
set_option linter.all false
open Go.Vm

/-- A step without inflow and loss. -/
theorem obeys {d : Dm} (h : Dv d) {s : Ds} (hf : dfit d s) {rel : Int} (hr : 0 ≤ rel ∧ rel ≤ 1073741824) :
    stT d s 0 0 rel + stP d s 0 0 rel ≤ max 0 (s.v - dDd d) ∧ stO d s 0 0 rel = 0 ∧ (stS d s 0 0 rel).v = s.v - stT d s 0 0 rel - stP d s 0 0 rel ∧
    (0 ≤ stT d s 0 0 rel ∧ stT d s 0 0 rel ≤ 1099511627776) ∧ (0 ≤ stP d s 0 0 rel ∧ stP d s 0 0 rel ≤ 1099511627776) ∧
    (d.u.length = 0 → min (min rel (max 0 (s.v - dDd d))) (canB d s) ≤ stP d s 0 0 rel) := by
  have p := stp_of h hf (inf := 0) (los := 0) (rel := rel) (by omega) (by omega) hr
  have hv := hf.1
  have hL := p.L
  have hL : stL s 0 0 = s.v := by omega
  have hF : fre d (stL s 0 0) = max 0 (s.v - dDd d) := by rw [hL]; unfold fre; omega
  have hs := p.sum
  have hT := p.T0
  have hTr := p.Tr
  have hP := p.P0
  have hP1 := p.P1
  rw [hF] at hs
  have hO : stO d s 0 0 rel = 0 := by unfold stO; rw [hL]; omega
  refine ⟨hs, hO, ?_, ⟨hT, by omega⟩, ⟨hP, by omega⟩, fun hu => ?_⟩
  · show stL s 0 0 - (stT d s 0 0 rel + stP d s 0 0 rel) - stO d s 0 0 rel = _
    rw [hO, hL]; omega
  · have hT0 : stT d s 0 0 rel = 0 := by unfold stT; rw [hu]; rfl
    have he : dE d s = 0 := by
      unfold dE
      have hc : dChk d = 0 := by
        unfold dChk
        rw [if_neg (fun g => g h.r), if_neg (by have := h.g; omega), if_neg (fun g => g (fsE_zero fun i _ hi => h.uv i (by omega))), if_neg (fun g => g (fsE_zero fun i _ hi => h.gv i (by omega))), if_neg (by have := h.gr; omega)]
      rw [if_neg (fun g => g hc), if_pos hf]
    have hc : canB d s = uHi d.u s.u d.gr + gMost d.g s.g (hgt d.r s.v) := by simp [canB, lvl, he]
    have hu0 : uHi d.u s.u d.gr = 0 := by
      have hu1 : d.u = [] := List.length_eq_zero_iff.1 hu
      unfold uHi
      split
      · simp [hiS, hu1]
      · rfl
    have hm := setF_most d.g s.g (hgt d.r s.v) (wnt d rel (stL s 0 0) (stT d s 0 0 rel)) p.w0
    have hw : wnt d rel (stL s 0 0) (stT d s 0 0 rel) = min rel (max 0 (s.v - dDd d)) := by unfold wnt; rw [hF, hT0]; omega
    have hPe : stP d s 0 0 rel = min (setF d.g s.g (hgt d.r s.v) (wnt d rel (stL s 0 0) (stT d s 0 0 rel))) (fre d (stL s 0 0) - stT d s 0 0 rel) := rfl
    rw [hPe, hF, hT0]
    rw [hT0] at hm hw
    rw [hw] at hm ⊢
    rw [hc, hu0]
    omega

theorem stAns_ok {d : Dm} (hc : dChk d = 0) {s : Ds} (hf : dfit d s) {inf los rel : Int} (hi : 0 ≤ inf ∧ inf ≤ 1073741824) (hl : 0 ≤ los ∧ los ≤ 1073741824) (hr : 0 ≤ rel ∧ rel ≤ 1073741824) :
    stAns d s inf los rel = .tuple [dst (stS d s inf los rel), dr (stR d s inf los rel), i64 0] := by
  have hd : dE d s = 0 := by unfold dE; rw [if_neg (fun g => g hc), if_pos hf]
  have ho : [inf, los, rel].any out1 = false := by simp [out1]; omega
  have he : stE' d s inf los rel = 0 := by unfold stE'; rw [if_neg (fun g => g hd), ho]; rfl
  unfold stAns
  rw [if_pos he]

end Go.Proofs.YtfjdfnegookkcaaGreat
namespace Go.Proofs.YtfjdfnegookkcaaGreat
set_option linter.all false
open Go.Vm

theorem bal_step {d : Dm} (h : Dv d) {s : Ds} (hf : dfit d s) (htop : dCr d ≤ 10000) {a b c : Int} (ha : 0 ≤ a ∧ a ≤ 200) (hb : 0 ≤ b ∧ b ≤ 200) (hc : 0 ≤ c ∧ c ≤ 200) :
    ∃ xv xu xg lo T P O pw st, stS d s a b c = ⟨xv, T + P, xu, xg⟩ ∧ stR d s a b c = ⟨a, lo, T, P, O, pw, st⟩ ∧ balP s ⟨xv, T + P, xu, xg⟩ ⟨a, lo, T, P, O, pw, st⟩ ∧ dfit d ⟨xv, T + P, xu, xg⟩ ∧
      ¬ b < lo ∧ ¬ lo < 0 ∧ ¬ T < 0 ∧ ¬ P < 0 ∧ ¬ O < 0 ∧ ¬ c < T ∧ ¬ xv < min (dDd d) (s.v + a - lo) ∧ (0 < O → xv = dCr d) ∧ (T ≤ 100000 ∧ P ≤ 100000 ∧ O ≤ 100000 ∧ lo ≤ 100000) ∧ s.v ≤ 100000 := by
  have p := stp_of h hf (inf := a) (los := b) (rel := c) (by omega) (by omega) (by omega)
  have hv := hf.1
  have hC := dCr_range h.r
  have hD := dDd_range h.r
  have hs := sv_of h.r
  have hDC : dDd d ≤ dCr d := cval_mono (cv_of (sChk_c h.r)) (by have := hs.l; have := hs.f; have := hs.s; have := hs.t; omega)
  have hL : stL s a b = s.v + a - min b (s.v + a) := rfl
  have hO : stO d s a b c = max (stL s a b - (stT d s a b c + stP d s a b c) - dCr d) 0 := rfl
  have hT0 := p.T0
  have hTr := p.Tr
  have hP0 := p.P0
  have hsum := p.sum
  have hfr : fre d (stL s a b) = max (stL s a b - dDd d) 0 := rfl
  have hS : stS d s a b c = ⟨stL s a b - (stT d s a b c + stP d s a b c) - stO d s a b c, stT d s a b c + stP d s a b c, nus d s (mst d c (stL s a b)) d.u.length, setS d.g s.g (hgt d.r s.v) (wnt d c (stL s a b) (stT d s a b c))⟩ := by
    unfold stS
    congr 1
    omega
  have hR : stR d s a b c = ⟨a, min b (s.v + a), stT d s a b c, stP d s a b c, stO d s a b c, ssum (pww d s (mst d c (stL s a b))) d.u.length, ssum (sta d s (mst d c (stL s a b))) d.u.length⟩ := rfl
  have hfit := stS_fit h hf (inf := a) (los := b) (rel := c) (by omega) (by omega) (by omega)
  rw [hS] at hfit
  refine ⟨_, _, _, _, _, _, _, _, _, hS, hR, ⟨?_, ?_⟩, hfit, by omega, by omega, by omega, by omega, by omega, by omega, by omega, by omega, by omega, by omega⟩
  · intro i hi
    have : i = 0 ∨ i = 1 ∨ i = 2 ∨ i = 3 ∨ i = 4 ∨ i = 5 ∨ i = 6 := by omega
    rcases this with rfl | rfl | rfl | rfl | rfl | rfl | rfl
    · show 0 ≤ s.v ∧ s.v ≤ 274877906944
      omega
    · show 0 ≤ stL s a b - (stT d s a b c + stP d s a b c) - stO d s a b c ∧ stL s a b - (stT d s a b c + stP d s a b c) - stO d s a b c ≤ 274877906944
      omega
    · show 0 ≤ a ∧ a ≤ 274877906944
      omega
    · show 0 ≤ min b (s.v + a) ∧ min b (s.v + a) ≤ 274877906944
      omega
    · show 0 ≤ stT d s a b c ∧ stT d s a b c ≤ 274877906944
      omega
    · show 0 ≤ stP d s a b c ∧ stP d s a b c ≤ 274877906944
      omega
    · show 0 ≤ stO d s a b c ∧ stO d s a b c ≤ 274877906944
      omega
  · simp only; omega
theorem dbal_walk {l : List Int} (hl : l.length ≤ 9223372036854775807) : ∃ G', Lim F 3 [ints l] [] = some (.bool true, G') := by
  suffices h : Ret (Lim F) 3 [ints l] [] fun v G => v = .bool true by
    obtain ⟨_, G, h, rfl⟩ := h
    exact ⟨G, h⟩
  refine ret_of rfl rfl ?_
  obtain ⟨d, s, k1, n1, hd1, hw⟩ := c_mk_Dam (l := l) (k := 0) ⟨by omega, hl⟩
  have hdv := dv_of hw.chk
  have hr := hdv.r
  have hcr := dCr_range hr
  have hdd := dDd_range hr
  have htop := hw.top
  have hV1 := c_r03_Volume d.r d.r.d []
  rw [sWr_d hr, if_pos rfl, show cval d.r.c d.r.d = dDd d from rfl] at hV1
  have hV2 := c_r03_Volume d.r d.r.t []
  rw [sWr_t hr, if_pos rfl, show cval d.r.c d.r.t = dCr d from rfl] at hV2
  simp (config := { maxSteps := 2000000 }) +contextual (disch := omega) [-getElem?_pos, -List.length_eq_zero_iff, -Int.natCast_eq_zero, wrap64, cond_yes, cond_yes2, int_beq, int_bne, v_w22_DamBalances, c_New, n1, hV1, hV2]
  refine go_loop (fun x : Nat × Ds × Nat => v_w22_DamBalances_s0 (.gptr 0 0) (dDd d) (dCr d) x.1 d.row x.2.1.row [dk l x.2.2]) (fun x => x.1 ≤ 8 ∧ dfit d x.2.1 ∧ okd l x.2.2) (fun x => 8 - x.1) (0, s, k1) rfl (by simp) ⟨by simp, hw.fit, hd1⟩ ?_
  rintro ⟨i, s, k⟩ ⟨hi, hf, hd⟩
  simp only at hi hf hd
  obtain ⟨a, k2, n2, hd2, ha⟩ := c_Next hd 120 (by omega)
  obtain ⟨b, k3, n3, hd3, hb⟩ := c_Next hd2 40 (by omega)
  obtain ⟨c, k4, n4, hd4, hc⟩ := c_Next hd3 60 (by omega)
  simp (config := { maxSteps := 2000000 }) +contextual (disch := omega) [-getElem?_pos, -List.length_eq_zero_iff, -Int.natCast_eq_zero, wrap64, cond_yes, cond_yes2, int_beq, int_bne, v_w22_DamBalances_b0]
  refine cnd_dec (fun h1 => ?_) (fun h1 => ?_)
  · obtain ⟨xv, xu, xg, lo, T, P, O, pw, st, e1, e2, hB, hX, g1, g2, g3, g4, g5, g6, g7, g8, g9, g10⟩ := bal_step hdv hf htop (a := a) (b := b) (c := c) (by omega) (by omega) (by omega)
    obtain ⟨G1, hS⟩ := c_dam_Step d s a b c
    rw [stAns_ok hw.chk hf (by omega) (by omega) (by omega), e1, e2] at hS
    have hBc := c_dam_Balance s ⟨xv, T + P, xu, xg⟩ ⟨a, lo, T, P, O, pw, st⟩ []
    rw [decide_eq_true hB] at hBc
    have hVc := c_r22_Valid d ⟨xv, T + P, xu, xg⟩ []
    rw [decide_eq_true ⟨hw.chk, hX⟩] at hVc
    have hFc := c_dam_Flow ⟨a, lo, T, P, O, pw, st⟩ (by simp only; omega) (by simp only; omega) (by simp only; omega) []
    have hv := hf.1
    by_cases hO : 0 < O
    · have g8 : (xv = dCr d) = True := eq_true (g8 hO)
      simp (config := { maxSteps := 2000000 }) +contextual (disch := omega) [-getElem?_pos, -List.length_eq_zero_iff, -Int.natCast_eq_zero, wrap64, cond_yes, cond_yes2, int_beq, int_bne, n2, n3, n4]
      simp (config := { maxSteps := 2000000 }) +contextual (disch := omega) [-getElem?_pos, -List.length_eq_zero_iff, -Int.natCast_eq_zero, wrap64, cond_yes, cond_yes2, int_beq, int_bne, hS, hBc, hVc, hFc, g1, g2, g3, g4, g5, g6, g7, g8, hO]
      refine rnd_next (i + 1, ⟨xv, T + P, xu, xg⟩, k4) (by simp) ⟨by simp; omega, hX, hd4⟩ (by simp; omega)
    · simp (config := { maxSteps := 2000000 }) +contextual (disch := omega) [-getElem?_pos, -List.length_eq_zero_iff, -Int.natCast_eq_zero, wrap64, cond_yes, cond_yes2, int_beq, int_bne, n2, n3, n4]
      simp (config := { maxSteps := 2000000 }) +contextual (disch := omega) [-getElem?_pos, -List.length_eq_zero_iff, -Int.natCast_eq_zero, wrap64, cond_yes, cond_yes2, int_beq, int_bne, hS, hBc, hVc, hFc, g1, g2, g3, g4, g5, g6, g7, hO]
      refine rnd_next (i + 1, ⟨xv, T + P, xu, xg⟩, k4) (by simp) ⟨by simp; omega, hX, hd4⟩ (by simp; omega)
  · simp (config := { maxSteps := 2000000 }) +contextual (disch := omega) [-getElem?_pos, -List.length_eq_zero_iff, -Int.natCast_eq_zero, wrap64, cond_yes, cond_yes2, int_beq, int_bne, c_awake22]
end Go.Proofs.YtfjdfnegookkcaaGreat
