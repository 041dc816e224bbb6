/-
  Parts of the proof, joined: Dob1.
-/
import Derived.Test.YtfjdfnegookkcaaDe
namespace Go.Proofs.Ytfjdfnegookkcaa
set_option linter.all false
open Go.Vm

/-- A step without inflow and loss. -/
theorem obeys {d : Dm} (h : Dv d) {s : Ds} (hf : dfit d s) {rel : Int} (hr : 0 ≤ rel ∧ rel ≤ 1073741824) :
    stT d s 0 0 rel + stP d s 0 0 rel ≤ max 0 (s.v - dDd d) ∧ stO d s 0 0 rel = 0 ∧ (stS d s 0 0 rel).v = s.v - stT d s 0 0 rel - stP d s 0 0 rel ∧
    (0 ≤ stT d s 0 0 rel ∧ stT d s 0 0 rel ≤ 1099511627776) ∧ (0 ≤ stP d s 0 0 rel ∧ stP d s 0 0 rel ≤ 1099511627776) ∧
    (d.u.length = 0 → min (min rel (max 0 (s.v - dDd d))) (canB d s) ≤ stP d s 0 0 rel) := by
  have p := stp_of h hf (inf := 0) (los := 0) (rel := rel) (by omega) (by omega) hr
  have hv := hf.1
  have hL := p.L
  have hL : stL s 0 0 = s.v := by omega
  have hF : fre d (stL s 0 0) = max 0 (s.v - dDd d) := by rw [hL]; unfold fre; omega
  have hs := p.sum
  have hT := p.T0
  have hTr := p.Tr
  have hP := p.P0
  have hP1 := p.P1
  rw [hF] at hs
  have hO : stO d s 0 0 rel = 0 := by unfold stO; rw [hL]; omega
  refine ⟨hs, hO, ?_, ⟨hT, by omega⟩, ⟨hP, by omega⟩, fun hu => ?_⟩
  · show stL s 0 0 - (stT d s 0 0 rel + stP d s 0 0 rel) - stO d s 0 0 rel = _
    rw [hO, hL]; omega
  · have hT0 : stT d s 0 0 rel = 0 := by unfold stT; rw [hu]; rfl
    have he : dE d s = 0 := by
      unfold dE
      have hc : dChk d = 0 := by
        unfold dChk
        rw [if_neg (fun g => g h.r), if_neg (by have := h.g; omega), if_neg (fun g => g (fsE_zero fun i _ hi => h.uv i (by omega))), if_neg (fun g => g (fsE_zero fun i _ hi => h.gv i (by omega))), if_neg (by have := h.gr; omega)]
      rw [if_neg (fun g => g hc), if_pos hf]
    have hc : canB d s = uHi d.u s.u d.gr + gMost d.g s.g (hgt d.r s.v) := by simp [canB, lvl, he]
    have hu0 : uHi d.u s.u d.gr = 0 := by
      have hu1 : d.u = [] := List.length_eq_zero_iff.1 hu
      unfold uHi
      split
      · simp [hiS, hu1]
      · rfl
    have hm := setF_most d.g s.g (hgt d.r s.v) (wnt d rel (stL s 0 0) (stT d s 0 0 rel)) p.w0
    have hw : wnt d rel (stL s 0 0) (stT d s 0 0 rel) = min rel (max 0 (s.v - dDd d)) := by unfold wnt; rw [hF, hT0]; omega
    have hPe : stP d s 0 0 rel = min (setF d.g s.g (hgt d.r s.v) (wnt d rel (stL s 0 0) (stT d s 0 0 rel))) (fre d (stL s 0 0) - stT d s 0 0 rel) := rfl
    rw [hPe, hF, hT0]
    rw [hT0] at hm hw
    rw [hw] at hm ⊢
    rw [hc, hu0]
    omega

theorem stAns_ok {d : Dm} (hc : dChk d = 0) {s : Ds} (hf : dfit d s) {inf los rel : Int} (hi : 0 ≤ inf ∧ inf ≤ 1073741824) (hl : 0 ≤ los ∧ los ≤ 1073741824) (hr : 0 ≤ rel ∧ rel ≤ 1073741824) :
    stAns d s inf los rel = .tuple [dst (stS d s inf los rel), dr (stR d s inf los rel), i64 0] := by
  have hd : dE d s = 0 := by unfold dE; rw [if_neg (fun g => g hc), if_pos hf]
  have ho : [inf, los, rel].any out1 = false := by simp [out1]; omega
  have he : stE' d s inf los rel = 0 := by unfold stE'; rw [if_neg (fun g => g hd), ho]; rfl
  unfold stAns
  rw [if_pos he]

theorem dobeys_walk {l : List Int} (hl : l.length ≤ 9223372036854775807) (release : Int) : ∃ G', Lim F 4 [ints l, i64 release] [] = some (.bool true, G') := by
  suffices h : Ret (Lim F) 4 [ints l, i64 release] [] fun v G => v = .bool true by
    obtain ⟨_, G, h, rfl⟩ := h
    exact ⟨G, h⟩
  refine ret_of rfl rfl ?_
  obtain ⟨d, s, k1, n1, hd1, hw⟩ := c_mk_Dam (l := l) (k := 0) ⟨by omega, hl⟩
  have hM := c_Mod (n := release) (m := 80) (by omega) []
  have hm := modV_range (v := release) (n := 80) (by omega) (by omega)
  generalize modV release 80 = q at hM hm
  have hdv := dv_of hw.chk
  have hr := hdv.r
  have hv : 0 ≤ s.v ∧ s.v ≤ dCr d := hw.fit.1
  have hcr := dCr_range hr
  have hdd := dDd_range hr
  have hwt := sWr_d hr
  have hV := c_r03_Volume d.r d.r.d []
  rw [hwt, if_pos rfl] at hV
  have hDD : cval d.r.c d.r.d = dDd d := rfl
  rw [hDD] at hV
  obtain ⟨o1, o2, o3, o4, o5, o6⟩ := obeys hdv hw.fit (rel := q) (by omega)
  obtain ⟨G1, hS⟩ := c_dam_Step d s 0 0 q
  rw [stAns_ok hw.chk hw.fit (by omega) (by omega) (by omega)] at hS
  have hd0 : dE d s = 0 := by unfold dE; rw [if_neg (fun g => g hw.chk), if_pos hw.fit]
  have hC := c_dam_Can d s []
  rw [hd0] at hC
  have hSr : stR d s 0 0 q = ⟨0, min 0 (s.v + 0), stT d s 0 0 q, stP d s 0 0 q, stO d s 0 0 q, _, _⟩ := rfl
  generalize hSS : stS d s 0 0 q = S at hS o3
  obtain ⟨sv, srel, su, sg⟩ := S
  rw [hSr, o2] at hS
  have o3 : sv = s.v - stT d s 0 0 q - stP d s 0 0 q := o3
  generalize ssum (pww d s _) d.u.length = PW at hS
  generalize ssum (sta d s _) d.u.length = ST at hS
  generalize stT d s 0 0 q = T at *
  generalize stP d s 0 0 q = P at *
  generalize canA d s = cA at *
  generalize canB d s = cB at *
  subst o3
  have g1 : ¬ (max 0 (s.v - dDd d) < T + P) := by omega
  have g2 : (decide (max 0 (s.v - dDd d) = 0) && !decide (s.v - T - P = s.v)) = false := by
    by_cases h : max 0 (s.v - dDd d) = 0
    · have : s.v - T - P = s.v := by omega
      simp [this]
    · simp [h]
  by_cases hu : d.u.length = 0
  · have hu' : (d.u.length : Int) = 0 := by omega
    have o6 := o6 hu
    have g3 : ¬ P < min q (min (max 0 (s.v - dDd d)) cB) := by omega
    simp (config := { maxSteps := 2000000 }) +contextual (disch := omega) [-getElem?_pos, -List.length_eq_zero_iff, -Int.natCast_eq_zero, wrap64, cond_yes, cond_yes2, int_beq, int_bne, v_w22_DamObeys, c_New, n1, hM, hS, hC, hV, g1, g2, hu', g3, c_awake22]
  · have hu' : ¬ (d.u.length : Int) = 0 := by omega
    simp (config := { maxSteps := 2000000 }) +contextual (disch := omega) [-getElem?_pos, -List.length_eq_zero_iff, -Int.natCast_eq_zero, wrap64, cond_yes, cond_yes2, int_beq, int_bne, v_w22_DamObeys, c_New, n1, hM, hS, hC, hV, g1, g2, hu', c_awake22]
end Go.Proofs.Ytfjdfnegookkcaa
