/-
  ValueTells: its walk.
-/
import Derived.Test.YtgocbbphpkbiaaaVal7
import Derived.Test.YtgocbbphpkbiaaaVal6
namespace Go.Proofs.Ytgocbbphpkbiaaa
open Go.Vm

/-- The cells of steps whose records are laid by. -/
def lcells (gs : List (List Rec)) : List V := gs.flatMap fun g => [recs g, .nils, .nils]
@[simp] theorem lcells_len {gs : List (List Rec)} : (lcells gs).length = 3 * gs.length := by
  induction gs with
  | nil => rfl
  | cons g gs ih =>
    show (recs g :: V.nils :: V.nils :: lcells gs).length = _
    simp only [List.length_cons, ih]; omega
theorem lcells_snoc {gs : List (List Rec)} {g : List Rec} : lcells (gs ++ [g]) = lcells gs ++ [recs g, .nils, .nils] := by simp [lcells]
@[simp] theorem lcells_forget {gs : List (List Rec)} {f : Nat} : (lcells gs).map (V.forget f) = lcells gs := by
  induction gs with
  | nil => rfl
  | cons g gs ih => show (recs g :: V.nils :: V.nils :: lcells gs).map _ = recs g :: V.nils :: V.nils :: lcells gs; simp only [List.map_cons, ih]; rfl
@[simp] theorem lcells_men {gs : List (List Rec)} {d : Nat} : ((lcells gs).all fun v => !v.men0 d) = true := by
  induction gs with
  | nil => rfl
  | cons g gs ih => show ((recs g :: V.nils :: V.nils :: lcells gs).all _) = true; simp only [List.all_cons, ih]; rfl

@[simp] theorem lget0 {gs : List (List Rec)} {r : List V} : (lcells gs ++ r)[3 * gs.length]? = r[0]? := by
  rw [List.getElem?_append_right (by simp)]; simp
@[simp] theorem lget {gs : List (List Rec)} {r : List V} {j : Nat} : (lcells gs ++ r)[3 * gs.length + j]? = r[j]? := by
  rw [List.getElem?_append_right (by simp)]; simp
@[simp] theorem lset0 {gs : List (List Rec)} {r : List V} {v : V} : (lcells gs ++ r).set (3 * gs.length) v = lcells gs ++ r.set 0 v := by
  rw [List.set_append_right _ _ (by simp)]; simp
@[simp] theorem lset {gs : List (List Rec)} {r : List V} {v : V} {j : Nat} : (lcells gs ++ r).set (3 * gs.length + j) v = lcells gs ++ r.set j v := by
  rw [List.set_append_right _ _ (by simp)]; simp
theorem chunks_shift {a b c : V} {cs : List V} : ∀ {n off : Nat}, chunks 3 (a :: b :: c :: cs) (off + 3) n = chunks 3 cs off n
  | 0, _ => rfl
  | n + 1, off => by
    simp only [chunks]
    rw [show off + 3 + 3 = (off + 3) + 3 by omega, chunks_shift]
    rfl
theorem lcells_rows {cur : List Rec} {f : Nat} : ∀ {done : List (List Rec)}, elsAll [some 7, some 1, some 1] (chunks 3 (lcells done ++ [.slice (some f) 7 (cur.map Rec.row), .nils, .nils]) 0 (done.length + 1)) = some ((done ++ [cur]).map psd)
  | [] => rfl
  | g :: gs => by
    show elsAll _ (chunks 3 (recs g :: .nils :: .nils :: (lcells gs ++ _)) 0 (gs.length + 1 + 1)) = _
    rw [chunks, chunks_shift, elsAll, lcells_rows]
    rfl

theorem worthOf_tuple (s p : List Int) (t : Int) (l : List (List Rec)) : ∃ x e, worthOf s p t l = .tuple [i64 x, i64 e] := by
  simp only [worthOf]
  repeat' split
  all_goals exact ⟨_, _, rfl⟩
theorem priceOf_tuple (s p : List Int) (t : Int) : ∃ x e, priceOf s p t = .tuple [i64 x, i64 e] := by
  simp only [priceOf]
  repeat' split
  all_goals exact ⟨_, _, rfl⟩

abbrev lss (ls : List (List (List Rec))) : V := .slice none 1 (ls.map fun l => [psds l])
/-- The families' lengths behind the first loop. -/
def tk (o : Option Nat) (q : Nat) : List (Nat × Nat) := match o with
  | none => [(1111, q)]
  | some r => [(1100, r), (1111, q)]
@[simp high] theorem tk_keep {o : Option Nat} {q : Nat} : keepL (tk o q) [1100, 1111] = tk o q := by cases o <;> rfl
@[simp] theorem tk_kp {o : Option Nat} {q : Nat} : kp (Go.Vm.look 1100 (tk o q)) 1100 (kp (Go.Vm.look 1111 (tk o q)) 1111 []) = tk o q := by cases o <;> rfl
@[simp high] theorem tk_drp {o : Option Nat} {q : Nat} : drp 18 (tk o q) = tk o q := by cases o <;> rfl
abbrev x12N (_ : List (List Rec)) : V := .nils
abbrev x12P (l : List (List Rec)) : V := psds l
abbrev llN (_ : List (List Rec)) : List (List Rec) := []
abbrev llP (l : List (List Rec)) : List (List Rec) := l

theorem tells_l1 {time u n117 n118 n152 n153 : Int} {x3 x12 x13 x116 x151 : V} {a b : List Int} {ls : List (List (List Rec))} {o : Option Nat} {q : Nat} {G : List GObj} {K : Post} (hl : ls.length ≤ 10)
    (h : K (.exit 6) ⟨[(2, i64 time), (3, x3), (12, x12), (13, x13), (18, .lptr 18 0), (24, i64 u), (116, x116), (117, i64 n117), (118, i64 n118), (151, x151), (152, i64 n152), (153, i64 n153), (182, lss ls), (183, i64 ls.length), (184, i64 ls.length), (185, .bool false)],
      [(18, [ints a, ints b])], tk o q, G⟩) :
    go (Lim F) v_w41_ValueTells_l1 ⟨[(2, i64 time), (3, x3), (12, x12), (13, x13), (18, .lptr 18 0), (24, i64 u), (116, x116), (117, i64 n117), (118, i64 n118), (151, x151), (152, i64 n152), (153, i64 n153), (182, lss ls), (183, i64 ls.length), (184, i64 0)],
      [(18, [ints a, ints b])], tk o q, G⟩ K := by
  refine go_loop (fun k : Nat => ⟨[(2, i64 time), (3, x3), (12, x12), (13, x13), (18, .lptr 18 0), (24, i64 u), (116, x116), (117, i64 n117), (118, i64 n118), (151, x151), (152, i64 n152), (153, i64 n153), (182, lss ls), (183, i64 ls.length), (184, i64 k)],
      [(18, [ints a, ints b])], tk o q, G⟩) (fun k => k ≤ ls.length) (fun k => ls.length - k) 0 rfl (by simp) (by omega) ?_
  intro k hkl
  simp +contextual (disch := omega) [-getElem?_pos, -List.length_eq_zero_iff, -Int.natCast_eq_zero, v_w41_ValueTells_b1]
  refine cnd_dec (fun h1 => ?_) (fun h1 => ?_)
  · have h1 : k < ls.length := by omega
    obtain ⟨x, e, hw⟩ := worthOf_tuple a b u (nth ls k)
    have c1 := c_value_Worth a b u (nth ls k) []
    have c2 := c_r41_Worth a b u (nth ls k) []
    rw [hw] at c1 c2
    simp +contextual (disch := omega) [-getElem?_pos, -List.length_eq_zero_iff, -Int.natCast_eq_zero, wrap64, get_nth (l := ls), c1, c2]
    exact rnd_next (k + 1) (by simp) (by omega) (by omega)
  · obtain rfl : k = ls.length := by omega
    simpa using h

abbrev trfs (ts : List (List Int × List Int)) : V := .slice none 2 (ts.map fun a => [ints a.1, ints a.2])
abbrev s2N (time n117 n118 : Int) (x116 : V) (rr : List Rec) (ll good : List (List Rec)) (a b us : List Int) (o : Option Nat) (q : Nat) (G : List GObj) (k : Int) : St :=
  ⟨[(2, i64 time), (3, recs rr), (12, x12N ll), (13, .slice (some 1111) 3 (good.map psd)), (18, .lptr 18 0), (116, x116), (117, i64 n117), (118, i64 n118), (151, ints us), (152, i64 us.length), (153, i64 k)],
    [(18, [ints a, ints b])], tk o q, G⟩
theorem tells_l2N {time n117 n118 : Int} {x116 : V} {rr : List Rec} {ll good : List (List Rec)} {a b us : List Int} {o : Option Nat} {q : Nat} {G : List GObj} {K : Post} (hu : us.length ≤ 10)
    (h : K (.exit 4) ⟨[(2, i64 time), (3, recs rr), (12, x12N ll), (13, .slice (some 1111) 3 (good.map psd)), (18, .lptr 18 0), (116, x116), (117, i64 n117), (118, i64 n118), (151, ints us), (152, i64 us.length), (153, i64 us.length), (154, .bool false)],
      [(18, [ints a, ints b])], tk o q, G⟩) :
    go (Lim F) v_w41_ValueTells_l2 (s2N time n117 n118 x116 rr ll good a b us o q G 0) K := by
  refine go_loop (fun k : Nat => s2N time n117 n118 x116 rr ll good a b us o q G k) (fun k => k ≤ us.length) (fun k => us.length - k) 0 rfl (by simp) (by omega) ?_
  intro k hkl
  simp +contextual (disch := omega) [-getElem?_pos, -List.length_eq_zero_iff, -Int.natCast_eq_zero, v_w41_ValueTells_b2]
  refine cnd_dec (fun h1 => ?_) (fun h1 => ?_)
  · have h1 : k < us.length := by omega
    obtain ⟨x, e, hw⟩ := priceOf_tuple a b (nth us k)
    have c1 := c_value_Price a b (nth us k) []
    have c2 := c_r41_Price a b (nth us k) []
    rw [hw] at c1 c2
    simp +contextual (disch := omega) [-getElem?_pos, -List.length_eq_zero_iff, -Int.natCast_eq_zero, get_int, c1, c2]
    refine tells_l1 (ls := [llN ll, good, [rr]]) (by simp) ?_
    simp +contextual (disch := omega) [-getElem?_pos, -List.length_eq_zero_iff, -Int.natCast_eq_zero, wrap64, wrap64]
    exact rnd_next (k + 1) (by simp) (by omega) (by omega)
  · obtain rfl : k = us.length := by omega
    simpa using h

abbrev s3N (time : Int) (ts : List (List Int × List Int)) (rr : List Rec) (ll good : List (List Rec)) (o : Option Nat) (q : Nat) (G : List GObj) (k : Int) : St :=
  ⟨[(2, i64 time), (3, recs rr), (12, x12N ll), (13, .slice (some 1111) 3 (good.map psd)), (116, trfs ts), (117, i64 ts.length), (118, i64 k)], [], tk o q, G⟩
theorem tells_l3N {time : Int} {ts : List (List Int × List Int)} {rr : List Rec} {ll good : List (List Rec)} {o : Option Nat} {q : Nat} {G : List GObj} {K : Post} {S : St} (ht : ts.length ≤ 10)
    (hS : bnd (ghosts [.freeze 12 [some 7, some 1, some 1]] S) fun S => S.keep ⟨[2, 3, 12, 13, 116, 117, 118], [20087], [1100, 1111]⟩ = s3N time ts rr ll good o q G 0)
    (h : K (.exit 2) ⟨[(2, i64 time), (3, recs rr), (12, x12N ll), (13, .slice (some 1111) 3 (good.map psd)), (116, trfs ts), (117, i64 ts.length), (118, i64 ts.length), (119, .bool false)], [], tk o q, G⟩) :
    go (Lim F) v_w41_ValueTells_l3 S K := by
  refine go_loop (fun k : Nat => s3N time ts rr ll good o q G k) (fun k => k ≤ ts.length) (fun k => ts.length - k) 0 rfl hS (by omega) ?_
  intro k hkl
  simp +contextual (disch := omega) [-getElem?_pos, -List.length_eq_zero_iff, -Int.natCast_eq_zero, v_w41_ValueTells_b3]
  refine cnd_dec (fun h1 => ?_) (fun h1 => ?_)
  · have h1 : k < ts.length := by omega
    generalize hab : nth ts k = ab
    obtain ⟨a, b⟩ := ab
    have hm := c_Mod (n := time) (m := 300) (by omega) []
    have c1 := c_value_Day a b []
    have c2 := c_r41_Day a b []
    by_cases hc : chk a b = 0
    · simp only [dayOf, dayOfR, hc, ne_eq, not_true, if_false] at c1 c2
      have hlen : b.length ≤ 4294967296 := by have := (valid_of hc).len; have := (valid_of hc).few; omega
      have c3 := c_Ints_same (List.range b.length) (fun i => lens a i) (by simpa using hlen) []
      simp +contextual (disch := omega) [-getElem?_pos, -List.length_eq_zero_iff, -Int.natCast_eq_zero, get_nth (l := ts), hab, c1, c2, c3, c_value_Check, c_r41_Check, hc, hm]
      refine tells_l2N (us := [time, modV time 300]) (by simp) ?_
      simp +contextual (disch := omega) [-getElem?_pos, -List.length_eq_zero_iff, -Int.natCast_eq_zero, wrap64, wrap64]
      exact rnd_next (k + 1) (by simp) (by omega) (by omega)
    · have hc' : chk a b ≠ 0 := hc
      simp only [dayOf, dayOfR, hc', ne_eq, not_false_iff, if_true] at c1 c2
      have c3 := c_Ints_same [] (fun i => lens a i) (by simp) []
      simp only [List.map_nil] at c3
      simp +contextual (disch := omega) [-getElem?_pos, -List.length_eq_zero_iff, -Int.natCast_eq_zero, get_nth (l := ts), hab, c1, c2, c3, c_value_Check, c_r41_Check, hm]
      refine tells_l2N (us := [time, modV time 300]) (by simp) ?_
      simp +contextual (disch := omega) [-getElem?_pos, -List.length_eq_zero_iff, -Int.natCast_eq_zero, wrap64, wrap64]
      exact rnd_next (k + 1) (by simp) (by omega) (by omega)
  · obtain rfl : k = ts.length := by omega
    simpa using h
abbrev s2P (time n117 n118 : Int) (x116 : V) (rr : List Rec) (ll good : List (List Rec)) (a b us : List Int) (o : Option Nat) (q : Nat) (G : List GObj) (k : Int) : St :=
  ⟨[(2, i64 time), (3, recs rr), (12, x12P ll), (13, .slice (some 1111) 3 (good.map psd)), (18, .lptr 18 0), (116, x116), (117, i64 n117), (118, i64 n118), (151, ints us), (152, i64 us.length), (153, i64 k)],
    [(18, [ints a, ints b])], tk o q, G⟩
theorem tells_l2P {time n117 n118 : Int} {x116 : V} {rr : List Rec} {ll good : List (List Rec)} {a b us : List Int} {o : Option Nat} {q : Nat} {G : List GObj} {K : Post} (hu : us.length ≤ 10)
    (h : K (.exit 4) ⟨[(2, i64 time), (3, recs rr), (12, x12P ll), (13, .slice (some 1111) 3 (good.map psd)), (18, .lptr 18 0), (116, x116), (117, i64 n117), (118, i64 n118), (151, ints us), (152, i64 us.length), (153, i64 us.length), (154, .bool false)],
      [(18, [ints a, ints b])], tk o q, G⟩) :
    go (Lim F) v_w41_ValueTells_l2 (s2P time n117 n118 x116 rr ll good a b us o q G 0) K := by
  refine go_loop (fun k : Nat => s2P time n117 n118 x116 rr ll good a b us o q G k) (fun k => k ≤ us.length) (fun k => us.length - k) 0 rfl (by simp) (by omega) ?_
  intro k hkl
  simp +contextual (disch := omega) [-getElem?_pos, -List.length_eq_zero_iff, -Int.natCast_eq_zero, v_w41_ValueTells_b2]
  refine cnd_dec (fun h1 => ?_) (fun h1 => ?_)
  · have h1 : k < us.length := by omega
    obtain ⟨x, e, hw⟩ := priceOf_tuple a b (nth us k)
    have c1 := c_value_Price a b (nth us k) []
    have c2 := c_r41_Price a b (nth us k) []
    rw [hw] at c1 c2
    simp +contextual (disch := omega) [-getElem?_pos, -List.length_eq_zero_iff, -Int.natCast_eq_zero, get_int, c1, c2]
    refine tells_l1 (ls := [llP ll, good, [rr]]) (by simp) ?_
    simp +contextual (disch := omega) [-getElem?_pos, -List.length_eq_zero_iff, -Int.natCast_eq_zero, wrap64, wrap64]
    exact rnd_next (k + 1) (by simp) (by omega) (by omega)
  · obtain rfl : k = us.length := by omega
    simpa using h

abbrev s3P (time : Int) (ts : List (List Int × List Int)) (rr : List Rec) (ll good : List (List Rec)) (o : Option Nat) (q : Nat) (G : List GObj) (k : Int) : St :=
  ⟨[(2, i64 time), (3, recs rr), (12, x12P ll), (13, .slice (some 1111) 3 (good.map psd)), (116, trfs ts), (117, i64 ts.length), (118, i64 k)], [], tk o q, G⟩
theorem tells_l3P {time : Int} {ts : List (List Int × List Int)} {rr : List Rec} {ll good : List (List Rec)} {o : Option Nat} {q : Nat} {G : List GObj} {K : Post} {S : St} (ht : ts.length ≤ 10)
    (hS : bnd (ghosts [.freeze 12 [some 7, some 1, some 1]] S) fun S => S.keep ⟨[2, 3, 12, 13, 116, 117, 118], [20087], [1100, 1111]⟩ = s3P time ts rr ll good o q G 0)
    (h : K (.exit 2) ⟨[(2, i64 time), (3, recs rr), (12, x12P ll), (13, .slice (some 1111) 3 (good.map psd)), (116, trfs ts), (117, i64 ts.length), (118, i64 ts.length), (119, .bool false)], [], tk o q, G⟩) :
    go (Lim F) v_w41_ValueTells_l3 S K := by
  refine go_loop (fun k : Nat => s3P time ts rr ll good o q G k) (fun k => k ≤ ts.length) (fun k => ts.length - k) 0 rfl hS (by omega) ?_
  intro k hkl
  simp +contextual (disch := omega) [-getElem?_pos, -List.length_eq_zero_iff, -Int.natCast_eq_zero, v_w41_ValueTells_b3]
  refine cnd_dec (fun h1 => ?_) (fun h1 => ?_)
  · have h1 : k < ts.length := by omega
    generalize hab : nth ts k = ab
    obtain ⟨a, b⟩ := ab
    have hm := c_Mod (n := time) (m := 300) (by omega) []
    have c1 := c_value_Day a b []
    have c2 := c_r41_Day a b []
    by_cases hc : chk a b = 0
    · simp only [dayOf, dayOfR, hc, ne_eq, not_true, if_false] at c1 c2
      have hlen : b.length ≤ 4294967296 := by have := (valid_of hc).len; have := (valid_of hc).few; omega
      have c3 := c_Ints_same (List.range b.length) (fun i => lens a i) (by simpa using hlen) []
      simp +contextual (disch := omega) [-getElem?_pos, -List.length_eq_zero_iff, -Int.natCast_eq_zero, get_nth (l := ts), hab, c1, c2, c3, c_value_Check, c_r41_Check, hc, hm]
      refine tells_l2P (us := [time, modV time 300]) (by simp) ?_
      simp +contextual (disch := omega) [-getElem?_pos, -List.length_eq_zero_iff, -Int.natCast_eq_zero, wrap64, wrap64]
      exact rnd_next (k + 1) (by simp) (by omega) (by omega)
    · have hc' : chk a b ≠ 0 := hc
      simp only [dayOf, dayOfR, hc', ne_eq, not_false_iff, if_true] at c1 c2
      have c3 := c_Ints_same [] (fun i => lens a i) (by simp) []
      simp only [List.map_nil] at c3
      simp +contextual (disch := omega) [-getElem?_pos, -List.length_eq_zero_iff, -Int.natCast_eq_zero, get_nth (l := ts), hab, c1, c2, c3, c_value_Check, c_r41_Check, hm]
      refine tells_l2P (us := [time, modV time 300]) (by simp) ?_
      simp +contextual (disch := omega) [-getElem?_pos, -List.length_eq_zero_iff, -Int.natCast_eq_zero, wrap64, wrap64]
      exact rnd_next (k + 1) (by simp) (by omega) (by omega)
  · obtain rfl : k = ts.length := by omega
    simpa using h

/-- What holds while the records are laid by: i of them; all groups but the last one, the last one; the good ones. -/
def tst (time : Int) (rr : List Rec) (m b c : List V) (q : List Int) (i : Nat) (done : List (List Rec)) (cur : List Rec) (good : List (List Rec)) (G : List GObj) : St :=
  if i = 0 then ⟨[(2, i64 time), (3, recs rr), (5, .lptr 5 0), (10, .lptr 10 0), (11, .lptr 11 0), (12, .nils), (13, .slice (some 1111) 3 (good.map psd)), (74, recs rr), (75, i64 rr.length), (76, i64 i)],
    [(5, m), (10, b), (11, c), (20063, icells q)], [(1111, good.length)], G⟩
  else v_w41_ValueTells_s0 time (recs rr) (.lref 20087 3 (done.length + 1)) (.slice (some 1111) 3 (good.map psd)) (recs rr) rr.length i m b c (icells q) (lcells done ++ [.slice (some 1100) 7 (cur.map Rec.row), .nils, .nils]) cur.length good.length G

theorem tells_walk (t : List Int) (rs rp : List Int) (time : Int) (rr : List Rec) : ∃ G', Lim F 3 [ints t, trf rs rp, i64 time, recs rr] [] = some (.bool true, G') := by
  suffices h : Ret (Lim F) 3 [ints t, trf rs rp, i64 time, recs rr] [] fun v G => v = .bool true by
    obtain ⟨_, G, h, rfl⟩ := h
    exact ⟨G, h⟩
  refine ret_of rfl rfl ?_
  simp +contextual (disch := omega) [-getElem?_pos, -List.length_eq_zero_iff, -Int.natCast_eq_zero, v_w41_ValueTells, c_sane41, c_Few]
  refine cnd_bool (fun h3 => trivial) (fun h3 => ?_)
  simp [-List.length_eq_zero_iff, -Int.natCast_eq_zero] at h3
  obtain ⟨⟨ht, _⟩, hr⟩ := h3
  obtain ⟨s, p, k1, h4, hd1, hv, h19⟩ := c_Tariff (l := t) (k := 0) ⟨by omega, by omega⟩
  have hp := hv.pos
  have hl := hv.len
  have hf := hv.few
  have hpe : p ≠ [] := fun e => by subst e; rw [hl] at hp; simp at hp
  have hm := c_Mod (n := time) (m := (p.length : Int)) (by omega) []
  obtain ⟨m1, m2⟩ := modV_range (v := time) (n := (p.length : Int)) (by omega) (by omega)
  generalize modV time (p.length : Int) = m at hm m1 m2
  obtain ⟨m, rfl⟩ : ∃ k : Nat, m = k := ⟨m.toNat, by omega⟩
  have m2 : m < p.length := by omega
  have hie : p.isEmpty = false := by cases p with | nil => exact absurd rfl hpe | cons _ _ => rfl
  simp +contextual (disch := omega) [-getElem?_pos, -List.length_eq_zero_iff, -Int.natCast_eq_zero, cond_yes, c_New, h4, hie, hm, m2]
  have hbr : elsAll [none] (chunks 1 (icells (p.set m time)) 0 p.length) = some ((p.set m time).map fun n => [V.int .i64 n]) := icells_rows (by simp)
  refine go_loop (fun x : Nat × List (List Rec) × List Rec × List (List Rec) => tst time rr [ints rs, ints rp] [ints s, ints p] [ints s, .lref 20063 1 p.length] (p.set m time) x.1 x.2.1 x.2.2.1 x.2.2.2 [dk t k1])
    (fun x => x.1 ≤ rr.length ∧ x.2.1.length ≤ x.1 ∧ x.2.2.1.length ≤ x.1 ∧ x.2.2.2.length ≤ x.1) (fun x => rr.length - x.1) (0, [], [], []) rfl (by simp [tst]) (by simp) ?_
  rintro ⟨i, done, cur, good⟩ ⟨hi, hdn, hcu, hgo⟩
  simp only at hi hdn hcu hgo
  by_cases h0 : i = 0
  · subst h0
    simp only [tst, if_true]
    simp +contextual (disch := omega) [-getElem?_pos, -List.length_eq_zero_iff, -Int.natCast_eq_zero, v_w41_ValueTells_b0]
    refine cnd_dec (fun h5 => ?_) (fun h5 => ?_)
    · have h5 : 0 < rr.length := by omega
      simp +contextual (disch := omega) [-getElem?_pos, -List.length_eq_zero_iff, -Int.natCast_eq_zero, wrap64, cond_yes, get_nth (l := rr), c_Mod]
      exact rnd_next (1, [], [nth rr 0], good ++ [[⟨0, 0, 0, 0, 0, modV (nth rr 0).power 1000, 1⟩]]) (by simp [lcells]) ⟨by omega, by simp, by simp, by simp at hgo ⊢; simp [hgo]⟩ (by simp; omega)
    · simp +contextual (disch := omega) [-getElem?_pos, -List.length_eq_zero_iff, -Int.natCast_eq_zero, hbr]
      refine tells_l3N (time := time) (G := [dk t k1]) (ts := [(rs, rp), (s, p), (s, p.set m time)]) (rr := rr) (ll := []) (good := good) (o := none) (q := good.length) (by simp) (by simp [tk]) ?_
      simp
  · simp only [tst, if_neg h0]
    simp +contextual (disch := omega) [-getElem?_pos, -List.length_eq_zero_iff, -Int.natCast_eq_zero, v_w41_ValueTells_b0]
    refine cnd_dec (fun h5 => ?_) (fun h5 => ?_)
    · have h5 : i < rr.length := by omega
      obtain ⟨n1, n2⟩ := tmod_range (t := i) (n := 3) (by omega) (by omega)
      simp +contextual (disch := omega) [-getElem?_pos, -List.length_eq_zero_iff, -Int.natCast_eq_zero, wrap64, cond_yes, int_beq, get_nth (l := rr)]
      refine cnd_dec (fun h6 => ?_) (fun h6 => ?_)
      · have hb : (3 * done.length + 3 == (done.length + 1) * 3) = true := by simp; omega
        have hx1 : (done.length + 1) * 3 = 3 * done.length + 3 := by omega
        simp +contextual (disch := omega) [-getElem?_pos, -List.length_eq_zero_iff, -Int.natCast_eq_zero, wrap64, cond_yes, cond_yes2, hb]
        simp +contextual (disch := omega) [-getElem?_pos, -List.length_eq_zero_iff, -Int.natCast_eq_zero, wrap64, cond_yes, cond_yes2, hx1, c_Mod]
        exact rnd_next (i + 1, done ++ [cur], [nth rr i], good ++ [[⟨0, 0, 0, 0, 0, modV (nth rr i).power 1000, 1⟩]]) (by simp [lcells_snoc]) ⟨by omega, by simp; omega, by simp, by simp; omega⟩ (by simp; omega)
      · have hx2 : done.length * 3 = 3 * done.length := by omega
        simp +contextual (disch := omega) [-getElem?_pos, -List.length_eq_zero_iff, -Int.natCast_eq_zero, wrap64, cond_yes, hx2, c_Mod]
        exact rnd_next (i + 1, done, cur ++ [nth rr i], good ++ [[⟨0, 0, 0, 0, 0, modV (nth rr i).power 1000, 1⟩]]) (by simp) ⟨by omega, by simp; omega, by simp; omega, by simp; omega⟩ (by simp; omega)
    · obtain rfl : i = rr.length := by omega
      simp +contextual (disch := omega) [-getElem?_pos, -List.length_eq_zero_iff, -Int.natCast_eq_zero, hbr]
      refine tells_l3P (time := time) (G := [dk t k1]) (ts := [(rs, rp), (s, p), (s, p.set m time)]) (rr := rr) (ll := done ++ [cur]) (good := good) (o := some cur.length) (q := good.length) (by simp) ?_ ?_
      · have hmul : (done.length + 1) * 3 ≤ 3 * done.length + 3 := by omega
        simp [tk, lcells_rows, hmul]
      · simp
end Go.Proofs.Ytgocbbphpkbiaaa
