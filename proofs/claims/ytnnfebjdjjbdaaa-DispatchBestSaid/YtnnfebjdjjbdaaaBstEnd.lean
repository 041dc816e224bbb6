/-
  DispatchBest returns true, for every input. Its condition: none.
-/
import Derived.Test.YtnnfebjdjjbdaaaDc
import Derived.Test.YtnnfebjdjjbdaaaDd
namespace Go.Proofs.Ytnnfebjdjjbdaaa
set_option linter.all false
open Go.Vm
open Go.ChangeShapes Go.WideShapes Go.ChangeAt Go.RowKit

theorem pt_row {H : Type} {d : Nat} {vs : List V} {x : DataW H} (h : TyV Try.prog d 83 vs x) : ∃ p : Pt, vs = p.row ∧ True := by
  have hl := tyv_len (n := 2) (by kernel_rfl) h
  obtain ⟨a0, h0, _⟩ := tyv_fint (i := 0) (off := 0) (ty := 3) (k := .i64) (by kernel_rfl) (by kernel_rfl) h
  obtain ⟨a1, h1, _⟩ := tyv_fint (i := 1) (off := 1) (ty := 3) (k := .i64) (by kernel_rfl) (by kernel_rfl) h
  match vs, hl with
  | [b0, b1], _ =>
    simp at h0 h1
    subst h0; subst h1
    exact ⟨⟨a0, a1⟩, rfl, trivial⟩
theorem bd_row {H : Type} {d : Nat} {vs : List V} {x : DataW H} (h : TyV Try.prog d 46 vs x) : ∃ p : Bd, vs = p.row ∧ True := by
  have hl := tyv_len (n := 2) (by kernel_rfl) h
  obtain ⟨a0, h0, _⟩ := tyv_fint (i := 0) (off := 0) (ty := 3) (k := .i64) (by kernel_rfl) (by kernel_rfl) h
  obtain ⟨a1, h1, _⟩ := tyv_fint (i := 1) (off := 1) (ty := 3) (k := .i64) (by kernel_rfl) (by kernel_rfl) h
  match vs, hl with
  | [b0, b1], _ =>
    simp at h0 h1
    subst h0; subst h1
    exact ⟨⟨a0, a1⟩, rfl, trivial⟩
theorem un_row {H : Type} {d : Nat} {vs : List V} {x : DataW H} (h : TyV Try.prog d 56 vs x) : ∃ u : Un, vs = u.row ∧ True := by
  have hl := tyv_len (n := 6) (by kernel_rfl) h
  obtain ⟨_, _, g0⟩ := tyv_field (i := 0) (off := 0) (n := 1) (ty := 53) (by kernel_rfl) h
  obtain ⟨a1, h1, _⟩ := tyv_fint (i := 1) (off := 1) (ty := 3) (k := .i64) (by kernel_rfl) (by kernel_rfl) h
  obtain ⟨a2, h2, _⟩ := tyv_fint (i := 2) (off := 2) (ty := 3) (k := .i64) (by kernel_rfl) (by kernel_rfl) h
  obtain ⟨_, _, g3⟩ := tyv_field (i := 3) (off := 3) (n := 1) (ty := 54) (by kernel_rfl) h
  obtain ⟨a4, h4, _⟩ := tyv_fint (i := 4) (off := 4) (ty := 3) (k := .i64) (by kernel_rfl) (by kernel_rfl) h
  obtain ⟨a5, h5, _⟩ := tyv_fint (i := 5) (off := 5) (ty := 3) (k := .i64) (by kernel_rfl) (by kernel_rfl) h
  obtain ⟨t, h0, _⟩ := tyv_slice (e := 83) Pt.row (fun _ => True) (by kernel_rfl) (fun d vs x h => pt_row h) g0
  obtain ⟨z, h3, _⟩ := tyv_slice (e := 46) Bd.row (fun _ => True) (by kernel_rfl) (fun d vs x h => bd_row h) g3
  have c0 : Try.prog.cellsOf 83 = 2 := by kernel_rfl
  have c3 : Try.prog.cellsOf 46 = 2 := by kernel_rfl
  rw [c0] at h0
  rw [c3] at h3
  match vs, hl with
  | [b0, b1, b2, b3, b4, b5], _ =>
    simp at h0 h1 h2 h3 h4 h5
    subst h0; subst h1; subst h2; subst h3; subst h4; subst h5
    exact ⟨⟨t, a1, a2, z, a4, a5⟩, rfl, trivial⟩
theorem us_row {H : Type} {d : Nat} {vs : List V} {x : DataW H} (h : TyV Try.prog d 60 vs x) : ∃ s : Us, vs = s.row ∧ True := by
  have hl := tyv_len (n := 3) (by kernel_rfl) h
  obtain ⟨a0, h0, _⟩ := tyv_fint (i := 0) (off := 0) (ty := 3) (k := .i64) (by kernel_rfl) (by kernel_rfl) h
  obtain ⟨a1, h1, _⟩ := tyv_fint (i := 1) (off := 1) (ty := 3) (k := .i64) (by kernel_rfl) (by kernel_rfl) h
  obtain ⟨_, _, g2⟩ := tyv_field (i := 2) (off := 2) (n := 1) (ty := 4) (by kernel_rfl) h
  obtain ⟨a2, h2⟩ := tyv_bool (by kernel_rfl) g2
  match vs, hl with
  | [b0, b1, b2], _ =>
    simp at h0 h1 h2
    subst h0; subst h1; subst h2
    exact ⟨⟨a0, a1, a2⟩, rfl, trivial⟩

set_option maxRecDepth 100000 in
theorem best_law (H : Type) (us : List V) (ds : List (DataW H)) (h : ArgsV Try.prog 6 Try.f4.params.toList us ds) : ∃ G', Lim F 4 us [] = some (.bool true, G') := by
  have h : ArgsV Try.prog 6 [34, 35, 22, 3, 3] us ds := h
  obtain ⟨va, _, us, ds, rfl, rfl, ha, h⟩ := argsV_cons h
  obtain ⟨vb, _, us, ds, rfl, rfl, hb, h⟩ := argsV_cons h
  obtain ⟨vc, _, us, ds, rfl, rfl, hc, h⟩ := argsV_cons h
  obtain ⟨vd, _, us, ds, rfl, rfl, hd, h⟩ := argsV_cons h
  obtain ⟨ve, _, us, ds, rfl, rfl, he, h⟩ := argsV_cons h
  obtain rfl := argsV_nil h
  obtain ⟨ru, ra, _⟩ := tyv_slice (e := 56) Un.row (fun _ => True) (by kernel_rfl) (fun d vs x h => un_row h) ha
  obtain ⟨rs, rb, _⟩ := tyv_slice (e := 60) Us.row (fun _ => True) (by kernel_rfl) (fun d vs x h => us_row h) hb
  have c0 : Try.prog.cellsOf 56 = 6 := by kernel_rfl
  have c1 : Try.prog.cellsOf 60 = 3 := by kernel_rfl
  rw [c0] at ra
  rw [c1] at rb
  subst ra rb
  obtain ⟨t, rfl, _, hl⟩ := tyv_ints (e := 3) (by kernel_rfl) (by kernel_rfl) (by kernel_rfl) hc
  obtain ⟨g, rfl, _⟩ := tyv_int (k := .i64) (by kernel_rfl) hd
  obtain ⟨r, rfl, _⟩ := tyv_int (k := .i64) (by kernel_rfl) he
  exact best_walk hl ru rs g r

set_option maxRecDepth 100000 in
theorem best_lifted (os : Os) (started : os.Started) (H : Type) (enc : TypeId × Value → H) :
    ReturnsInHanded {} Try.checked os 4 .any (Rows.dispatchBestSpec.pre6 enc Try.prog Try.f4 Rows.dispatchBestRow.domain false) (Rows.dispatchBestSpec.post enc Try.prog Try.f4 false true false false) := by
  refine returnsInHanded_of_change (C := Try.checked) Try.own started (by kernel_rfl) Try.func4
    (ChangeSpec.witness6 (enc := enc) (C := Try.checked) false ⟨#[], #[.slice none 0 0, .slice none 0 0, .slice none 0 0, .int .i64 0, .int .i64 0], []⟩ 8 (by kernel_rfl) (by kernel_rfl) (by kernel_rfl) (by kernel_rfl)) ?_
  intro W base args ds gs before hval hW _ _
  exact law_contract (d := 6) all_callee Try.laidOut (tys (by kernel_rfl)) rfl Try.underlying4 rfl
    (fun ds h => by
      match ds, h with
      | [d1, d2, d3, d4, d5], _ => exact ⟨rfl, rfl, rfl⟩) (best_law H · ds) hval hW

theorem best_holds : Rows.DispatchBestSaid :=
  OpenClaim.holds_of_wide 4 Try.f4 rfl rfl rfl rfl rfl rfl rfl ⟨rfl, rfl, rfl, rfl, rfl⟩ rfl rfl rfl rfl rfl (by kernel_rfl) Try.func4 (by kernel_rfl)
    (of_decide_eq_true (by kernel_rfl)) (by unfold Func.isWrapper; first | (rw [if_pos (by decide +kernel)]; kernel_rfl) | (rw [if_neg (by decide +kernel)]; exact ⟨rfl, rfl⟩))
    (fun os started H enc _ => best_lifted os started H enc)
end Go.Proofs.Ytnnfebjdjjbdaaa
#print axioms Go.Proofs.Ytnnfebjdjjbdaaa.best_holds
