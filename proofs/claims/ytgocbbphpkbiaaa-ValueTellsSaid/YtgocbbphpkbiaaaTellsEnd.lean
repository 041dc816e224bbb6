/-
  ValueTells returns true, for every input. Its condition: none.
-/
import Derived.Test.YtgocbbphpkbiaaaVal8
import Derived.Test.YtgocbbphpkbiaaaVmN
import Derived.Test.YtgocbbphpkbiaaaRows
namespace Go.Proofs.Ytgocbbphpkbiaaa
open Go.Vm
open Go.ChangeShapes Go.WideShapes Go.ChangeAt Go.RowKit

theorem Try.own : ownKnob Try.prog.godebug = none := by kernel_rfl
theorem Try.laidOut : laidOutB Try.prog = true := by kernel_rfl
theorem all_callee : CalleeOK Try.prog (Lim F) := lim_ok (callee_ok Try.checked.mixed all_ok)

theorem rec_row {H : Type} {d : Nat} {vs : List V} {x : DataW H} (h : TyV Try.prog d 34 vs x) : ∃ a : Rec, vs = a.row ∧ True := by
  have hl := tyv_len (n := 7) (by kernel_rfl) h
  obtain ⟨a0, h0, _⟩ := tyv_fint (i := 0) (off := 0) (ty := 3) (k := .i64) (by kernel_rfl) (by kernel_rfl) h
  obtain ⟨a1, h1, _⟩ := tyv_fint (i := 1) (off := 1) (ty := 3) (k := .i64) (by kernel_rfl) (by kernel_rfl) h
  obtain ⟨a2, h2, _⟩ := tyv_fint (i := 2) (off := 2) (ty := 3) (k := .i64) (by kernel_rfl) (by kernel_rfl) h
  obtain ⟨a3, h3, _⟩ := tyv_fint (i := 3) (off := 3) (ty := 3) (k := .i64) (by kernel_rfl) (by kernel_rfl) h
  obtain ⟨a4, h4, _⟩ := tyv_fint (i := 4) (off := 4) (ty := 3) (k := .i64) (by kernel_rfl) (by kernel_rfl) h
  obtain ⟨a5, h5, _⟩ := tyv_fint (i := 5) (off := 5) (ty := 3) (k := .i64) (by kernel_rfl) (by kernel_rfl) h
  obtain ⟨a6, h6, _⟩ := tyv_fint (i := 6) (off := 6) (ty := 3) (k := .i64) (by kernel_rfl) (by kernel_rfl) h
  match vs, hl with
  | [b0, b1, b2, b3, b4, b5, b6], _ =>
    simp at h0 h1 h2 h3 h4 h5 h6
    subst h0; subst h1; subst h2; subst h3; subst h4; subst h5; subst h6
    exact ⟨⟨a0, a1, a2, a3, a4, a5, a6⟩, rfl, trivial⟩

theorem tells_law (H : Type) (us : List V) (ds : List (DataW H)) (h : ArgsV Try.prog 6 Try.f3.params.toList us ds) : ∃ G', Lim F 3 us [] = some (.bool true, G') := by
  have h : ArgsV Try.prog 6 [22, 24, 3, 25] us ds := h
  obtain ⟨va, _, us, ds, rfl, rfl, ha, h⟩ := argsV_cons h
  obtain ⟨vb, _, us, ds, rfl, rfl, hb, h⟩ := argsV_cons h
  obtain ⟨vc, _, us, ds, rfl, rfl, hc, h⟩ := argsV_cons h
  obtain ⟨vd, _, us, ds, rfl, rfl, hd, h⟩ := argsV_cons h
  obtain rfl := argsV_nil h
  obtain ⟨t, rfl, _⟩ := tyv_ints (e := 3) (by kernel_rfl) (by kernel_rfl) (by kernel_rfl) ha
  have hl := tyv_len (n := 2) (by kernel_rfl) hb
  obtain ⟨_, _, hb0⟩ := tyv_field (i := 0) (off := 0) (n := 1) (ty := 22) (by kernel_rfl) hb
  obtain ⟨_, _, hb1⟩ := tyv_field (i := 1) (off := 1) (n := 1) (ty := 22) (by kernel_rfl) hb
  obtain ⟨rs, h0, _⟩ := tyv_ints (e := 3) (by kernel_rfl) (by kernel_rfl) (by kernel_rfl) hb0
  obtain ⟨rp, h1, _⟩ := tyv_ints (e := 3) (by kernel_rfl) (by kernel_rfl) (by kernel_rfl) hb1
  obtain ⟨time, rfl, _⟩ := tyv_int (k := .i64) (by kernel_rfl) hc
  obtain ⟨rr, hrr, _⟩ := tyv_slice (e := 34) Rec.row (fun _ => True) (by kernel_rfl) (fun d vs x h => rec_row h) hd
  have hcell : Try.prog.cellsOf 34 = 7 := by kernel_rfl
  rw [hcell] at hrr
  subst hrr
  rw [argOf_struct (t := 24) (n := 2) (by kernel_rfl)]
  match vb, hl with
  | [b0, b1], _ =>
    simp at h0 h1
    subst h0; subst h1
    exact tells_walk t rs rp time rr

set_option maxRecDepth 100000 in
theorem tells_lifted (os : Os) (started : os.Started) (H : Type) (enc : TypeId × Value → H) :
    ReturnsInHanded {} Try.checked os 3 .any (Rows.valueTellsSpec.pre6 enc Try.prog Try.f3 Rows.valueTellsRow.domain false) (Rows.valueTellsSpec.post enc Try.prog Try.f3 false true false false) := by
  refine returnsInHanded_of_change (C := Try.checked) Try.own started (by kernel_rfl) Try.func3
    (ChangeSpec.witness6 (enc := enc) (C := Try.checked) false ⟨#[], #[.slice none 0 0, .agg #[.slice none 0 0, .slice none 0 0], .int .i64 0, .slice none 0 0], []⟩ 8 (by kernel_rfl) (by kernel_rfl) (by kernel_rfl) (by kernel_rfl)) ?_
  intro W base args ds gs before hval hW _ _
  exact law_contract (d := 6) all_callee Try.laidOut (tys (by kernel_rfl)) rfl Try.underlying4 rfl
    (fun ds h => by
      match ds, h with
      | [d1, d2, d3, d4], _ => exact ⟨rfl, rfl, rfl⟩) (tells_law H · ds) hval hW

theorem tells_holds : Rows.ValueTellsSaid :=
  OpenClaim.holds_of_wide 3 Try.f3 rfl rfl rfl rfl rfl rfl rfl ⟨rfl, rfl, rfl, rfl, rfl⟩ rfl rfl rfl rfl rfl (by kernel_rfl) Try.func3 (by kernel_rfl)
    (of_decide_eq_true (by kernel_rfl)) (by unfold Func.isWrapper; first | (rw [if_pos (by decide +kernel)]; kernel_rfl) | (rw [if_neg (by decide +kernel)]; exact ⟨rfl, rfl⟩))
    (fun os started H enc _ => tells_lifted os started H enc)
end Go.Proofs.Ytgocbbphpkbiaaa
#print axioms Go.Proofs.Ytgocbbphpkbiaaa.tells_holds
