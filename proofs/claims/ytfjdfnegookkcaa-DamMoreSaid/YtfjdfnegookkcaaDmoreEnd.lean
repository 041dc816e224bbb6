/-
  DamMore returns true, for every input. Its condition: none.
-/
import Derived.Test.YtfjdfnegookkcaaDe
import Derived.Test.YtfjdfnegookkcaaDf
namespace Go.Proofs.Ytfjdfnegookkcaa
set_option linter.all false
open Go.Vm
open Go.ChangeShapes Go.WideShapes Go.ChangeAt Go.RowKit

set_option maxRecDepth 100000 in
theorem dmore_law (H : Type) (us : List V) (ds : List (DataW H)) (h : ArgsV Try.prog 6 Try.f3.params.toList us ds) : ∃ G', Lim F 3 us [] = some (.bool true, G') := by
  have h : ArgsV Try.prog 6 [22, 3] us ds := h
  obtain ⟨va, _, us, ds, rfl, rfl, ha, h⟩ := argsV_cons h
  obtain ⟨v0, _, us, ds, rfl, rfl, h0, h⟩ := argsV_cons h
  obtain rfl := argsV_nil h
  obtain ⟨t, rfl, _, hl⟩ := tyv_ints (e := 3) (by kernel_rfl) (by kernel_rfl) (by kernel_rfl) ha
  obtain ⟨n0, rfl, _⟩ := tyv_int (k := .i64) (by kernel_rfl) h0
  exact dmore_walk hl n0

set_option maxRecDepth 100000 in
theorem dmore_lifted (os : Os) (started : os.Started) (H : Type) (enc : TypeId × Value → H) :
    ReturnsInHanded {} Try.checked os 3 .any (Rows.damMoreSpec.pre6 enc Try.prog Try.f3 Rows.damMoreRow.domain false) (Rows.damMoreSpec.post enc Try.prog Try.f3 false true false false) := by
  refine returnsInHanded_of_change (C := Try.checked) Try.own started (by kernel_rfl) Try.func3
    (ChangeSpec.witness6 (enc := enc) (C := Try.checked) false ⟨#[], #[.slice none 0 0, .int .i64 0], []⟩ 8 (by kernel_rfl) (by kernel_rfl) (by kernel_rfl) (by kernel_rfl)) ?_
  intro W base args ds gs before hval hW _ _
  exact law_contract (d := 6) all_callee Try.laidOut (tys (by kernel_rfl)) rfl Try.underlying4 rfl
    (fun ds h => by
      match ds, h with
      | [d1, d2], _ => exact ⟨rfl, rfl, rfl⟩) (dmore_law H · ds) hval hW

theorem dmore_holds : Rows.DamMoreSaid :=
  OpenClaim.holds_of_wide 3 Try.f3 rfl rfl rfl rfl rfl rfl rfl ⟨rfl, rfl, rfl, rfl, rfl⟩ rfl rfl rfl rfl rfl (by kernel_rfl) Try.func3 (by kernel_rfl)
    (of_decide_eq_true (by kernel_rfl)) (by unfold Func.isWrapper; first | (rw [if_pos (by decide +kernel)]; kernel_rfl) | (rw [if_neg (by decide +kernel)]; exact ⟨rfl, rfl⟩))
    (fun os started H enc _ => dmore_lifted os started H enc)
end Go.Proofs.Ytfjdfnegookkcaa
#print axioms Go.Proofs.Ytfjdfnegookkcaa.dmore_holds
