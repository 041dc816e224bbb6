/-
  DamObeys returns true, for every input. Its condition: none.
-/
import Derived.Test.YtfjdfnegookkcaaDg
import Derived.Test.YtfjdfnegookkcaaDf
namespace Go.Proofs.Ytfjdfnegookkcaa
set_option linter.all false
open Go.Vm
open Go.ChangeShapes Go.WideShapes Go.ChangeAt Go.RowKit

set_option maxRecDepth 100000 in
theorem dobeys_law (H : Type) (us : List V) (ds : List (DataW H)) (h : ArgsV Try.prog 6 Try.f4.params.toList us ds) : ∃ G', Lim F 4 us [] = some (.bool true, G') := by
  have h : ArgsV Try.prog 6 [22, 3] us ds := h
  obtain ⟨va, _, us, ds, rfl, rfl, ha, h⟩ := argsV_cons h
  obtain ⟨v0, _, us, ds, rfl, rfl, h0, h⟩ := argsV_cons h
  obtain rfl := argsV_nil h
  obtain ⟨t, rfl, _, hl⟩ := tyv_ints (e := 3) (by kernel_rfl) (by kernel_rfl) (by kernel_rfl) ha
  obtain ⟨n0, rfl, _⟩ := tyv_int (k := .i64) (by kernel_rfl) h0
  exact dobeys_walk hl n0

set_option maxRecDepth 100000 in
theorem dobeys_lifted (os : Os) (started : os.Started) (H : Type) (enc : TypeId × Value → H) :
    ReturnsInHanded {} Try.checked os 4 .any (Rows.damObeysSpec.pre6 enc Try.prog Try.f4 Rows.damObeysRow.domain false) (Rows.damObeysSpec.post enc Try.prog Try.f4 false true false false) := by
  refine returnsInHanded_of_change (C := Try.checked) Try.own started (by kernel_rfl) Try.func4
    (ChangeSpec.witness6 (enc := enc) (C := Try.checked) false ⟨#[], #[.slice none 0 0, .int .i64 0], []⟩ 8 (by kernel_rfl) (by kernel_rfl) (by kernel_rfl) (by kernel_rfl)) ?_
  intro W base args ds gs before hval hW _ _
  exact law_contract (d := 6) all_callee Try.laidOut (tys (by kernel_rfl)) rfl Try.underlying4 rfl
    (fun ds h => by
      match ds, h with
      | [d1, d2], _ => exact ⟨rfl, rfl, rfl⟩) (dobeys_law H · ds) hval hW

theorem dobeys_holds : Rows.DamObeysSaid :=
  OpenClaim.holds_of_wide 4 Try.f4 rfl rfl rfl rfl rfl rfl rfl ⟨rfl, rfl, rfl, rfl, rfl⟩ rfl rfl rfl rfl rfl (by kernel_rfl) Try.func4 (by kernel_rfl)
    (of_decide_eq_true (by kernel_rfl)) (by unfold Func.isWrapper; first | (rw [if_pos (by decide +kernel)]; kernel_rfl) | (rw [if_neg (by decide +kernel)]; exact ⟨rfl, rfl⟩))
    (fun os started H enc _ => dobeys_lifted os started H enc)
end Go.Proofs.Ytfjdfnegookkcaa
#print axioms Go.Proofs.Ytfjdfnegookkcaa.dobeys_holds
