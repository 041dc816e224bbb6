/-
  DamSums returns true, for every input. Its condition: none.
-/
import Derived.Test.YtfjdfnegookkcaaGreatDg
import Derived.Test.YtfjdfnegookkcaaGreatDf
namespace Go.Proofs.YtfjdfnegookkcaaGreat
set_option linter.all false
open Go.Vm
open Go.ChangeShapes Go.WideShapes Go.ChangeAt Go.RowKit

set_option maxRecDepth 100000 in
theorem dsum_law (H : Type) (us : List V) (ds : List (DataW H)) (h : ArgsV Tryz.prog 6 Tryz.f5.params.toList us ds) : ∃ G', Lim F 5 us [] = some (.bool true, G') := by
  have h : ArgsV Tryz.prog 6 [22, 3] us ds := h
  obtain ⟨va, _, us, ds, rfl, rfl, ha, h⟩ := argsV_cons h
  obtain ⟨v0, _, us, ds, rfl, rfl, h0, h⟩ := argsV_cons h
  obtain rfl := argsV_nil h
  obtain ⟨t, rfl, _, hl⟩ := tyv_ints (e := 3) (by kernel_rfl) (by kernel_rfl) (by kernel_rfl) ha
  obtain ⟨n0, rfl, _⟩ := tyv_int (k := .i64) (by kernel_rfl) h0
  exact dsum_walk hl n0

set_option maxRecDepth 100000 in
theorem dsum_lifted (os : Os) (started : os.Started) (H : Type) (enc : TypeId × Value → H) :
    ReturnsInHanded {} Tryz.checked os 5 .any (Rows.damSumsSpec.pre6 enc Tryz.prog Tryz.f5 Rows.damSumsRow.domain false) (Rows.damSumsSpec.post enc Tryz.prog Tryz.f5 false true false false) := by
  refine returnsInHanded_of_change (C := Tryz.checked) Tryz.own started (by kernel_rfl) Tryz.func5
    (ChangeSpec.witness6 (enc := enc) (C := Tryz.checked) false ⟨#[], #[.slice none 0 0, .int .i64 0], []⟩ 8 (by kernel_rfl) (by kernel_rfl) (by kernel_rfl) (by kernel_rfl)) ?_
  intro W base args ds gs before hval hW _ _
  exact law_contract (d := 6) all_callee Tryz.laidOut (tys (by kernel_rfl)) rfl Tryz.underlying4 rfl
    (fun ds h => by
      match ds, h with
      | [d1, d2], _ => exact ⟨rfl, rfl, rfl⟩) (dsum_law H · ds) hval hW

theorem dsum_holds : Rows.DamSumsSaid :=
  OpenClaim.holds_of_wide 5 Tryz.f5 rfl rfl rfl rfl rfl rfl rfl ⟨rfl, rfl, rfl, rfl, rfl⟩ rfl rfl rfl rfl rfl (by kernel_rfl) Tryz.func5 (by kernel_rfl)
    (of_decide_eq_true (by kernel_rfl)) (by unfold Func.isWrapper; first | (rw [if_pos (by decide +kernel)]; kernel_rfl) | (rw [if_neg (by decide +kernel)]; exact ⟨rfl, rfl⟩))
    (fun os started H enc _ => dsum_lifted os started H enc)
end Go.Proofs.YtfjdfnegookkcaaGreat
#print axioms Go.Proofs.YtfjdfnegookkcaaGreat.dsum_holds
