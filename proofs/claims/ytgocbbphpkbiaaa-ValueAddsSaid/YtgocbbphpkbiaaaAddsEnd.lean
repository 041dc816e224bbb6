/-
  ValueAdds returns true, for every input. Its condition: none.
-/
import Derived.Test.YtgocbbphpkbiaaaVal6
import Derived.Test.YtgocbbphpkbiaaaVmN
import Derived.Test.YtgocbbphpkbiaaaRows
namespace Go.Proofs.Ytgocbbphpkbiaaa
open Go.Vm
open Go.ChangeShapes Go.WideShapes Go.ChangeAt Go.RowKit

theorem Try.own : ownKnob Try.prog.godebug = none := by kernel_rfl
theorem Try.laidOut : laidOutB Try.prog = true := by kernel_rfl
theorem all_callee : CalleeOK Try.prog (Lim F) := lim_ok (callee_ok Try.checked.mixed all_ok)
theorem adds_law (H : Type) (us : List V) (ds : List (DataW H)) (h : ArgsV Try.prog 6 Try.f4.params.toList us ds) : ∃ G', Lim F 4 us [] = some (.bool true, G') := by
  have h : ArgsV Try.prog 6 [22, 48, 5] us ds := h
  obtain ⟨va, _, us, ds, rfl, rfl, ha, h⟩ := argsV_cons h
  obtain ⟨vb, _, us, ds, rfl, rfl, hb, h⟩ := argsV_cons h
  obtain ⟨vc, _, us, ds, rfl, rfl, hc, h⟩ := argsV_cons h
  obtain rfl := argsV_nil h
  obtain ⟨t, rfl, _⟩ := tyv_ints (e := 3) (by kernel_rfl) (by kernel_rfl) (by kernel_rfl) ha
  obtain ⟨m, rfl, hm⟩ := tyv_int (k := .u16) (by kernel_rfl) hb
  obtain ⟨n, rfl, hn⟩ := tyv_int (k := .u8) (by kernel_rfl) hc
  exact adds_walk t m n (okI_u16 hm) (okI_u8 hn)

set_option maxRecDepth 100000 in
theorem adds_lifted (os : Os) (started : os.Started) (H : Type) (enc : TypeId × Value → H) :
    ReturnsInHanded {} Try.checked os 4 .any (Rows.valueAddsSpec.pre6 enc Try.prog Try.f4 Rows.valueAddsRow.domain false) (Rows.valueAddsSpec.post enc Try.prog Try.f4 false true false false) := by
  refine returnsInHanded_of_change (C := Try.checked) Try.own started (by kernel_rfl) Try.func4
    (ChangeSpec.witness6 (enc := enc) (C := Try.checked) false ⟨#[], #[.slice none 0 0, .int .u16 0, .int .u8 0], []⟩ 8 (by kernel_rfl) (by kernel_rfl) (by kernel_rfl) (by kernel_rfl)) ?_
  intro W base args ds gs before hval hW _ _
  exact law_contract (d := 6) all_callee Try.laidOut (tys (by kernel_rfl)) rfl Try.underlying4 rfl
    (fun ds h => by
      match ds, h with
      | [d1, d2, d3], _ => exact ⟨rfl, rfl, rfl⟩) (adds_law H · ds) hval hW

theorem adds_holds : Rows.ValueAddsSaid :=
  OpenClaim.holds_of_wide 4 Try.f4 rfl rfl rfl rfl rfl rfl rfl ⟨rfl, rfl, rfl, rfl, rfl⟩ rfl rfl rfl rfl rfl (by kernel_rfl) Try.func4 (by kernel_rfl)
    (of_decide_eq_true (by kernel_rfl)) (by unfold Func.isWrapper; first | (rw [if_pos (by decide +kernel)]; kernel_rfl) | (rw [if_neg (by decide +kernel)]; exact ⟨rfl, rfl⟩))
    (fun os started H enc _ => adds_lifted os started H enc)
end Go.Proofs.Ytgocbbphpkbiaaa
#print axioms Go.Proofs.Ytgocbbphpkbiaaa.adds_holds
