/-
  No cell of these rows narrows 'for every input' (looked for: loops, veiled, ifaces, maps, wideKeys, modest, calm, conditions, laid).
  DERIVED. THE GIVEN ROWS OF THIS SEAT. 9 by the template 'for every input the law returns true; each argument reads behind the call as it read before'; 0 by the template 'total and deterministic' (their statements: YtmpikpodpgnjhaaGreatTotals.lean).
  GIVEN WITH THE SEED: the statements are not yours to turn. If you find one false, say at which input.
  Laid BY PROGRAM, IN A SANDBOX (cutbox-rows.mjs): the forced cells as the released guide's own fill.sh prints them over the translation c03650176b1d8485… (all of the seat's roots in one cut). By AI agents, Wed Nov 11 2026. No macro, syntax, notation, axiom, sorry.
-/
import Derived.Test.YtmpikpodpgnjhaaGreatChecked
import GoSem.Claim
import GoSem.ClaimJoined
import GoSem.ClaimMapViews
import Derived.JoinedTies
import Derived.KernelRfl
namespace Go.Proofs.YtmpikpodpgnjhaaGreat
/- THE CELL 'sum', in the pinned program and in every row, IS THE sha256 OF THE DUMP (.gsa) THAT YtmpikpodpgnjhaaGreatProg.lean LOADS. Nothing in Lean hashes anything: it is a label: what it is worth is what the hold of that sum in a sandbox is worth. -/
noncomputable def Tryz.pinned : Pinned := { name := "ytmpikpodpgnjhaagreat", sum := "c03650176b1d848523eac3c412214356c32c8613db6325eb1d98fe8c671e3cba", checked := Tryz.checked }
namespace Rows
def none {H : Type} : Left H := { results := [], args := [] }

/-- 'hydrocascadelaw23.CascadeApart': WHATEVER THE INPUT: true; the input reads as it did. -/
def cascadeApartSpec : ChangeSpec := { name := "cascadeApart", fn := fun _ => fun
  | [d1, d2, d3] => { results := [.lit (.bool true)], args := [d1, d2, d3] }
  | _ => none }
def cascadeApartRow : OpenClaim := { program := "ytmpikpodpgnjhaagreat", sum := "c03650176b1d848523eac3c412214356c32c8613db6325eb1d98fe8c671e3cba", func := "hydrocascade/hydrocascadelaw23.CascadeApart", spec := "cascadeApart", unfollowed := true, recurses := true, plainKeys := false, apart := false }
def CascadeApartSaid : Prop := cascadeApartRow.holds Tryz.pinned (OpenSpec.ofChange cascadeApartSpec)

/-- ITS FALSE NEIGHBOUR: 'it returns false'. Refute it at one input. -/
def cascadeApartWrong : ChangeSpec := { name := "cascadeApart", fn := fun _ => fun
  | [d1, d2, d3] => { results := [.lit (.bool false)], args := [d1, d2, d3] }
  | _ => none }
def CascadeApartWrongFalsely : Prop := cascadeApartRow.holds Tryz.pinned (OpenSpec.ofChange cascadeApartWrong)

/-- 'hydrocascadelaw23.CascadeDams': WHATEVER THE INPUT: true; the input reads as it did. -/
def cascadeDamsSpec : ChangeSpec := { name := "cascadeDams", fn := fun _ => fun
  | [d] => { results := [.lit (.bool true)], args := [d] }
  | _ => none }
def cascadeDamsRow : OpenClaim := { program := "ytmpikpodpgnjhaagreat", sum := "c03650176b1d848523eac3c412214356c32c8613db6325eb1d98fe8c671e3cba", func := "hydrocascade/hydrocascadelaw23.CascadeDams", spec := "cascadeDams", unfollowed := true, recurses := true, plainKeys := false, apart := false }
def CascadeDamsSaid : Prop := cascadeDamsRow.holds Tryz.pinned (OpenSpec.ofChange cascadeDamsSpec)

/-- ITS FALSE NEIGHBOUR: 'it returns false'. Refute it at one input. -/
def cascadeDamsWrong : ChangeSpec := { name := "cascadeDams", fn := fun _ => fun
  | [d] => { results := [.lit (.bool false)], args := [d] }
  | _ => none }
def CascadeDamsWrongFalsely : Prop := cascadeDamsRow.holds Tryz.pinned (OpenSpec.ofChange cascadeDamsWrong)

/-- 'hydrocascadelaw23.CascadeChecks': WHATEVER THE INPUT: true; the input reads as it did. -/
def cascadeChecksSpec : ChangeSpec := { name := "cascadeChecks", fn := fun _ => fun
  | [d1, d2, d3, d4, d5] => { results := [.lit (.bool true)], args := [d1, d2, d3, d4, d5] }
  | _ => none }
def cascadeChecksRow : OpenClaim := { program := "ytmpikpodpgnjhaagreat", sum := "c03650176b1d848523eac3c412214356c32c8613db6325eb1d98fe8c671e3cba", func := "hydrocascade/hydrocascadelaw23.CascadeChecks", spec := "cascadeChecks", unfollowed := true, recurses := true, plainKeys := false, apart := false }
def CascadeChecksSaid : Prop := cascadeChecksRow.holds Tryz.pinned (OpenSpec.ofChange cascadeChecksSpec)

/-- ITS FALSE NEIGHBOUR: 'it returns false'. Refute it at one input. -/
def cascadeChecksWrong : ChangeSpec := { name := "cascadeChecks", fn := fun _ => fun
  | [d1, d2, d3, d4, d5] => { results := [.lit (.bool false)], args := [d1, d2, d3, d4, d5] }
  | _ => none }
def CascadeChecksWrongFalsely : Prop := cascadeChecksRow.holds Tryz.pinned (OpenSpec.ofChange cascadeChecksWrong)

/-- 'hydrocascadelaw23.CascadeStores': WHATEVER THE INPUT: true; the input reads as it did. -/
def cascadeStoresSpec : ChangeSpec := { name := "cascadeStores", fn := fun _ => fun
  | [d] => { results := [.lit (.bool true)], args := [d] }
  | _ => none }
def cascadeStoresRow : OpenClaim := { program := "ytmpikpodpgnjhaagreat", sum := "c03650176b1d848523eac3c412214356c32c8613db6325eb1d98fe8c671e3cba", func := "hydrocascade/hydrocascadelaw23.CascadeStores", spec := "cascadeStores", unfollowed := true, recurses := true, plainKeys := false, apart := false }
def CascadeStoresSaid : Prop := cascadeStoresRow.holds Tryz.pinned (OpenSpec.ofChange cascadeStoresSpec)

/-- ITS FALSE NEIGHBOUR: 'it returns false'. Refute it at one input. -/
def cascadeStoresWrong : ChangeSpec := { name := "cascadeStores", fn := fun _ => fun
  | [d] => { results := [.lit (.bool false)], args := [d] }
  | _ => none }
def CascadeStoresWrongFalsely : Prop := cascadeStoresRow.holds Tryz.pinned (OpenSpec.ofChange cascadeStoresWrong)

/-- 'hydrocascadelaw23.CascadeParts': WHATEVER THE INPUT: true; the input reads as it did. -/
def cascadePartsSpec : ChangeSpec := { name := "cascadeParts", fn := fun _ => fun
  | [d1, d2] => { results := [.lit (.bool true)], args := [d1, d2] }
  | _ => none }
def cascadePartsRow : OpenClaim := { program := "ytmpikpodpgnjhaagreat", sum := "c03650176b1d848523eac3c412214356c32c8613db6325eb1d98fe8c671e3cba", func := "hydrocascade/hydrocascadelaw23.CascadeParts", spec := "cascadeParts", unfollowed := true, recurses := true, plainKeys := false, apart := false }
def CascadePartsSaid : Prop := cascadePartsRow.holds Tryz.pinned (OpenSpec.ofChange cascadePartsSpec)

/-- ITS FALSE NEIGHBOUR: 'it returns false'. Refute it at one input. -/
def cascadePartsWrong : ChangeSpec := { name := "cascadeParts", fn := fun _ => fun
  | [d1, d2] => { results := [.lit (.bool false)], args := [d1, d2] }
  | _ => none }
def CascadePartsWrongFalsely : Prop := cascadePartsRow.holds Tryz.pinned (OpenSpec.ofChange cascadePartsWrong)

/-- 'hydrocascadelaw23.CascadeBalance': WHATEVER THE INPUT: true; the input reads as it did. -/
def cascadeBalanceSpec : ChangeSpec := { name := "cascadeBalance", fn := fun _ => fun
  | [d1, d2, d3, d4] => { results := [.lit (.bool true)], args := [d1, d2, d3, d4] }
  | _ => none }
def cascadeBalanceRow : OpenClaim := { program := "ytmpikpodpgnjhaagreat", sum := "c03650176b1d848523eac3c412214356c32c8613db6325eb1d98fe8c671e3cba", func := "hydrocascade/hydrocascadelaw23.CascadeBalance", spec := "cascadeBalance", unfollowed := true, recurses := true, plainKeys := false, apart := false }
def CascadeBalanceSaid : Prop := cascadeBalanceRow.holds Tryz.pinned (OpenSpec.ofChange cascadeBalanceSpec)

/-- ITS FALSE NEIGHBOUR: 'it returns false'. Refute it at one input. -/
def cascadeBalanceWrong : ChangeSpec := { name := "cascadeBalance", fn := fun _ => fun
  | [d1, d2, d3, d4] => { results := [.lit (.bool false)], args := [d1, d2, d3, d4] }
  | _ => none }
def CascadeBalanceWrongFalsely : Prop := cascadeBalanceRow.holds Tryz.pinned (OpenSpec.ofChange cascadeBalanceWrong)

/-- 'hydrocascadelaw23.CascadeSteps': WHATEVER THE INPUT: true; the input reads as it did. -/
def cascadeStepsSpec : ChangeSpec := { name := "cascadeSteps", fn := fun _ => fun
  | [d1, d2] => { results := [.lit (.bool true)], args := [d1, d2] }
  | _ => none }
def cascadeStepsRow : OpenClaim := { program := "ytmpikpodpgnjhaagreat", sum := "c03650176b1d848523eac3c412214356c32c8613db6325eb1d98fe8c671e3cba", func := "hydrocascade/hydrocascadelaw23.CascadeSteps", spec := "cascadeSteps", unfollowed := true, recurses := true, plainKeys := false, apart := false }
def CascadeStepsSaid : Prop := cascadeStepsRow.holds Tryz.pinned (OpenSpec.ofChange cascadeStepsSpec)

/-- ITS FALSE NEIGHBOUR: 'it returns false'. Refute it at one input. -/
def cascadeStepsWrong : ChangeSpec := { name := "cascadeSteps", fn := fun _ => fun
  | [d1, d2] => { results := [.lit (.bool false)], args := [d1, d2] }
  | _ => none }
def CascadeStepsWrongFalsely : Prop := cascadeStepsRow.holds Tryz.pinned (OpenSpec.ofChange cascadeStepsWrong)

/-- 'hydrocascadelaw41.ValueBetter': WHATEVER THE INPUT: true; the input reads as it did. -/
def valueBetterSpec : ChangeSpec := { name := "valueBetter", fn := fun _ => fun
  | [d1, d2] => { results := [.lit (.bool true)], args := [d1, d2] }
  | _ => none }
def valueBetterRow : OpenClaim := { program := "ytmpikpodpgnjhaagreat", sum := "c03650176b1d848523eac3c412214356c32c8613db6325eb1d98fe8c671e3cba", func := "hydrocascade/hydrocascadelaw41.ValueBetter", spec := "valueBetter", unfollowed := true, recurses := true, plainKeys := false, apart := false }
def ValueBetterSaid : Prop := valueBetterRow.holds Tryz.pinned (OpenSpec.ofChange valueBetterSpec)

/-- ITS FALSE NEIGHBOUR: 'it returns false'. Refute it at one input. -/
def valueBetterWrong : ChangeSpec := { name := "valueBetter", fn := fun _ => fun
  | [d1, d2] => { results := [.lit (.bool false)], args := [d1, d2] }
  | _ => none }
def ValueBetterWrongFalsely : Prop := valueBetterRow.holds Tryz.pinned (OpenSpec.ofChange valueBetterWrong)

/-- 'hydrocascadelaw41.ValuePlans': WHATEVER THE INPUT: true; the input reads as it did. -/
def valuePlansSpec : ChangeSpec := { name := "valuePlans", fn := fun _ => fun
  | [d] => { results := [.lit (.bool true)], args := [d] }
  | _ => none }
def valuePlansRow : OpenClaim := { program := "ytmpikpodpgnjhaagreat", sum := "c03650176b1d848523eac3c412214356c32c8613db6325eb1d98fe8c671e3cba", func := "hydrocascade/hydrocascadelaw41.ValuePlans", spec := "valuePlans", unfollowed := true, recurses := true, plainKeys := false, apart := false }
def ValuePlansSaid : Prop := valuePlansRow.holds Tryz.pinned (OpenSpec.ofChange valuePlansSpec)

/-- ITS FALSE NEIGHBOUR: 'it returns false'. Refute it at one input. -/
def valuePlansWrong : ChangeSpec := { name := "valuePlans", fn := fun _ => fun
  | [d] => { results := [.lit (.bool false)], args := [d] }
  | _ => none }
def ValuePlansWrongFalsely : Prop := valuePlansRow.holds Tryz.pinned (OpenSpec.ofChange valuePlansWrong)

/- THE SECOND FORM. 'bulk': how many values and letters a reading holds, each counted each time it is reached (what is shared counts as often as it is met; a slice's spare places count too). A statement '..UptoSaid' is the law's where the arguments, and the package variables that the reading takes, are together of bulk at most 1048576: NARROWER than '..Said'. Prove '..Said' where nothing that the law and all that it calls make is longer than what came in: it says more and counts as full. Else prove '..UptoSaid'. A law counts once. -/
mutual
def uptoBulk {H : Type} : DataW H → Nat
  | .lit (.string bytes) => bytes.length + 1
  | .lit _ => 1
  | .nil => 1
  | .ptr d => uptoBulk d + 1
  | .slice elems spare => uptoBulkAll elems + uptoBulkAll spare + 1
  | .agg parts => uptoBulkAll parts + 1
  | .iface _ d => uptoBulk d + 1
  | .map entries => uptoBulkEntries entries + 1
  | .held _ => 1
def uptoBulkAll {H : Type} : List (DataW H) → Nat
  | [] => 0
  | d :: r => uptoBulk d + uptoBulkAll r
def uptoBulkEntries {H : Type} : List (Lit × DataW H) → Nat
  | [] => 0
  | x :: r => uptoBulkEntry x + uptoBulkEntries r
def uptoBulkEntry {H : Type} : Lit × DataW H → Nat
  | (.string bytes, d) => bytes.length + uptoBulk d + 1
  | (_, d) => uptoBulk d + 1
 end
def uptoSmall : (H : Type) → List (DataW H) → Bool := fun _ ds => decide (uptoBulkAll ds ≤ 1048576)
def OpenSpec.upto (s : _root_.Go.ChangeSpec) : _root_.Go.OpenSpec := { _root_.Go.OpenSpec.ofChange s with cond := some uptoSmall }

/-- 'hydrocascadelaw23.CascadeApart', WHERE WHAT IT READS IS OF BULK AT MOST 1048576: true; the input reads as it did. -/
def cascadeApartUptoRow : OpenClaim := { program := "ytmpikpodpgnjhaagreat", sum := "c03650176b1d848523eac3c412214356c32c8613db6325eb1d98fe8c671e3cba", func := "hydrocascade/hydrocascadelaw23.CascadeApart", spec := "cascadeApart", unfollowed := true, recurses := true, plainKeys := false, apart := false, narrowed := true }
def CascadeApartUptoSaid : Prop := cascadeApartUptoRow.holds Tryz.pinned (OpenSpec.upto cascadeApartSpec)

/-- 'hydrocascadelaw23.CascadeDams', WHERE WHAT IT READS IS OF BULK AT MOST 1048576: true; the input reads as it did. -/
def cascadeDamsUptoRow : OpenClaim := { program := "ytmpikpodpgnjhaagreat", sum := "c03650176b1d848523eac3c412214356c32c8613db6325eb1d98fe8c671e3cba", func := "hydrocascade/hydrocascadelaw23.CascadeDams", spec := "cascadeDams", unfollowed := true, recurses := true, plainKeys := false, apart := false, narrowed := true }
def CascadeDamsUptoSaid : Prop := cascadeDamsUptoRow.holds Tryz.pinned (OpenSpec.upto cascadeDamsSpec)

/-- 'hydrocascadelaw23.CascadeChecks', WHERE WHAT IT READS IS OF BULK AT MOST 1048576: true; the input reads as it did. -/
def cascadeChecksUptoRow : OpenClaim := { program := "ytmpikpodpgnjhaagreat", sum := "c03650176b1d848523eac3c412214356c32c8613db6325eb1d98fe8c671e3cba", func := "hydrocascade/hydrocascadelaw23.CascadeChecks", spec := "cascadeChecks", unfollowed := true, recurses := true, plainKeys := false, apart := false, narrowed := true }
def CascadeChecksUptoSaid : Prop := cascadeChecksUptoRow.holds Tryz.pinned (OpenSpec.upto cascadeChecksSpec)

/-- 'hydrocascadelaw23.CascadeStores', WHERE WHAT IT READS IS OF BULK AT MOST 1048576: true; the input reads as it did. -/
def cascadeStoresUptoRow : OpenClaim := { program := "ytmpikpodpgnjhaagreat", sum := "c03650176b1d848523eac3c412214356c32c8613db6325eb1d98fe8c671e3cba", func := "hydrocascade/hydrocascadelaw23.CascadeStores", spec := "cascadeStores", unfollowed := true, recurses := true, plainKeys := false, apart := false, narrowed := true }
def CascadeStoresUptoSaid : Prop := cascadeStoresUptoRow.holds Tryz.pinned (OpenSpec.upto cascadeStoresSpec)

/-- 'hydrocascadelaw23.CascadeParts', WHERE WHAT IT READS IS OF BULK AT MOST 1048576: true; the input reads as it did. -/
def cascadePartsUptoRow : OpenClaim := { program := "ytmpikpodpgnjhaagreat", sum := "c03650176b1d848523eac3c412214356c32c8613db6325eb1d98fe8c671e3cba", func := "hydrocascade/hydrocascadelaw23.CascadeParts", spec := "cascadeParts", unfollowed := true, recurses := true, plainKeys := false, apart := false, narrowed := true }
def CascadePartsUptoSaid : Prop := cascadePartsUptoRow.holds Tryz.pinned (OpenSpec.upto cascadePartsSpec)

/-- 'hydrocascadelaw23.CascadeBalance', WHERE WHAT IT READS IS OF BULK AT MOST 1048576: true; the input reads as it did. -/
def cascadeBalanceUptoRow : OpenClaim := { program := "ytmpikpodpgnjhaagreat", sum := "c03650176b1d848523eac3c412214356c32c8613db6325eb1d98fe8c671e3cba", func := "hydrocascade/hydrocascadelaw23.CascadeBalance", spec := "cascadeBalance", unfollowed := true, recurses := true, plainKeys := false, apart := false, narrowed := true }
def CascadeBalanceUptoSaid : Prop := cascadeBalanceUptoRow.holds Tryz.pinned (OpenSpec.upto cascadeBalanceSpec)

/-- 'hydrocascadelaw23.CascadeSteps', WHERE WHAT IT READS IS OF BULK AT MOST 1048576: true; the input reads as it did. -/
def cascadeStepsUptoRow : OpenClaim := { program := "ytmpikpodpgnjhaagreat", sum := "c03650176b1d848523eac3c412214356c32c8613db6325eb1d98fe8c671e3cba", func := "hydrocascade/hydrocascadelaw23.CascadeSteps", spec := "cascadeSteps", unfollowed := true, recurses := true, plainKeys := false, apart := false, narrowed := true }
def CascadeStepsUptoSaid : Prop := cascadeStepsUptoRow.holds Tryz.pinned (OpenSpec.upto cascadeStepsSpec)

/-- 'hydrocascadelaw41.ValueBetter', WHERE WHAT IT READS IS OF BULK AT MOST 1048576: true; the input reads as it did. -/
def valueBetterUptoRow : OpenClaim := { program := "ytmpikpodpgnjhaagreat", sum := "c03650176b1d848523eac3c412214356c32c8613db6325eb1d98fe8c671e3cba", func := "hydrocascade/hydrocascadelaw41.ValueBetter", spec := "valueBetter", unfollowed := true, recurses := true, plainKeys := false, apart := false, narrowed := true }
def ValueBetterUptoSaid : Prop := valueBetterUptoRow.holds Tryz.pinned (OpenSpec.upto valueBetterSpec)

/-- 'hydrocascadelaw41.ValuePlans', WHERE WHAT IT READS IS OF BULK AT MOST 1048576: true; the input reads as it did. -/
def valuePlansUptoRow : OpenClaim := { program := "ytmpikpodpgnjhaagreat", sum := "c03650176b1d848523eac3c412214356c32c8613db6325eb1d98fe8c671e3cba", func := "hydrocascade/hydrocascadelaw41.ValuePlans", spec := "valuePlans", unfollowed := true, recurses := true, plainKeys := false, apart := false, narrowed := true }
def ValuePlansUptoSaid : Prop := valuePlansUptoRow.holds Tryz.pinned (OpenSpec.upto valuePlansSpec)

end Rows
end Go.Proofs.YtmpikpodpgnjhaaGreat
