/-
  No cell of these rows narrows 'for every input' (looked for: loops, veiled, ifaces, maps, wideKeys, modest, calm, conditions, laid).
  DERIVED. THE GIVEN ROWS OF THIS SEAT. 8 by the template 'for every input the law returns true; each argument reads behind the call as it read before'; 0 by the template 'total and deterministic' (their statements: YtocclbnghhaejaaGreatTotals.lean).
  GIVEN WITH THE SEED: the statements are not yours to turn. If you find one false, say at which input.
  Laid BY PROGRAM, IN A SANDBOX (cutbox-rows.mjs): the forced cells as the released guide's own fill.sh prints them over the translation 45906a4be4986368… (all of the seat's roots in one cut). By AI agents, Wed Nov 11 2026. No macro, syntax, notation, axiom, sorry.
-/
import Derived.Test.YtocclbnghhaejaaGreatChecked
import GoSem.Claim
import GoSem.ClaimJoined
import GoSem.ClaimMapViews
import Derived.JoinedTies
import Derived.KernelRfl
namespace Go.Proofs.YtocclbnghhaejaaGreat
/- THE CELL 'sum', in the pinned program and in every row, IS THE sha256 OF THE DUMP (.gsa) THAT YtocclbnghhaejaaGreatProg.lean LOADS. Nothing in Lean hashes anything: it is a label: what it is worth is what the hold of that sum in a sandbox is worth. -/
noncomputable def Tryz.pinned : Pinned := { name := "ytocclbnghhaejaagreat", sum := "45906a4be4986368d1f971d1e4d1255f015b8b474ffeffe236c896c621ce7351", checked := Tryz.checked }
namespace Rows
def none {H : Type} : Left H := { results := [], args := [] }

/-- 'hydrocascadelaw23.CascadeChecks': WHATEVER THE INPUT: true; the input reads as it did. -/
def cascadeChecksSpec : ChangeSpec := { name := "cascadeChecks", fn := fun _ => fun
  | [d1, d2, d3, d4, d5] => { results := [.lit (.bool true)], args := [d1, d2, d3, d4, d5] }
  | _ => none }
def cascadeChecksRow : OpenClaim := { program := "ytocclbnghhaejaagreat", sum := "45906a4be4986368d1f971d1e4d1255f015b8b474ffeffe236c896c621ce7351", func := "hydrocascade/hydrocascadelaw23.CascadeChecks", spec := "cascadeChecks", unfollowed := true, recurses := true, plainKeys := false, apart := false }
def CascadeChecksSaid : Prop := cascadeChecksRow.holds Tryz.pinned (OpenSpec.ofChange cascadeChecksSpec)

/-- ITS FALSE NEIGHBOUR: 'it returns false'. Refute it at one input. -/
def cascadeChecksWrong : ChangeSpec := { name := "cascadeChecks", fn := fun _ => fun
  | [d1, d2, d3, d4, d5] => { results := [.lit (.bool false)], args := [d1, d2, d3, d4, d5] }
  | _ => none }
def CascadeChecksWrongFalsely : Prop := cascadeChecksRow.holds Tryz.pinned (OpenSpec.ofChange cascadeChecksWrong)

/-- 'hydrocascadelaw41.ValueBetter': WHATEVER THE INPUT: true; the input reads as it did. -/
def valueBetterSpec : ChangeSpec := { name := "valueBetter", fn := fun _ => fun
  | [d1, d2] => { results := [.lit (.bool true)], args := [d1, d2] }
  | _ => none }
def valueBetterRow : OpenClaim := { program := "ytocclbnghhaejaagreat", sum := "45906a4be4986368d1f971d1e4d1255f015b8b474ffeffe236c896c621ce7351", func := "hydrocascade/hydrocascadelaw41.ValueBetter", spec := "valueBetter", unfollowed := true, recurses := true, plainKeys := false, apart := false }
def ValueBetterSaid : Prop := valueBetterRow.holds Tryz.pinned (OpenSpec.ofChange valueBetterSpec)

/-- ITS FALSE NEIGHBOUR: 'it returns false'. Refute it at one input. -/
def valueBetterWrong : ChangeSpec := { name := "valueBetter", fn := fun _ => fun
  | [d1, d2] => { results := [.lit (.bool false)], args := [d1, d2] }
  | _ => none }
def ValueBetterWrongFalsely : Prop := valueBetterRow.holds Tryz.pinned (OpenSpec.ofChange valueBetterWrong)

/-- 'hydrocascadelaw41.ValuePlans': WHATEVER THE INPUT: true; the input reads as it did. -/
def valuePlansSpec : ChangeSpec := { name := "valuePlans", fn := fun _ => fun
  | [d] => { results := [.lit (.bool true)], args := [d] }
  | _ => none }
def valuePlansRow : OpenClaim := { program := "ytocclbnghhaejaagreat", sum := "45906a4be4986368d1f971d1e4d1255f015b8b474ffeffe236c896c621ce7351", func := "hydrocascade/hydrocascadelaw41.ValuePlans", spec := "valuePlans", unfollowed := true, recurses := true, plainKeys := false, apart := false }
def ValuePlansSaid : Prop := valuePlansRow.holds Tryz.pinned (OpenSpec.ofChange valuePlansSpec)

/-- ITS FALSE NEIGHBOUR: 'it returns false'. Refute it at one input. -/
def valuePlansWrong : ChangeSpec := { name := "valuePlans", fn := fun _ => fun
  | [d] => { results := [.lit (.bool false)], args := [d] }
  | _ => none }
def ValuePlansWrongFalsely : Prop := valuePlansRow.holds Tryz.pinned (OpenSpec.ofChange valuePlansWrong)

/-- 'hydrocascadelaw40.RobustTells': WHATEVER THE INPUT: true; the input reads as it did. -/
def robustTellsSpec : ChangeSpec := { name := "robustTells", fn := fun _ => fun
  | [d1, d2, d3] => { results := [.lit (.bool true)], args := [d1, d2, d3] }
  | _ => none }
def robustTellsRow : OpenClaim := { program := "ytocclbnghhaejaagreat", sum := "45906a4be4986368d1f971d1e4d1255f015b8b474ffeffe236c896c621ce7351", func := "hydrocascade/hydrocascadelaw40.RobustTells", spec := "robustTells", unfollowed := true, recurses := true, plainKeys := false, apart := false }
def RobustTellsSaid : Prop := robustTellsRow.holds Tryz.pinned (OpenSpec.ofChange robustTellsSpec)

/-- ITS FALSE NEIGHBOUR: 'it returns false'. Refute it at one input. -/
def robustTellsWrong : ChangeSpec := { name := "robustTells", fn := fun _ => fun
  | [d1, d2, d3] => { results := [.lit (.bool false)], args := [d1, d2, d3] }
  | _ => none }
def RobustTellsWrongFalsely : Prop := robustTellsRow.holds Tryz.pinned (OpenSpec.ofChange robustTellsWrong)

/-- 'hydrocascadelaw40.RobustWorlds': WHATEVER THE INPUT: true; the input reads as it did. -/
def robustWorldsSpec : ChangeSpec := { name := "robustWorlds", fn := fun _ => fun
  | [d] => { results := [.lit (.bool true)], args := [d] }
  | _ => none }
def robustWorldsRow : OpenClaim := { program := "ytocclbnghhaejaagreat", sum := "45906a4be4986368d1f971d1e4d1255f015b8b474ffeffe236c896c621ce7351", func := "hydrocascade/hydrocascadelaw40.RobustWorlds", spec := "robustWorlds", unfollowed := true, recurses := true, plainKeys := false, apart := false }
def RobustWorldsSaid : Prop := robustWorldsRow.holds Tryz.pinned (OpenSpec.ofChange robustWorldsSpec)

/-- ITS FALSE NEIGHBOUR: 'it returns false'. Refute it at one input. -/
def robustWorldsWrong : ChangeSpec := { name := "robustWorlds", fn := fun _ => fun
  | [d] => { results := [.lit (.bool false)], args := [d] }
  | _ => none }
def RobustWorldsWrongFalsely : Prop := robustWorldsRow.holds Tryz.pinned (OpenSpec.ofChange robustWorldsWrong)

/-- 'hydrocascadelaw40.RobustChooses': WHATEVER THE INPUT: true; the input reads as it did. -/
def robustChoosesSpec : ChangeSpec := { name := "robustChooses", fn := fun _ => fun
  | [d1, d2, d3] => { results := [.lit (.bool true)], args := [d1, d2, d3] }
  | _ => none }
def robustChoosesRow : OpenClaim := { program := "ytocclbnghhaejaagreat", sum := "45906a4be4986368d1f971d1e4d1255f015b8b474ffeffe236c896c621ce7351", func := "hydrocascade/hydrocascadelaw40.RobustChooses", spec := "robustChooses", unfollowed := true, recurses := true, plainKeys := false, apart := false }
def RobustChoosesSaid : Prop := robustChoosesRow.holds Tryz.pinned (OpenSpec.ofChange robustChoosesSpec)

/-- ITS FALSE NEIGHBOUR: 'it returns false'. Refute it at one input. -/
def robustChoosesWrong : ChangeSpec := { name := "robustChooses", fn := fun _ => fun
  | [d1, d2, d3] => { results := [.lit (.bool false)], args := [d1, d2, d3] }
  | _ => none }
def RobustChoosesWrongFalsely : Prop := robustChoosesRow.holds Tryz.pinned (OpenSpec.ofChange robustChoosesWrong)

/-- 'hydrocascadelaw40.RobustOf': WHATEVER THE INPUT: true; the input reads as it did. -/
def robustOfSpec : ChangeSpec := { name := "robustOf", fn := fun _ => fun
  | [d1, d2, d3, d4] => { results := [.lit (.bool true)], args := [d1, d2, d3, d4] }
  | _ => none }
def robustOfRow : OpenClaim := { program := "ytocclbnghhaejaagreat", sum := "45906a4be4986368d1f971d1e4d1255f015b8b474ffeffe236c896c621ce7351", func := "hydrocascade/hydrocascadelaw40.RobustOf", spec := "robustOf", unfollowed := true, recurses := true, plainKeys := false, apart := false }
def RobustOfSaid : Prop := robustOfRow.holds Tryz.pinned (OpenSpec.ofChange robustOfSpec)

/-- ITS FALSE NEIGHBOUR: 'it returns false'. Refute it at one input. -/
def robustOfWrong : ChangeSpec := { name := "robustOf", fn := fun _ => fun
  | [d1, d2, d3, d4] => { results := [.lit (.bool false)], args := [d1, d2, d3, d4] }
  | _ => none }
def RobustOfWrongFalsely : Prop := robustOfRow.holds Tryz.pinned (OpenSpec.ofChange robustOfWrong)

/-- 'hydrocascadelaw40.RobustFits': WHATEVER THE INPUT: true; the input reads as it did. -/
def robustFitsSpec : ChangeSpec := { name := "robustFits", fn := fun _ => fun
  | [d1, d2] => { results := [.lit (.bool true)], args := [d1, d2] }
  | _ => none }
def robustFitsRow : OpenClaim := { program := "ytocclbnghhaejaagreat", sum := "45906a4be4986368d1f971d1e4d1255f015b8b474ffeffe236c896c621ce7351", func := "hydrocascade/hydrocascadelaw40.RobustFits", spec := "robustFits", unfollowed := true, recurses := true, plainKeys := false, apart := false }
def RobustFitsSaid : Prop := robustFitsRow.holds Tryz.pinned (OpenSpec.ofChange robustFitsSpec)

/-- ITS FALSE NEIGHBOUR: 'it returns false'. Refute it at one input. -/
def robustFitsWrong : ChangeSpec := { name := "robustFits", fn := fun _ => fun
  | [d1, d2] => { results := [.lit (.bool false)], args := [d1, d2] }
  | _ => none }
def RobustFitsWrongFalsely : Prop := robustFitsRow.holds Tryz.pinned (OpenSpec.ofChange robustFitsWrong)

/- THE SECOND FORM. 'bulk': how many values and letters a reading holds, each counted each time it is reached (what is shared counts as often as it is met; a slice's spare places count too). A statement '..UptoSaid' is the law's where the arguments, and the package variables that the reading takes, are together of bulk at most 1048576: NARROWER than '..Said'. Prove '..Said' where nothing that the law and all that it calls make is longer than what came in: it says more and counts as full. Else prove '..UptoSaid'. A law counts once. -/
mutual
def uptoBulk {H : Type} : DataW H → Nat
  | .lit (.string bytes) => bytes.length + 1
  | .lit _ => 1
  | .nil => 1
  | .ptr d => uptoBulk d + 1
  | .slice elems spare => uptoBulkAll elems + uptoBulkAll spare + 1
  | .agg parts => uptoBulkAll parts + 1
  | .iface _ d => uptoBulk d + 1
  | .map entries => uptoBulkEntries entries + 1
  | .held _ => 1
def uptoBulkAll {H : Type} : List (DataW H) → Nat
  | [] => 0
  | d :: r => uptoBulk d + uptoBulkAll r
def uptoBulkEntries {H : Type} : List (Lit × DataW H) → Nat
  | [] => 0
  | x :: r => uptoBulkEntry x + uptoBulkEntries r
def uptoBulkEntry {H : Type} : Lit × DataW H → Nat
  | (.string bytes, d) => bytes.length + uptoBulk d + 1
  | (_, d) => uptoBulk d + 1
 end
def uptoSmall : (H : Type) → List (DataW H) → Bool := fun _ ds => decide (uptoBulkAll ds ≤ 1048576)
def OpenSpec.upto (s : _root_.Go.ChangeSpec) : _root_.Go.OpenSpec := { _root_.Go.OpenSpec.ofChange s with cond := some uptoSmall }

/-- 'hydrocascadelaw23.CascadeChecks', WHERE WHAT IT READS IS OF BULK AT MOST 1048576: true; the input reads as it did. -/
def cascadeChecksUptoRow : OpenClaim := { program := "ytocclbnghhaejaagreat", sum := "45906a4be4986368d1f971d1e4d1255f015b8b474ffeffe236c896c621ce7351", func := "hydrocascade/hydrocascadelaw23.CascadeChecks", spec := "cascadeChecks", unfollowed := true, recurses := true, plainKeys := false, apart := false, narrowed := true }
def CascadeChecksUptoSaid : Prop := cascadeChecksUptoRow.holds Tryz.pinned (OpenSpec.upto cascadeChecksSpec)

/-- 'hydrocascadelaw41.ValueBetter', WHERE WHAT IT READS IS OF BULK AT MOST 1048576: true; the input reads as it did. -/
def valueBetterUptoRow : OpenClaim := { program := "ytocclbnghhaejaagreat", sum := "45906a4be4986368d1f971d1e4d1255f015b8b474ffeffe236c896c621ce7351", func := "hydrocascade/hydrocascadelaw41.ValueBetter", spec := "valueBetter", unfollowed := true, recurses := true, plainKeys := false, apart := false, narrowed := true }
def ValueBetterUptoSaid : Prop := valueBetterUptoRow.holds Tryz.pinned (OpenSpec.upto valueBetterSpec)

/-- 'hydrocascadelaw41.ValuePlans', WHERE WHAT IT READS IS OF BULK AT MOST 1048576: true; the input reads as it did. -/
def valuePlansUptoRow : OpenClaim := { program := "ytocclbnghhaejaagreat", sum := "45906a4be4986368d1f971d1e4d1255f015b8b474ffeffe236c896c621ce7351", func := "hydrocascade/hydrocascadelaw41.ValuePlans", spec := "valuePlans", unfollowed := true, recurses := true, plainKeys := false, apart := false, narrowed := true }
def ValuePlansUptoSaid : Prop := valuePlansUptoRow.holds Tryz.pinned (OpenSpec.upto valuePlansSpec)

/-- 'hydrocascadelaw40.RobustTells', WHERE WHAT IT READS IS OF BULK AT MOST 1048576: true; the input reads as it did. -/
def robustTellsUptoRow : OpenClaim := { program := "ytocclbnghhaejaagreat", sum := "45906a4be4986368d1f971d1e4d1255f015b8b474ffeffe236c896c621ce7351", func := "hydrocascade/hydrocascadelaw40.RobustTells", spec := "robustTells", unfollowed := true, recurses := true, plainKeys := false, apart := false, narrowed := true }
def RobustTellsUptoSaid : Prop := robustTellsUptoRow.holds Tryz.pinned (OpenSpec.upto robustTellsSpec)

/-- 'hydrocascadelaw40.RobustWorlds', WHERE WHAT IT READS IS OF BULK AT MOST 1048576: true; the input reads as it did. -/
def robustWorldsUptoRow : OpenClaim := { program := "ytocclbnghhaejaagreat", sum := "45906a4be4986368d1f971d1e4d1255f015b8b474ffeffe236c896c621ce7351", func := "hydrocascade/hydrocascadelaw40.RobustWorlds", spec := "robustWorlds", unfollowed := true, recurses := true, plainKeys := false, apart := false, narrowed := true }
def RobustWorldsUptoSaid : Prop := robustWorldsUptoRow.holds Tryz.pinned (OpenSpec.upto robustWorldsSpec)

/-- 'hydrocascadelaw40.RobustChooses', WHERE WHAT IT READS IS OF BULK AT MOST 1048576: true; the input reads as it did. -/
def robustChoosesUptoRow : OpenClaim := { program := "ytocclbnghhaejaagreat", sum := "45906a4be4986368d1f971d1e4d1255f015b8b474ffeffe236c896c621ce7351", func := "hydrocascade/hydrocascadelaw40.RobustChooses", spec := "robustChooses", unfollowed := true, recurses := true, plainKeys := false, apart := false, narrowed := true }
def RobustChoosesUptoSaid : Prop := robustChoosesUptoRow.holds Tryz.pinned (OpenSpec.upto robustChoosesSpec)

/-- 'hydrocascadelaw40.RobustOf', WHERE WHAT IT READS IS OF BULK AT MOST 1048576: true; the input reads as it did. -/
def robustOfUptoRow : OpenClaim := { program := "ytocclbnghhaejaagreat", sum := "45906a4be4986368d1f971d1e4d1255f015b8b474ffeffe236c896c621ce7351", func := "hydrocascade/hydrocascadelaw40.RobustOf", spec := "robustOf", unfollowed := true, recurses := true, plainKeys := false, apart := false, narrowed := true }
def RobustOfUptoSaid : Prop := robustOfUptoRow.holds Tryz.pinned (OpenSpec.upto robustOfSpec)

/-- 'hydrocascadelaw40.RobustFits', WHERE WHAT IT READS IS OF BULK AT MOST 1048576: true; the input reads as it did. -/
def robustFitsUptoRow : OpenClaim := { program := "ytocclbnghhaejaagreat", sum := "45906a4be4986368d1f971d1e4d1255f015b8b474ffeffe236c896c621ce7351", func := "hydrocascade/hydrocascadelaw40.RobustFits", spec := "robustFits", unfollowed := true, recurses := true, plainKeys := false, apart := false, narrowed := true }
def RobustFitsUptoSaid : Prop := robustFitsUptoRow.holds Tryz.pinned (OpenSpec.upto robustFitsSpec)

end Rows
end Go.Proofs.YtocclbnghhaejaaGreat
