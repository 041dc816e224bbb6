/-
  No cell of these rows narrows 'for every input' (looked for: loops, veiled, ifaces, maps, wideKeys, modest, calm, conditions, laid).
  DERIVED. THE GIVEN ROWS OF THIS SEAT. 2 by the template 'for every input the law returns true; each argument reads behind the call as it read before'; 0 by the template 'total and deterministic' (their statements: YtcelmhaoipbdiaaGreatTotals.lean).
  GIVEN WITH THE SEED: the statements are not yours to turn. If you find one false, say at which input.
  Laid BY PROGRAM, IN A SANDBOX (cutbox-rows.mjs): the forced cells as the released guide's own fill.sh prints them over the translation cc2e63cd2f2e5896… (all of the seat's roots in one cut). By AI agents, Wed Nov 11 2026. No macro, syntax, notation, axiom, sorry.
-/
import Derived.Test.YtcelmhaoipbdiaaGreatChecked
import GoSem.Claim
import GoSem.ClaimJoined
import GoSem.ClaimMapViews
import Derived.JoinedTies
import Derived.KernelRfl
namespace Go.Proofs.YtcelmhaoipbdiaaGreat
/- THE CELL 'sum', in the pinned program and in every row, IS THE sha256 OF THE DUMP (.gsa) THAT YtcelmhaoipbdiaaGreatProg.lean LOADS. Nothing in Lean hashes anything: it is a label: what it is worth is what the hold of that sum in a sandbox is worth. -/
noncomputable def Tryz.pinned : Pinned := { name := "ytcelmhaoipbdiaagreat", sum := "cc2e63cd2f2e58965e77df0f94309cc306cdf727c0d5c743125e7ccfdbb07abd", checked := Tryz.checked }
namespace Rows
def none {H : Type} : Left H := { results := [], args := [] }

/-- 'hydrocascadelaw23.CascadeSteps': WHATEVER THE INPUT: true; the input reads as it did. -/
def cascadeStepsSpec : ChangeSpec := { name := "cascadeSteps", fn := fun _ => fun
  | [d1, d2] => { results := [.lit (.bool true)], args := [d1, d2] }
  | _ => none }
def cascadeStepsRow : OpenClaim := { program := "ytcelmhaoipbdiaagreat", sum := "cc2e63cd2f2e58965e77df0f94309cc306cdf727c0d5c743125e7ccfdbb07abd", func := "hydrocascade/hydrocascadelaw23.CascadeSteps", spec := "cascadeSteps", unfollowed := true, recurses := true, plainKeys := false, apart := false }
def CascadeStepsSaid : Prop := cascadeStepsRow.holds Tryz.pinned (OpenSpec.ofChange cascadeStepsSpec)

/-- ITS FALSE NEIGHBOUR: 'it returns false'. Refute it at one input. -/
def cascadeStepsWrong : ChangeSpec := { name := "cascadeSteps", fn := fun _ => fun
  | [d1, d2] => { results := [.lit (.bool false)], args := [d1, d2] }
  | _ => none }
def CascadeStepsWrongFalsely : Prop := cascadeStepsRow.holds Tryz.pinned (OpenSpec.ofChange cascadeStepsWrong)

/-- 'hydrocascadelaw40.RobustTells': WHATEVER THE INPUT: true; the input reads as it did. -/
def robustTellsSpec : ChangeSpec := { name := "robustTells", fn := fun _ => fun
  | [d1, d2, d3] => { results := [.lit (.bool true)], args := [d1, d2, d3] }
  | _ => none }
def robustTellsRow : OpenClaim := { program := "ytcelmhaoipbdiaagreat", sum := "cc2e63cd2f2e58965e77df0f94309cc306cdf727c0d5c743125e7ccfdbb07abd", func := "hydrocascade/hydrocascadelaw40.RobustTells", spec := "robustTells", unfollowed := true, recurses := true, plainKeys := false, apart := false }
def RobustTellsSaid : Prop := robustTellsRow.holds Tryz.pinned (OpenSpec.ofChange robustTellsSpec)

/-- ITS FALSE NEIGHBOUR: 'it returns false'. Refute it at one input. -/
def robustTellsWrong : ChangeSpec := { name := "robustTells", fn := fun _ => fun
  | [d1, d2, d3] => { results := [.lit (.bool false)], args := [d1, d2, d3] }
  | _ => none }
def RobustTellsWrongFalsely : Prop := robustTellsRow.holds Tryz.pinned (OpenSpec.ofChange robustTellsWrong)

/- THE SECOND FORM. 'bulk': how many values and letters a reading holds, each counted each time it is reached (what is shared counts as often as it is met; a slice's spare places count too). A statement '..UptoSaid' is the law's where the arguments, and the package variables that the reading takes, are together of bulk at most 1048576: NARROWER than '..Said'. Prove '..Said' where nothing that the law and all that it calls make is longer than what came in: it says more and counts as full. Else prove '..UptoSaid'. A law counts once. -/
mutual
def uptoBulk {H : Type} : DataW H → Nat
  | .lit (.string bytes) => bytes.length + 1
  | .lit _ => 1
  | .nil => 1
  | .ptr d => uptoBulk d + 1
  | .slice elems spare => uptoBulkAll elems + uptoBulkAll spare + 1
  | .agg parts => uptoBulkAll parts + 1
  | .iface _ d => uptoBulk d + 1
  | .map entries => uptoBulkEntries entries + 1
  | .held _ => 1
def uptoBulkAll {H : Type} : List (DataW H) → Nat
  | [] => 0
  | d :: r => uptoBulk d + uptoBulkAll r
def uptoBulkEntries {H : Type} : List (Lit × DataW H) → Nat
  | [] => 0
  | x :: r => uptoBulkEntry x + uptoBulkEntries r
def uptoBulkEntry {H : Type} : Lit × DataW H → Nat
  | (.string bytes, d) => bytes.length + uptoBulk d + 1
  | (_, d) => uptoBulk d + 1
 end
def uptoSmall : (H : Type) → List (DataW H) → Bool := fun _ ds => decide (uptoBulkAll ds ≤ 1048576)
def OpenSpec.upto (s : _root_.Go.ChangeSpec) : _root_.Go.OpenSpec := { _root_.Go.OpenSpec.ofChange s with cond := some uptoSmall }

/-- 'hydrocascadelaw23.CascadeSteps', WHERE WHAT IT READS IS OF BULK AT MOST 1048576: true; the input reads as it did. -/
def cascadeStepsUptoRow : OpenClaim := { program := "ytcelmhaoipbdiaagreat", sum := "cc2e63cd2f2e58965e77df0f94309cc306cdf727c0d5c743125e7ccfdbb07abd", func := "hydrocascade/hydrocascadelaw23.CascadeSteps", spec := "cascadeSteps", unfollowed := true, recurses := true, plainKeys := false, apart := false, narrowed := true }
def CascadeStepsUptoSaid : Prop := cascadeStepsUptoRow.holds Tryz.pinned (OpenSpec.upto cascadeStepsSpec)

/-- 'hydrocascadelaw40.RobustTells', WHERE WHAT IT READS IS OF BULK AT MOST 1048576: true; the input reads as it did. -/
def robustTellsUptoRow : OpenClaim := { program := "ytcelmhaoipbdiaagreat", sum := "cc2e63cd2f2e58965e77df0f94309cc306cdf727c0d5c743125e7ccfdbb07abd", func := "hydrocascade/hydrocascadelaw40.RobustTells", spec := "robustTells", unfollowed := true, recurses := true, plainKeys := false, apart := false, narrowed := true }
def RobustTellsUptoSaid : Prop := robustTellsUptoRow.holds Tryz.pinned (OpenSpec.upto robustTellsSpec)

end Rows
end Go.Proofs.YtcelmhaoipbdiaaGreat
