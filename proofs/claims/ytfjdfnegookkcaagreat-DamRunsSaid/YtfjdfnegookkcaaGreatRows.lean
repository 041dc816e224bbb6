/-
  No cell of these rows narrows 'for every input' (looked for: loops, veiled, ifaces, maps, wideKeys, modest, calm, conditions, laid).
  DERIVED. THE GIVEN ROWS OF THIS SEAT. 4 by the template 'for every input the law returns true; each argument reads behind the call as it read before'; 0 by the template 'total and deterministic' (their statements: YtfjdfnegookkcaaGreatTotals.lean).
  GIVEN WITH THE SEED: the statements are not yours to turn. If you find one false, say at which input.
  Laid BY PROGRAM, IN A SANDBOX (cutbox-rows.mjs): the forced cells as the released guide's own fill.sh prints them over the translation e03a07a12cc9554f… (all of the seat's roots in one cut). By AI agents, Wed Nov 11 2026. No macro, syntax, notation, axiom, sorry.
-/
import Derived.Test.YtfjdfnegookkcaaGreatChecked
import GoSem.Claim
import GoSem.ClaimJoined
import GoSem.ClaimMapViews
import Derived.JoinedTies
import Derived.KernelRfl
namespace Go.Proofs.YtfjdfnegookkcaaGreat
/- THE CELL 'sum', in the pinned program and in every row, IS THE sha256 OF THE DUMP (.gsa) THAT YtfjdfnegookkcaaGreatProg.lean LOADS. Nothing in Lean hashes anything: it is a label: what it is worth is what the hold of that sum in a sandbox is worth. -/
noncomputable def Tryz.pinned : Pinned := { name := "ytfjdfnegookkcaagreat", sum := "e03a07a12cc9554f20f7b2f099da0bb29b890b2776a20f64196533d1d0da1964", checked := Tryz.checked }
namespace Rows
def none {H : Type} : Left H := { results := [], args := [] }

/-- 'hydrocascadelaw22.DamBalances': WHATEVER THE INPUT: true; the input reads as it did. -/
def damBalancesSpec : ChangeSpec := { name := "damBalances", fn := fun _ => fun
  | [d] => { results := [.lit (.bool true)], args := [d] }
  | _ => none }
def damBalancesRow : OpenClaim := { program := "ytfjdfnegookkcaagreat", sum := "e03a07a12cc9554f20f7b2f099da0bb29b890b2776a20f64196533d1d0da1964", func := "hydrocascade/hydrocascadelaw22.DamBalances", spec := "damBalances", unfollowed := true, recurses := true, plainKeys := false, apart := false }
def DamBalancesSaid : Prop := damBalancesRow.holds Tryz.pinned (OpenSpec.ofChange damBalancesSpec)

/-- ITS FALSE NEIGHBOUR: 'it returns false'. Refute it at one input. -/
def damBalancesWrong : ChangeSpec := { name := "damBalances", fn := fun _ => fun
  | [d] => { results := [.lit (.bool false)], args := [d] }
  | _ => none }
def DamBalancesWrongFalsely : Prop := damBalancesRow.holds Tryz.pinned (OpenSpec.ofChange damBalancesWrong)

/-- 'hydrocascadelaw22.DamSteps': WHATEVER THE INPUT: true; the input reads as it did. -/
def damStepsSpec : ChangeSpec := { name := "damSteps", fn := fun _ => fun
  | [d1, d2, d3, d4, d5, d6] => { results := [.lit (.bool true)], args := [d1, d2, d3, d4, d5, d6] }
  | _ => none }
def damStepsRow : OpenClaim := { program := "ytfjdfnegookkcaagreat", sum := "e03a07a12cc9554f20f7b2f099da0bb29b890b2776a20f64196533d1d0da1964", func := "hydrocascade/hydrocascadelaw22.DamSteps", spec := "damSteps", unfollowed := true, recurses := true, plainKeys := false, apart := false }
def DamStepsSaid : Prop := damStepsRow.holds Tryz.pinned (OpenSpec.ofChange damStepsSpec)

/-- ITS FALSE NEIGHBOUR: 'it returns false'. Refute it at one input. -/
def damStepsWrong : ChangeSpec := { name := "damSteps", fn := fun _ => fun
  | [d1, d2, d3, d4, d5, d6] => { results := [.lit (.bool false)], args := [d1, d2, d3, d4, d5, d6] }
  | _ => none }
def DamStepsWrongFalsely : Prop := damStepsRow.holds Tryz.pinned (OpenSpec.ofChange damStepsWrong)

/-- 'hydrocascadelaw22.DamSums': WHATEVER THE INPUT: true; the input reads as it did. -/
def damSumsSpec : ChangeSpec := { name := "damSums", fn := fun _ => fun
  | [d1, d2] => { results := [.lit (.bool true)], args := [d1, d2] }
  | _ => none }
def damSumsRow : OpenClaim := { program := "ytfjdfnegookkcaagreat", sum := "e03a07a12cc9554f20f7b2f099da0bb29b890b2776a20f64196533d1d0da1964", func := "hydrocascade/hydrocascadelaw22.DamSums", spec := "damSums", unfollowed := true, recurses := true, plainKeys := false, apart := false }
def DamSumsSaid : Prop := damSumsRow.holds Tryz.pinned (OpenSpec.ofChange damSumsSpec)

/-- ITS FALSE NEIGHBOUR: 'it returns false'. Refute it at one input. -/
def damSumsWrong : ChangeSpec := { name := "damSums", fn := fun _ => fun
  | [d1, d2] => { results := [.lit (.bool false)], args := [d1, d2] }
  | _ => none }
def DamSumsWrongFalsely : Prop := damSumsRow.holds Tryz.pinned (OpenSpec.ofChange damSumsWrong)

/-- 'hydrocascadelaw22.DamRuns': WHATEVER THE INPUT: true; the input reads as it did. -/
def damRunsSpec : ChangeSpec := { name := "damRuns", fn := fun _ => fun
  | [d1, d2, d3, d4, d5] => { results := [.lit (.bool true)], args := [d1, d2, d3, d4, d5] }
  | _ => none }
def damRunsRow : OpenClaim := { program := "ytfjdfnegookkcaagreat", sum := "e03a07a12cc9554f20f7b2f099da0bb29b890b2776a20f64196533d1d0da1964", func := "hydrocascade/hydrocascadelaw22.DamRuns", spec := "damRuns", unfollowed := true, recurses := true, plainKeys := false, apart := false }
def DamRunsSaid : Prop := damRunsRow.holds Tryz.pinned (OpenSpec.ofChange damRunsSpec)

/-- ITS FALSE NEIGHBOUR: 'it returns false'. Refute it at one input. -/
def damRunsWrong : ChangeSpec := { name := "damRuns", fn := fun _ => fun
  | [d1, d2, d3, d4, d5] => { results := [.lit (.bool false)], args := [d1, d2, d3, d4, d5] }
  | _ => none }
def DamRunsWrongFalsely : Prop := damRunsRow.holds Tryz.pinned (OpenSpec.ofChange damRunsWrong)

/- THE SECOND FORM. 'bulk': how many values and letters a reading holds, each counted each time it is reached (what is shared counts as often as it is met; a slice's spare places count too). A statement '..UptoSaid' is the law's where the arguments, and the package variables that the reading takes, are together of bulk at most 1048576: NARROWER than '..Said'. Prove '..Said' where nothing that the law and all that it calls make is longer than what came in: it says more and counts as full. Else prove '..UptoSaid'. A law counts once. -/
mutual
def uptoBulk {H : Type} : DataW H → Nat
  | .lit (.string bytes) => bytes.length + 1
  | .lit _ => 1
  | .nil => 1
  | .ptr d => uptoBulk d + 1
  | .slice elems spare => uptoBulkAll elems + uptoBulkAll spare + 1
  | .agg parts => uptoBulkAll parts + 1
  | .iface _ d => uptoBulk d + 1
  | .map entries => uptoBulkEntries entries + 1
  | .held _ => 1
def uptoBulkAll {H : Type} : List (DataW H) → Nat
  | [] => 0
  | d :: r => uptoBulk d + uptoBulkAll r
def uptoBulkEntries {H : Type} : List (Lit × DataW H) → Nat
  | [] => 0
  | x :: r => uptoBulkEntry x + uptoBulkEntries r
def uptoBulkEntry {H : Type} : Lit × DataW H → Nat
  | (.string bytes, d) => bytes.length + uptoBulk d + 1
  | (_, d) => uptoBulk d + 1
 end
def uptoSmall : (H : Type) → List (DataW H) → Bool := fun _ ds => decide (uptoBulkAll ds ≤ 1048576)
def OpenSpec.upto (s : _root_.Go.ChangeSpec) : _root_.Go.OpenSpec := { _root_.Go.OpenSpec.ofChange s with cond := some uptoSmall }

/-- 'hydrocascadelaw22.DamBalances', WHERE WHAT IT READS IS OF BULK AT MOST 1048576: true; the input reads as it did. -/
def damBalancesUptoRow : OpenClaim := { program := "ytfjdfnegookkcaagreat", sum := "e03a07a12cc9554f20f7b2f099da0bb29b890b2776a20f64196533d1d0da1964", func := "hydrocascade/hydrocascadelaw22.DamBalances", spec := "damBalances", unfollowed := true, recurses := true, plainKeys := false, apart := false, narrowed := true }
def DamBalancesUptoSaid : Prop := damBalancesUptoRow.holds Tryz.pinned (OpenSpec.upto damBalancesSpec)

/-- 'hydrocascadelaw22.DamSteps', WHERE WHAT IT READS IS OF BULK AT MOST 1048576: true; the input reads as it did. -/
def damStepsUptoRow : OpenClaim := { program := "ytfjdfnegookkcaagreat", sum := "e03a07a12cc9554f20f7b2f099da0bb29b890b2776a20f64196533d1d0da1964", func := "hydrocascade/hydrocascadelaw22.DamSteps", spec := "damSteps", unfollowed := true, recurses := true, plainKeys := false, apart := false, narrowed := true }
def DamStepsUptoSaid : Prop := damStepsUptoRow.holds Tryz.pinned (OpenSpec.upto damStepsSpec)

/-- 'hydrocascadelaw22.DamSums', WHERE WHAT IT READS IS OF BULK AT MOST 1048576: true; the input reads as it did. -/
def damSumsUptoRow : OpenClaim := { program := "ytfjdfnegookkcaagreat", sum := "e03a07a12cc9554f20f7b2f099da0bb29b890b2776a20f64196533d1d0da1964", func := "hydrocascade/hydrocascadelaw22.DamSums", spec := "damSums", unfollowed := true, recurses := true, plainKeys := false, apart := false, narrowed := true }
def DamSumsUptoSaid : Prop := damSumsUptoRow.holds Tryz.pinned (OpenSpec.upto damSumsSpec)

/-- 'hydrocascadelaw22.DamRuns', WHERE WHAT IT READS IS OF BULK AT MOST 1048576: true; the input reads as it did. -/
def damRunsUptoRow : OpenClaim := { program := "ytfjdfnegookkcaagreat", sum := "e03a07a12cc9554f20f7b2f099da0bb29b890b2776a20f64196533d1d0da1964", func := "hydrocascade/hydrocascadelaw22.DamRuns", spec := "damRuns", unfollowed := true, recurses := true, plainKeys := false, apart := false, narrowed := true }
def DamRunsUptoSaid : Prop := damRunsUptoRow.holds Tryz.pinned (OpenSpec.upto damRunsSpec)

end Rows
end Go.Proofs.YtfjdfnegookkcaaGreat
