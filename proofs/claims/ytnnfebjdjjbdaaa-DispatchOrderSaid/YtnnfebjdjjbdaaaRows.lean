/-
  No cell of these rows narrows 'for every input' (looked for: loops, veiled, ifaces, maps, wideKeys, modest, calm, conditions, laid).
  DERIVED. THE GIVEN ROWS OF THIS SEAT. 7 by the template 'for every input the law returns true; each argument reads behind the call as it read before'; 0 by the template 'total and deterministic' (their statements: YtnnfebjdjjbdaaaTotals.lean).
  GIVEN WITH THE SEED: the statements are not yours to turn. If you find one false, say at which input.
  Laid BY PROGRAM, IN A SANDBOX (cutbox-rows.mjs): the forced cells as the released guide's own fill.sh prints them over the translation 1b6dca8663f793e3… (all of the seat's roots in one cut). By AI agents, Wed Nov 11 2026. No macro, syntax, notation, axiom, sorry.
-/
import Derived.Test.YtnnfebjdjjbdaaaChecked
import GoSem.Claim
import GoSem.ClaimJoined
import GoSem.ClaimMapViews
import Derived.JoinedTies
import Derived.KernelRfl
namespace Go.Proofs.Ytnnfebjdjjbdaaa
/- THE CELL 'sum', in the pinned program and in every row, IS THE sha256 OF THE DUMP (.gsa) THAT YtnnfebjdjjbdaaaProg.lean LOADS. Nothing in Lean hashes anything: it is a label: what it is worth is what the hold of that sum in a sandbox is worth. -/
noncomputable def Try.pinned : Pinned := { name := "ytnnfebjdjjbdaaa", sum := "1b6dca8663f793e3b0f290bb930f5a7b2316be28a9bc4e40ee81bd695c348201", checked := Try.checked }
namespace Rows
def none {H : Type} : Left H := { results := [], args := [] }

/-- 'hydrocascadelaw19.DispatchOrder': WHATEVER THE INPUT: true; the input reads as it did. -/
def dispatchOrderSpec : ChangeSpec := { name := "dispatchOrder", fn := fun _ => fun
  | [d] => { results := [.lit (.bool true)], args := [d] }
  | _ => none }
def dispatchOrderRow : OpenClaim := { program := "ytnnfebjdjjbdaaa", sum := "1b6dca8663f793e3b0f290bb930f5a7b2316be28a9bc4e40ee81bd695c348201", func := "hydrocascade/hydrocascadelaw19.DispatchOrder", spec := "dispatchOrder", unfollowed := true, recurses := true, plainKeys := false, apart := false }
def DispatchOrderSaid : Prop := dispatchOrderRow.holds Try.pinned (OpenSpec.ofChange dispatchOrderSpec)

/-- ITS FALSE NEIGHBOUR: 'it returns false'. Refute it at one input. -/
def dispatchOrderWrong : ChangeSpec := { name := "dispatchOrder", fn := fun _ => fun
  | [d] => { results := [.lit (.bool false)], args := [d] }
  | _ => none }
def DispatchOrderWrongFalsely : Prop := dispatchOrderRow.holds Try.pinned (OpenSpec.ofChange dispatchOrderWrong)

/-- 'hydrocascadelaw19.DispatchBest': WHATEVER THE INPUT: true; the input reads as it did. -/
def dispatchBestSpec : ChangeSpec := { name := "dispatchBest", fn := fun _ => fun
  | [d1, d2, d3, d4, d5] => { results := [.lit (.bool true)], args := [d1, d2, d3, d4, d5] }
  | _ => none }
def dispatchBestRow : OpenClaim := { program := "ytnnfebjdjjbdaaa", sum := "1b6dca8663f793e3b0f290bb930f5a7b2316be28a9bc4e40ee81bd695c348201", func := "hydrocascade/hydrocascadelaw19.DispatchBest", spec := "dispatchBest", unfollowed := true, recurses := true, plainKeys := false, apart := false }
def DispatchBestSaid : Prop := dispatchBestRow.holds Try.pinned (OpenSpec.ofChange dispatchBestSpec)

/-- ITS FALSE NEIGHBOUR: 'it returns false'. Refute it at one input. -/
def dispatchBestWrong : ChangeSpec := { name := "dispatchBest", fn := fun _ => fun
  | [d1, d2, d3, d4, d5] => { results := [.lit (.bool false)], args := [d1, d2, d3, d4, d5] }
  | _ => none }
def DispatchBestWrongFalsely : Prop := dispatchBestRow.holds Try.pinned (OpenSpec.ofChange dispatchBestWrong)

/-- 'hydrocascadelaw19.DispatchGreatest': WHATEVER THE INPUT: true; the input reads as it did. -/
def dispatchGreatestSpec : ChangeSpec := { name := "dispatchGreatest", fn := fun _ => fun
  | [d] => { results := [.lit (.bool true)], args := [d] }
  | _ => none }
def dispatchGreatestRow : OpenClaim := { program := "ytnnfebjdjjbdaaa", sum := "1b6dca8663f793e3b0f290bb930f5a7b2316be28a9bc4e40ee81bd695c348201", func := "hydrocascade/hydrocascadelaw19.DispatchGreatest", spec := "dispatchGreatest", unfollowed := true, recurses := true, plainKeys := false, apart := false }
def DispatchGreatestSaid : Prop := dispatchGreatestRow.holds Try.pinned (OpenSpec.ofChange dispatchGreatestSpec)

/-- ITS FALSE NEIGHBOUR: 'it returns false'. Refute it at one input. -/
def dispatchGreatestWrong : ChangeSpec := { name := "dispatchGreatest", fn := fun _ => fun
  | [d] => { results := [.lit (.bool false)], args := [d] }
  | _ => none }
def DispatchGreatestWrongFalsely : Prop := dispatchGreatestRow.holds Try.pinned (OpenSpec.ofChange dispatchGreatestWrong)

/-- 'hydrocascadelaw19.DispatchTurns': WHATEVER THE INPUT: true; the input reads as it did. -/
def dispatchTurnsSpec : ChangeSpec := { name := "dispatchTurns", fn := fun _ => fun
  | [d1, d2] => { results := [.lit (.bool true)], args := [d1, d2] }
  | _ => none }
def dispatchTurnsRow : OpenClaim := { program := "ytnnfebjdjjbdaaa", sum := "1b6dca8663f793e3b0f290bb930f5a7b2316be28a9bc4e40ee81bd695c348201", func := "hydrocascade/hydrocascadelaw19.DispatchTurns", spec := "dispatchTurns", unfollowed := true, recurses := true, plainKeys := false, apart := false }
def DispatchTurnsSaid : Prop := dispatchTurnsRow.holds Try.pinned (OpenSpec.ofChange dispatchTurnsSpec)

/-- ITS FALSE NEIGHBOUR: 'it returns false'. Refute it at one input. -/
def dispatchTurnsWrong : ChangeSpec := { name := "dispatchTurns", fn := fun _ => fun
  | [d1, d2] => { results := [.lit (.bool false)], args := [d1, d2] }
  | _ => none }
def DispatchTurnsWrongFalsely : Prop := dispatchTurnsRow.holds Try.pinned (OpenSpec.ofChange dispatchTurnsWrong)

/-- 'hydrocascadelaw19.DispatchMore': WHATEVER THE INPUT: true; the input reads as it did. -/
def dispatchMoreSpec : ChangeSpec := { name := "dispatchMore", fn := fun _ => fun
  | [d1, d2] => { results := [.lit (.bool true)], args := [d1, d2] }
  | _ => none }
def dispatchMoreRow : OpenClaim := { program := "ytnnfebjdjjbdaaa", sum := "1b6dca8663f793e3b0f290bb930f5a7b2316be28a9bc4e40ee81bd695c348201", func := "hydrocascade/hydrocascadelaw19.DispatchMore", spec := "dispatchMore", unfollowed := true, recurses := true, plainKeys := false, apart := false }
def DispatchMoreSaid : Prop := dispatchMoreRow.holds Try.pinned (OpenSpec.ofChange dispatchMoreSpec)

/-- ITS FALSE NEIGHBOUR: 'it returns false'. Refute it at one input. -/
def dispatchMoreWrong : ChangeSpec := { name := "dispatchMore", fn := fun _ => fun
  | [d1, d2] => { results := [.lit (.bool false)], args := [d1, d2] }
  | _ => none }
def DispatchMoreWrongFalsely : Prop := dispatchMoreRow.holds Try.pinned (OpenSpec.ofChange dispatchMoreWrong)

/-- 'hydrocascadelaw22.DamMore': WHATEVER THE INPUT: true; the input reads as it did. -/
def damMoreSpec : ChangeSpec := { name := "damMore", fn := fun _ => fun
  | [d1, d2] => { results := [.lit (.bool true)], args := [d1, d2] }
  | _ => none }
def damMoreRow : OpenClaim := { program := "ytnnfebjdjjbdaaa", sum := "1b6dca8663f793e3b0f290bb930f5a7b2316be28a9bc4e40ee81bd695c348201", func := "hydrocascade/hydrocascadelaw22.DamMore", spec := "damMore", unfollowed := true, recurses := true, plainKeys := false, apart := false }
def DamMoreSaid : Prop := damMoreRow.holds Try.pinned (OpenSpec.ofChange damMoreSpec)

/-- ITS FALSE NEIGHBOUR: 'it returns false'. Refute it at one input. -/
def damMoreWrong : ChangeSpec := { name := "damMore", fn := fun _ => fun
  | [d1, d2] => { results := [.lit (.bool false)], args := [d1, d2] }
  | _ => none }
def DamMoreWrongFalsely : Prop := damMoreRow.holds Try.pinned (OpenSpec.ofChange damMoreWrong)

/-- 'hydrocascadelaw22.DamObeys': WHATEVER THE INPUT: true; the input reads as it did. -/
def damObeysSpec : ChangeSpec := { name := "damObeys", fn := fun _ => fun
  | [d1, d2] => { results := [.lit (.bool true)], args := [d1, d2] }
  | _ => none }
def damObeysRow : OpenClaim := { program := "ytnnfebjdjjbdaaa", sum := "1b6dca8663f793e3b0f290bb930f5a7b2316be28a9bc4e40ee81bd695c348201", func := "hydrocascade/hydrocascadelaw22.DamObeys", spec := "damObeys", unfollowed := true, recurses := true, plainKeys := false, apart := false }
def DamObeysSaid : Prop := damObeysRow.holds Try.pinned (OpenSpec.ofChange damObeysSpec)

/-- ITS FALSE NEIGHBOUR: 'it returns false'. Refute it at one input. -/
def damObeysWrong : ChangeSpec := { name := "damObeys", fn := fun _ => fun
  | [d1, d2] => { results := [.lit (.bool false)], args := [d1, d2] }
  | _ => none }
def DamObeysWrongFalsely : Prop := damObeysRow.holds Try.pinned (OpenSpec.ofChange damObeysWrong)

/- THE SECOND FORM. 'bulk': how many values and letters a reading holds, each counted each time it is reached (what is shared counts as often as it is met; a slice's spare places count too). A statement '..UptoSaid' is the law's where the arguments, and the package variables that the reading takes, are together of bulk at most 1048576: NARROWER than '..Said'. Prove '..Said' where nothing that the law and all that it calls make is longer than what came in: it says more and counts as full. Else prove '..UptoSaid'. A law counts once. -/
mutual
def uptoBulk {H : Type} : DataW H → Nat
  | .lit (.string bytes) => bytes.length + 1
  | .lit _ => 1
  | .nil => 1
  | .ptr d => uptoBulk d + 1
  | .slice elems spare => uptoBulkAll elems + uptoBulkAll spare + 1
  | .agg parts => uptoBulkAll parts + 1
  | .iface _ d => uptoBulk d + 1
  | .map entries => uptoBulkEntries entries + 1
  | .held _ => 1
def uptoBulkAll {H : Type} : List (DataW H) → Nat
  | [] => 0
  | d :: r => uptoBulk d + uptoBulkAll r
def uptoBulkEntries {H : Type} : List (Lit × DataW H) → Nat
  | [] => 0
  | x :: r => uptoBulkEntry x + uptoBulkEntries r
def uptoBulkEntry {H : Type} : Lit × DataW H → Nat
  | (.string bytes, d) => bytes.length + uptoBulk d + 1
  | (_, d) => uptoBulk d + 1
 end
def uptoSmall : (H : Type) → List (DataW H) → Bool := fun _ ds => decide (uptoBulkAll ds ≤ 1048576)
def OpenSpec.upto (s : _root_.Go.ChangeSpec) : _root_.Go.OpenSpec := { _root_.Go.OpenSpec.ofChange s with cond := some uptoSmall }

/-- 'hydrocascadelaw19.DispatchOrder', WHERE WHAT IT READS IS OF BULK AT MOST 1048576: true; the input reads as it did. -/
def dispatchOrderUptoRow : OpenClaim := { program := "ytnnfebjdjjbdaaa", sum := "1b6dca8663f793e3b0f290bb930f5a7b2316be28a9bc4e40ee81bd695c348201", func := "hydrocascade/hydrocascadelaw19.DispatchOrder", spec := "dispatchOrder", unfollowed := true, recurses := true, plainKeys := false, apart := false, narrowed := true }
def DispatchOrderUptoSaid : Prop := dispatchOrderUptoRow.holds Try.pinned (OpenSpec.upto dispatchOrderSpec)

/-- 'hydrocascadelaw19.DispatchBest', WHERE WHAT IT READS IS OF BULK AT MOST 1048576: true; the input reads as it did. -/
def dispatchBestUptoRow : OpenClaim := { program := "ytnnfebjdjjbdaaa", sum := "1b6dca8663f793e3b0f290bb930f5a7b2316be28a9bc4e40ee81bd695c348201", func := "hydrocascade/hydrocascadelaw19.DispatchBest", spec := "dispatchBest", unfollowed := true, recurses := true, plainKeys := false, apart := false, narrowed := true }
def DispatchBestUptoSaid : Prop := dispatchBestUptoRow.holds Try.pinned (OpenSpec.upto dispatchBestSpec)

/-- 'hydrocascadelaw19.DispatchGreatest', WHERE WHAT IT READS IS OF BULK AT MOST 1048576: true; the input reads as it did. -/
def dispatchGreatestUptoRow : OpenClaim := { program := "ytnnfebjdjjbdaaa", sum := "1b6dca8663f793e3b0f290bb930f5a7b2316be28a9bc4e40ee81bd695c348201", func := "hydrocascade/hydrocascadelaw19.DispatchGreatest", spec := "dispatchGreatest", unfollowed := true, recurses := true, plainKeys := false, apart := false, narrowed := true }
def DispatchGreatestUptoSaid : Prop := dispatchGreatestUptoRow.holds Try.pinned (OpenSpec.upto dispatchGreatestSpec)

/-- 'hydrocascadelaw19.DispatchTurns', WHERE WHAT IT READS IS OF BULK AT MOST 1048576: true; the input reads as it did. -/
def dispatchTurnsUptoRow : OpenClaim := { program := "ytnnfebjdjjbdaaa", sum := "1b6dca8663f793e3b0f290bb930f5a7b2316be28a9bc4e40ee81bd695c348201", func := "hydrocascade/hydrocascadelaw19.DispatchTurns", spec := "dispatchTurns", unfollowed := true, recurses := true, plainKeys := false, apart := false, narrowed := true }
def DispatchTurnsUptoSaid : Prop := dispatchTurnsUptoRow.holds Try.pinned (OpenSpec.upto dispatchTurnsSpec)

/-- 'hydrocascadelaw19.DispatchMore', WHERE WHAT IT READS IS OF BULK AT MOST 1048576: true; the input reads as it did. -/
def dispatchMoreUptoRow : OpenClaim := { program := "ytnnfebjdjjbdaaa", sum := "1b6dca8663f793e3b0f290bb930f5a7b2316be28a9bc4e40ee81bd695c348201", func := "hydrocascade/hydrocascadelaw19.DispatchMore", spec := "dispatchMore", unfollowed := true, recurses := true, plainKeys := false, apart := false, narrowed := true }
def DispatchMoreUptoSaid : Prop := dispatchMoreUptoRow.holds Try.pinned (OpenSpec.upto dispatchMoreSpec)

/-- 'hydrocascadelaw22.DamMore', WHERE WHAT IT READS IS OF BULK AT MOST 1048576: true; the input reads as it did. -/
def damMoreUptoRow : OpenClaim := { program := "ytnnfebjdjjbdaaa", sum := "1b6dca8663f793e3b0f290bb930f5a7b2316be28a9bc4e40ee81bd695c348201", func := "hydrocascade/hydrocascadelaw22.DamMore", spec := "damMore", unfollowed := true, recurses := true, plainKeys := false, apart := false, narrowed := true }
def DamMoreUptoSaid : Prop := damMoreUptoRow.holds Try.pinned (OpenSpec.upto damMoreSpec)

/-- 'hydrocascadelaw22.DamObeys', WHERE WHAT IT READS IS OF BULK AT MOST 1048576: true; the input reads as it did. -/
def damObeysUptoRow : OpenClaim := { program := "ytnnfebjdjjbdaaa", sum := "1b6dca8663f793e3b0f290bb930f5a7b2316be28a9bc4e40ee81bd695c348201", func := "hydrocascade/hydrocascadelaw22.DamObeys", spec := "damObeys", unfollowed := true, recurses := true, plainKeys := false, apart := false, narrowed := true }
def DamObeysUptoSaid : Prop := damObeysUptoRow.holds Try.pinned (OpenSpec.upto damObeysSpec)

end Rows
end Go.Proofs.Ytnnfebjdjjbdaaa
