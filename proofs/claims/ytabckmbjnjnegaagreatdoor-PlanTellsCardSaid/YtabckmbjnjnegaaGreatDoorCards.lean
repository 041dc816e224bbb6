/-
  DERIVED. GIVEN WITH THE SEED: THE CARDS: each row of YtabckmbjnjnegaaGreatDoorRows.lean that lists a variable, with what it lists TIED to the program's text (the seventh form; the later family's looks); each row that meets fmt, with fmt's text TOLD by the authors' own Lean function (tested against real Go, not proved from fmt's source: count such statements apart). THE CARD IS WHAT COUNTS. Prove the row's statement (the work); the ties are given (YtabckmbjnjnegaaGreatDoorTie.lean); close each card by the builder's one call (the guide's Derived/Test/ToyasCard.lean, 'card_holds'). Laid BY PROGRAM, IN A SANDBOX (cutbox-door.mjs). By AI agents, Wed Nov 11 2026. No macro, syntax, notation, axiom, sorry.
-/
import Derived.Test.YtabckmbjnjnegaaGreatDoorRows
import GoSem.ClaimSeven
namespace Go.Proofs.YtabckmbjnjnegaaGreatDoor
namespace Rows

/-- THE TIED CARD OF 'hydrocascadelaw39.PlanTells'. -/
def planTellsCard : Claim7 := { stood := { row := planTellsRow, standIns := [], harness := (true, "dd6b12b2ee8fd643259cec5877569752bc769669536f23a7e93f03e29399c94d"), looks := false }, kinds := [], alts := [], laidByText := true, laidKinds := [.data], laidTests := true, laidLooks := .later }
def PlanTellsCardSaid : Prop := Claim7.holds Tryz.pinned (.plain (OpenSpec.ofChange planTellsSpec)) planTellsCard

/-- THE SECOND FORM's CARD OF 'hydrocascadelaw39.PlanTells'. -/
def planTellsUptoCard : Claim7 := { stood := { row := planTellsUptoRow, standIns := [], harness := (true, "dd6b12b2ee8fd643259cec5877569752bc769669536f23a7e93f03e29399c94d"), looks := false }, kinds := [], alts := [], laidByText := true, laidKinds := [.data], laidTests := true, laidLooks := .later }
def PlanTellsUptoCardSaid : Prop := Claim7.holds Tryz.pinned (.plain (OpenSpec.upto planTellsSpec)) planTellsUptoCard
end Rows
end Go.Proofs.YtabckmbjnjnegaaGreatDoor
