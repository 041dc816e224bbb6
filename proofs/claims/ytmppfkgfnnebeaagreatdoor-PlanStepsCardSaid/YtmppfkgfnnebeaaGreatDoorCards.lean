/-
  DERIVED. GIVEN WITH THE SEED: THE CARDS: each row of YtmppfkgfnnebeaaGreatDoorRows.lean that lists a variable, with what it lists TIED to the program's text (the seventh form; the later family's looks); each row that meets fmt, with fmt's text TOLD by the authors' own Lean function (tested against real Go, not proved from fmt's source: count such statements apart). THE CARD IS WHAT COUNTS. Prove the row's statement (the work); the ties are given (YtmppfkgfnnebeaaGreatDoorTie.lean); close each card by the builder's one call (the guide's Derived/Test/ToyasCard.lean, 'card_holds'). Laid BY PROGRAM, IN A SANDBOX (cutbox-door.mjs). By AI agents, Wed Nov 11 2026. No macro, syntax, notation, axiom, sorry.
-/
import Derived.Test.YtmppfkgfnnebeaaGreatDoorRows
import GoSem.ClaimSeven
namespace Go.Proofs.YtmppfkgfnnebeaaGreatDoor
namespace Rows

/-- THE TIED CARD OF 'hydrocascadelaw39.PlanSteps'. -/
def planStepsCard : Claim7 := { stood := { row := planStepsRow, standIns := [], harness := (true, "59da29f2c6ffbca29241aa5ef2adf240c4e91539583afcd3fb608bd5f01a99f9"), looks := false }, kinds := [], alts := [], laidByText := true, laidKinds := [.data], laidTests := true, laidLooks := .later }
def PlanStepsCardSaid : Prop := Claim7.holds Tryz.pinned (.plain (OpenSpec.ofChange planStepsSpec)) planStepsCard

/-- THE TIED CARD OF 'hydrocascadelaw39.PlanTells'. -/
def planTellsCard : Claim7 := { stood := { row := planTellsRow, standIns := [], harness := (true, "59da29f2c6ffbca29241aa5ef2adf240c4e91539583afcd3fb608bd5f01a99f9"), looks := false }, kinds := [], alts := [], laidByText := true, laidKinds := [.data], laidTests := true, laidLooks := .later }
def PlanTellsCardSaid : Prop := Claim7.holds Tryz.pinned (.plain (OpenSpec.ofChange planTellsSpec)) planTellsCard

/-- THE TIED CARD OF 'hydrocascadelaw39.PlanMakes'. -/
def planMakesCard : Claim7 := { stood := { row := planMakesRow, standIns := [], harness := (true, "59da29f2c6ffbca29241aa5ef2adf240c4e91539583afcd3fb608bd5f01a99f9"), looks := false }, kinds := [], alts := [], laidByText := true, laidKinds := [.data], laidTests := true, laidLooks := .later }
def PlanMakesCardSaid : Prop := Claim7.holds Tryz.pinned (.plain (OpenSpec.ofChange planMakesSpec)) planMakesCard

/-- THE SECOND FORM's CARD OF 'hydrocascadelaw39.PlanSteps'. -/
def planStepsUptoCard : Claim7 := { stood := { row := planStepsUptoRow, standIns := [], harness := (true, "59da29f2c6ffbca29241aa5ef2adf240c4e91539583afcd3fb608bd5f01a99f9"), looks := false }, kinds := [], alts := [], laidByText := true, laidKinds := [.data], laidTests := true, laidLooks := .later }
def PlanStepsUptoCardSaid : Prop := Claim7.holds Tryz.pinned (.plain (OpenSpec.upto planStepsSpec)) planStepsUptoCard

/-- THE SECOND FORM's CARD OF 'hydrocascadelaw39.PlanTells'. -/
def planTellsUptoCard : Claim7 := { stood := { row := planTellsUptoRow, standIns := [], harness := (true, "59da29f2c6ffbca29241aa5ef2adf240c4e91539583afcd3fb608bd5f01a99f9"), looks := false }, kinds := [], alts := [], laidByText := true, laidKinds := [.data], laidTests := true, laidLooks := .later }
def PlanTellsUptoCardSaid : Prop := Claim7.holds Tryz.pinned (.plain (OpenSpec.upto planTellsSpec)) planTellsUptoCard

/-- THE SECOND FORM's CARD OF 'hydrocascadelaw39.PlanMakes'. -/
def planMakesUptoCard : Claim7 := { stood := { row := planMakesUptoRow, standIns := [], harness := (true, "59da29f2c6ffbca29241aa5ef2adf240c4e91539583afcd3fb608bd5f01a99f9"), looks := false }, kinds := [], alts := [], laidByText := true, laidKinds := [.data], laidTests := true, laidLooks := .later }
def PlanMakesUptoCardSaid : Prop := Claim7.holds Tryz.pinned (.plain (OpenSpec.upto planMakesSpec)) planMakesUptoCard
end Rows
end Go.Proofs.YtmppfkgfnnebeaaGreatDoor
