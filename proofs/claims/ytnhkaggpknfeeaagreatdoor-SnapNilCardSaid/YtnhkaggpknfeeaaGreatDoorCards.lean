/-
  DERIVED. GIVEN WITH THE SEED: THE CARDS: each row of YtnhkaggpknfeeaaGreatDoorRows.lean that lists a variable, with what it lists TIED to the program's text (the seventh form; the later family's looks); each row that meets fmt, with fmt's text TOLD by the authors' own Lean function (tested against real Go, not proved from fmt's source: count such statements apart). THE CARD IS WHAT COUNTS. Prove the row's statement (the work); the ties are given (YtnhkaggpknfeeaaGreatDoorTie.lean); close each card by the builder's one call (the guide's Derived/Test/ToyasCard.lean, 'card_holds'). Laid BY PROGRAM, IN A SANDBOX (cutbox-door.mjs). By AI agents, Wed Nov 11 2026. No macro, syntax, notation, axiom, sorry.
-/
import Derived.Test.YtnhkaggpknfeeaaGreatDoorRows
import GoSem.ClaimSeven
namespace Go.Proofs.YtnhkaggpknfeeaaGreatDoor
namespace Rows

/-- THE TIED CARD OF 'earshotlaw23.ExecSets'. -/
def execSetsCard : Claim7 := { stood := { row := execSetsRow, standIns := [], harness := (true, "749aa3d1a5a9552d828ae2035a22a67d57db4e4167211d11e27e7e5deabb5073"), looks := false }, kinds := [], alts := [], laidByText := true, laidKinds := [.data], laidTests := true, laidLooks := .later }
def ExecSetsCardSaid : Prop := Claim7.holds Tryz.pinned (.plain (OpenSpec.ofChange execSetsSpec)) execSetsCard

/-- THE TIED CARD OF 'earshotlaw22.PlanMakes'. -/
def planMakesCard : Claim7 := { stood := { row := planMakesRow, standIns := [], harness := (true, "749aa3d1a5a9552d828ae2035a22a67d57db4e4167211d11e27e7e5deabb5073"), looks := false }, kinds := [], alts := [], laidByText := true, laidKinds := [.data], laidTests := true, laidLooks := .later }
def PlanMakesCardSaid : Prop := Claim7.holds Tryz.pinned (.plain (OpenSpec.ofChange planMakesSpec)) planMakesCard

/-- THE TIED CARD OF 'earshotlaw22.PlanKeeps'. -/
def planKeepsCard : Claim7 := { stood := { row := planKeepsRow, standIns := [], harness := (true, "749aa3d1a5a9552d828ae2035a22a67d57db4e4167211d11e27e7e5deabb5073"), looks := false }, kinds := [], alts := [], laidByText := true, laidKinds := [.data], laidTests := true, laidLooks := .later }
def PlanKeepsCardSaid : Prop := Claim7.holds Tryz.pinned (.plain (OpenSpec.ofChange planKeepsSpec)) planKeepsCard

/-- THE TIED CARD OF 'earshotlaw22.PlanApart'. -/
def planApartCard : Claim7 := { stood := { row := planApartRow, standIns := [], harness := (true, "749aa3d1a5a9552d828ae2035a22a67d57db4e4167211d11e27e7e5deabb5073"), looks := false }, kinds := [], alts := [], laidByText := true, laidKinds := [.data], laidTests := true, laidLooks := .later }
def PlanApartCardSaid : Prop := Claim7.holds Tryz.pinned (.plain (OpenSpec.ofChange planApartSpec)) planApartCard

/-- THE TIED CARD OF 'earshotlaw23.ExecMoves'. -/
def execMovesCard : Claim7 := { stood := { row := execMovesRow, standIns := [], harness := (true, "749aa3d1a5a9552d828ae2035a22a67d57db4e4167211d11e27e7e5deabb5073"), looks := false }, kinds := [], alts := [], laidByText := true, laidKinds := [.data], laidTests := true, laidLooks := .later }
def ExecMovesCardSaid : Prop := Claim7.holds Tryz.pinned (.plain (OpenSpec.ofChange execMovesSpec)) execMovesCard

/-- THE TIED CARD OF 'earshotlaw23.ExecNil'. -/
def execNilCard : Claim7 := { stood := { row := execNilRow, standIns := [], harness := (true, "749aa3d1a5a9552d828ae2035a22a67d57db4e4167211d11e27e7e5deabb5073"), looks := false }, kinds := [], alts := [], laidByText := true, laidKinds := [.data], laidTests := true, laidLooks := .later }
def ExecNilCardSaid : Prop := Claim7.holds Tryz.pinned (.plain (OpenSpec.ofChange execNilSpec)) execNilCard

/-- THE TIED CARD OF 'earshotlaw22.PlanTotal'. -/
def planTotalCard : Claim7 := { stood := { row := planTotalRow, standIns := [], harness := (true, "749aa3d1a5a9552d828ae2035a22a67d57db4e4167211d11e27e7e5deabb5073"), looks := false }, kinds := [], alts := [], laidByText := true, laidKinds := [.data], laidTests := true, laidLooks := .later }
def PlanTotalCardSaid : Prop := Claim7.holds Tryz.pinned (.plain (OpenSpec.ofChange planTotalSpec)) planTotalCard

/-- THE TIED CARD OF 'earshotlaw22.PlanRight'. -/
def planRightCard : Claim7 := { stood := { row := planRightRow, standIns := [], harness := (true, "749aa3d1a5a9552d828ae2035a22a67d57db4e4167211d11e27e7e5deabb5073"), looks := false }, kinds := [], alts := [], laidByText := true, laidKinds := [.data], laidTests := true, laidLooks := .later }
def PlanRightCardSaid : Prop := Claim7.holds Tryz.pinned (.plain (OpenSpec.ofChange planRightSpec)) planRightCard

/-- THE TIED CARD OF 'earshotlaw24.SnapNil'. -/
def snapNilCard : Claim7 := { stood := { row := snapNilRow, standIns := [], harness := (true, "749aa3d1a5a9552d828ae2035a22a67d57db4e4167211d11e27e7e5deabb5073"), looks := false }, kinds := [], alts := [], laidByText := true, laidKinds := [.data], laidTests := true, laidLooks := .later }
def SnapNilCardSaid : Prop := Claim7.holds Tryz.pinned (.plain (OpenSpec.ofChange snapNilSpec)) snapNilCard

/-- THE TIED CARD OF 'earshotlaw24.SnapTells'. -/
def snapTellsCard : Claim7 := { stood := { row := snapTellsRow, standIns := [], harness := (true, "749aa3d1a5a9552d828ae2035a22a67d57db4e4167211d11e27e7e5deabb5073"), looks := false }, kinds := [], alts := [], laidByText := true, laidKinds := [.data], laidTests := true, laidLooks := .later }
def SnapTellsCardSaid : Prop := Claim7.holds Tryz.pinned (.plain (OpenSpec.ofChange snapTellsSpec)) snapTellsCard

/-- THE TIED CARD OF 'earshotlaw24.SnapBurst'. -/
def snapBurstCard : Claim7 := { stood := { row := snapBurstRow, standIns := [], harness := (true, "749aa3d1a5a9552d828ae2035a22a67d57db4e4167211d11e27e7e5deabb5073"), looks := false }, kinds := [], alts := [], laidByText := true, laidKinds := [.data], laidTests := true, laidLooks := .later }
def SnapBurstCardSaid : Prop := Claim7.holds Tryz.pinned (.plain (OpenSpec.ofChange snapBurstSpec)) snapBurstCard

/-- THE TIED CARD OF 'earshotlaw24.SnapCut'. -/
def snapCutCard : Claim7 := { stood := { row := snapCutRow, standIns := [], harness := (true, "749aa3d1a5a9552d828ae2035a22a67d57db4e4167211d11e27e7e5deabb5073"), looks := false }, kinds := [], alts := [], laidByText := true, laidKinds := [.data], laidTests := true, laidLooks := .later }
def SnapCutCardSaid : Prop := Claim7.holds Tryz.pinned (.plain (OpenSpec.ofChange snapCutSpec)) snapCutCard

/-- THE TIED CARD OF 'earshotlaw24.SnapPlan'. -/
def snapPlanCard : Claim7 := { stood := { row := snapPlanRow, standIns := [], harness := (true, "749aa3d1a5a9552d828ae2035a22a67d57db4e4167211d11e27e7e5deabb5073"), looks := false }, kinds := [], alts := [], laidByText := true, laidKinds := [.data], laidTests := true, laidLooks := .later }
def SnapPlanCardSaid : Prop := Claim7.holds Tryz.pinned (.plain (OpenSpec.ofChange snapPlanSpec)) snapPlanCard

/-- THE TIED CARD OF 'earshotlaw24.SnapBack'. -/
def snapBackCard : Claim7 := { stood := { row := snapBackRow, standIns := [], harness := (true, "749aa3d1a5a9552d828ae2035a22a67d57db4e4167211d11e27e7e5deabb5073"), looks := false }, kinds := [], alts := [], laidByText := true, laidKinds := [.data], laidTests := true, laidLooks := .later }
def SnapBackCardSaid : Prop := Claim7.holds Tryz.pinned (.plain (OpenSpec.ofChange snapBackSpec)) snapBackCard

/-- THE SECOND FORM's CARD OF 'earshotlaw23.ExecSets'. -/
def execSetsUptoCard : Claim7 := { stood := { row := execSetsUptoRow, standIns := [], harness := (true, "749aa3d1a5a9552d828ae2035a22a67d57db4e4167211d11e27e7e5deabb5073"), looks := false }, kinds := [], alts := [], laidByText := true, laidKinds := [.data], laidTests := true, laidLooks := .later }
def ExecSetsUptoCardSaid : Prop := Claim7.holds Tryz.pinned (.plain (OpenSpec.upto execSetsSpec)) execSetsUptoCard

/-- THE SECOND FORM's CARD OF 'earshotlaw22.PlanMakes'. -/
def planMakesUptoCard : Claim7 := { stood := { row := planMakesUptoRow, standIns := [], harness := (true, "749aa3d1a5a9552d828ae2035a22a67d57db4e4167211d11e27e7e5deabb5073"), looks := false }, kinds := [], alts := [], laidByText := true, laidKinds := [.data], laidTests := true, laidLooks := .later }
def PlanMakesUptoCardSaid : Prop := Claim7.holds Tryz.pinned (.plain (OpenSpec.upto planMakesSpec)) planMakesUptoCard

/-- THE SECOND FORM's CARD OF 'earshotlaw22.PlanKeeps'. -/
def planKeepsUptoCard : Claim7 := { stood := { row := planKeepsUptoRow, standIns := [], harness := (true, "749aa3d1a5a9552d828ae2035a22a67d57db4e4167211d11e27e7e5deabb5073"), looks := false }, kinds := [], alts := [], laidByText := true, laidKinds := [.data], laidTests := true, laidLooks := .later }
def PlanKeepsUptoCardSaid : Prop := Claim7.holds Tryz.pinned (.plain (OpenSpec.upto planKeepsSpec)) planKeepsUptoCard

/-- THE SECOND FORM's CARD OF 'earshotlaw22.PlanApart'. -/
def planApartUptoCard : Claim7 := { stood := { row := planApartUptoRow, standIns := [], harness := (true, "749aa3d1a5a9552d828ae2035a22a67d57db4e4167211d11e27e7e5deabb5073"), looks := false }, kinds := [], alts := [], laidByText := true, laidKinds := [.data], laidTests := true, laidLooks := .later }
def PlanApartUptoCardSaid : Prop := Claim7.holds Tryz.pinned (.plain (OpenSpec.upto planApartSpec)) planApartUptoCard

/-- THE SECOND FORM's CARD OF 'earshotlaw23.ExecMoves'. -/
def execMovesUptoCard : Claim7 := { stood := { row := execMovesUptoRow, standIns := [], harness := (true, "749aa3d1a5a9552d828ae2035a22a67d57db4e4167211d11e27e7e5deabb5073"), looks := false }, kinds := [], alts := [], laidByText := true, laidKinds := [.data], laidTests := true, laidLooks := .later }
def ExecMovesUptoCardSaid : Prop := Claim7.holds Tryz.pinned (.plain (OpenSpec.upto execMovesSpec)) execMovesUptoCard

/-- THE SECOND FORM's CARD OF 'earshotlaw23.ExecNil'. -/
def execNilUptoCard : Claim7 := { stood := { row := execNilUptoRow, standIns := [], harness := (true, "749aa3d1a5a9552d828ae2035a22a67d57db4e4167211d11e27e7e5deabb5073"), looks := false }, kinds := [], alts := [], laidByText := true, laidKinds := [.data], laidTests := true, laidLooks := .later }
def ExecNilUptoCardSaid : Prop := Claim7.holds Tryz.pinned (.plain (OpenSpec.upto execNilSpec)) execNilUptoCard

/-- THE SECOND FORM's CARD OF 'earshotlaw22.PlanTotal'. -/
def planTotalUptoCard : Claim7 := { stood := { row := planTotalUptoRow, standIns := [], harness := (true, "749aa3d1a5a9552d828ae2035a22a67d57db4e4167211d11e27e7e5deabb5073"), looks := false }, kinds := [], alts := [], laidByText := true, laidKinds := [.data], laidTests := true, laidLooks := .later }
def PlanTotalUptoCardSaid : Prop := Claim7.holds Tryz.pinned (.plain (OpenSpec.upto planTotalSpec)) planTotalUptoCard

/-- THE SECOND FORM's CARD OF 'earshotlaw22.PlanRight'. -/
def planRightUptoCard : Claim7 := { stood := { row := planRightUptoRow, standIns := [], harness := (true, "749aa3d1a5a9552d828ae2035a22a67d57db4e4167211d11e27e7e5deabb5073"), looks := false }, kinds := [], alts := [], laidByText := true, laidKinds := [.data], laidTests := true, laidLooks := .later }
def PlanRightUptoCardSaid : Prop := Claim7.holds Tryz.pinned (.plain (OpenSpec.upto planRightSpec)) planRightUptoCard

/-- THE SECOND FORM's CARD OF 'earshotlaw24.SnapNil'. -/
def snapNilUptoCard : Claim7 := { stood := { row := snapNilUptoRow, standIns := [], harness := (true, "749aa3d1a5a9552d828ae2035a22a67d57db4e4167211d11e27e7e5deabb5073"), looks := false }, kinds := [], alts := [], laidByText := true, laidKinds := [.data], laidTests := true, laidLooks := .later }
def SnapNilUptoCardSaid : Prop := Claim7.holds Tryz.pinned (.plain (OpenSpec.upto snapNilSpec)) snapNilUptoCard

/-- THE SECOND FORM's CARD OF 'earshotlaw24.SnapTells'. -/
def snapTellsUptoCard : Claim7 := { stood := { row := snapTellsUptoRow, standIns := [], harness := (true, "749aa3d1a5a9552d828ae2035a22a67d57db4e4167211d11e27e7e5deabb5073"), looks := false }, kinds := [], alts := [], laidByText := true, laidKinds := [.data], laidTests := true, laidLooks := .later }
def SnapTellsUptoCardSaid : Prop := Claim7.holds Tryz.pinned (.plain (OpenSpec.upto snapTellsSpec)) snapTellsUptoCard

/-- THE SECOND FORM's CARD OF 'earshotlaw24.SnapBurst'. -/
def snapBurstUptoCard : Claim7 := { stood := { row := snapBurstUptoRow, standIns := [], harness := (true, "749aa3d1a5a9552d828ae2035a22a67d57db4e4167211d11e27e7e5deabb5073"), looks := false }, kinds := [], alts := [], laidByText := true, laidKinds := [.data], laidTests := true, laidLooks := .later }
def SnapBurstUptoCardSaid : Prop := Claim7.holds Tryz.pinned (.plain (OpenSpec.upto snapBurstSpec)) snapBurstUptoCard

/-- THE SECOND FORM's CARD OF 'earshotlaw24.SnapCut'. -/
def snapCutUptoCard : Claim7 := { stood := { row := snapCutUptoRow, standIns := [], harness := (true, "749aa3d1a5a9552d828ae2035a22a67d57db4e4167211d11e27e7e5deabb5073"), looks := false }, kinds := [], alts := [], laidByText := true, laidKinds := [.data], laidTests := true, laidLooks := .later }
def SnapCutUptoCardSaid : Prop := Claim7.holds Tryz.pinned (.plain (OpenSpec.upto snapCutSpec)) snapCutUptoCard

/-- THE SECOND FORM's CARD OF 'earshotlaw24.SnapPlan'. -/
def snapPlanUptoCard : Claim7 := { stood := { row := snapPlanUptoRow, standIns := [], harness := (true, "749aa3d1a5a9552d828ae2035a22a67d57db4e4167211d11e27e7e5deabb5073"), looks := false }, kinds := [], alts := [], laidByText := true, laidKinds := [.data], laidTests := true, laidLooks := .later }
def SnapPlanUptoCardSaid : Prop := Claim7.holds Tryz.pinned (.plain (OpenSpec.upto snapPlanSpec)) snapPlanUptoCard

/-- THE SECOND FORM's CARD OF 'earshotlaw24.SnapBack'. -/
def snapBackUptoCard : Claim7 := { stood := { row := snapBackUptoRow, standIns := [], harness := (true, "749aa3d1a5a9552d828ae2035a22a67d57db4e4167211d11e27e7e5deabb5073"), looks := false }, kinds := [], alts := [], laidByText := true, laidKinds := [.data], laidTests := true, laidLooks := .later }
def SnapBackUptoCardSaid : Prop := Claim7.holds Tryz.pinned (.plain (OpenSpec.upto snapBackSpec)) snapBackUptoCard
end Rows
end Go.Proofs.YtnhkaggpknfeeaaGreatDoor
