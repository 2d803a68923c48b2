/-
  DERIVED. GIVEN WITH THE SEED: THE CARDS: each row of YtfebiipggcgmdaaGreatDoorRows.lean that lists a variable, with what it lists TIED to the program's text (the seventh form; the later family's looks); each row that meets fmt, with fmt's text TOLD by the authors' own Lean function (tested against real Go, not proved from fmt's source: count such statements apart). THE CARD IS WHAT COUNTS. Prove the row's statement (the work); the ties are given (YtfebiipggcgmdaaGreatDoorTie.lean); close each card by the builder's one call (the guide's Derived/Test/ToyasCard.lean, 'card_holds'). Laid BY PROGRAM, IN A SANDBOX (cutbox-door.mjs). By AI agents, Wed Nov 11 2026. No macro, syntax, notation, axiom, sorry.
-/
import Derived.Test.YtfebiipggcgmdaaGreatDoorRows
import GoSem.ClaimSeven
namespace Go.Proofs.YtfebiipggcgmdaaGreatDoor
namespace Rows

/-- THE TIED CARD OF 'metrolablaw54.PlanAccepts'. -/
def planAcceptsCard : Claim7 := { stood := { row := planAcceptsRow, standIns := [], harness := (true, "7d665404a96608077a4272bab32fb194c30f16ae625769886dde9a96bd71e76d"), looks := true }, kinds := [], alts := [], laidByText := true, laidKinds := [.data, .data, .data, .data, .sentinel, .sentinel, .pinned], laidTests := true, laidLooks := .later }
def PlanAcceptsCardSaid : Prop := Claim7.holds Tryz.pinned (.plain (OpenSpec.ofChange planAcceptsSpec)) planAcceptsCard

/-- THE TIED CARD OF 'metrolablaw54.PlanChooses'. -/
def planChoosesCard : Claim7 := { stood := { row := planChoosesRow, standIns := [], harness := (true, "7d665404a96608077a4272bab32fb194c30f16ae625769886dde9a96bd71e76d"), looks := true }, kinds := [], alts := [], laidByText := true, laidKinds := [.data, .data, .data, .data, .sentinel, .sentinel, .pinned], laidTests := true, laidLooks := .later }
def PlanChoosesCardSaid : Prop := Claim7.holds Tryz.pinned (.plain (OpenSpec.ofChange planChoosesSpec)) planChoosesCard

/-- THE TIED CARD OF 'metrolablaw54.PlanOpposites'. -/
def planOppositesCard : Claim7 := { stood := { row := planOppositesRow, standIns := [], harness := (true, "7d665404a96608077a4272bab32fb194c30f16ae625769886dde9a96bd71e76d"), looks := true }, kinds := [], alts := [], laidByText := true, laidKinds := [.data, .data, .data, .data, .sentinel, .sentinel, .pinned], laidTests := true, laidLooks := .later }
def PlanOppositesCardSaid : Prop := Claim7.holds Tryz.pinned (.plain (OpenSpec.ofChange planOppositesSpec)) planOppositesCard

/-- THE TIED CARD OF 'metrolablaw54.PlanProcesses'. -/
def planProcessesCard : Claim7 := { stood := { row := planProcessesRow, standIns := [], harness := (true, "7d665404a96608077a4272bab32fb194c30f16ae625769886dde9a96bd71e76d"), looks := true }, kinds := [], alts := [], laidByText := true, laidKinds := [.data, .data, .data, .data, .sentinel, .sentinel, .pinned], laidTests := true, laidLooks := .later }
def PlanProcessesCardSaid : Prop := Claim7.holds Tryz.pinned (.plain (OpenSpec.ofChange planProcessesSpec)) planProcessesCard

/-- THE TIED CARD OF 'metrolablaw54.PlanFalls'. -/
def planFallsCard : Claim7 := { stood := { row := planFallsRow, standIns := [], harness := (true, "7d665404a96608077a4272bab32fb194c30f16ae625769886dde9a96bd71e76d"), looks := true }, kinds := [], alts := [], laidByText := true, laidKinds := [.data, .data, .data, .data, .sentinel, .sentinel, .pinned], laidTests := true, laidLooks := .later }
def PlanFallsCardSaid : Prop := Claim7.holds Tryz.pinned (.plain (OpenSpec.ofChange planFallsSpec)) planFallsCard

/-- THE TIED CARD OF 'metrolablaw54.PlanMixes'. -/
def planMixesCard : Claim7 := { stood := { row := planMixesRow, standIns := [], harness := (true, "7d665404a96608077a4272bab32fb194c30f16ae625769886dde9a96bd71e76d"), looks := true }, kinds := [], alts := [], laidByText := true, laidKinds := [.data, .data, .data, .data, .sentinel, .sentinel, .pinned], laidTests := true, laidLooks := .later }
def PlanMixesCardSaid : Prop := Claim7.holds Tryz.pinned (.plain (OpenSpec.ofChange planMixesSpec)) planMixesCard

/-- THE TIED CARD OF 'metrolablaw54.PlanLeaves'. -/
def planLeavesCard : Claim7 := { stood := { row := planLeavesRow, standIns := [], harness := (true, "7d665404a96608077a4272bab32fb194c30f16ae625769886dde9a96bd71e76d"), looks := true }, kinds := [], alts := [], laidByText := true, laidKinds := [.data, .data, .data, .data, .sentinel, .sentinel, .pinned], laidTests := true, laidLooks := .later }
def PlanLeavesCardSaid : Prop := Claim7.holds Tryz.pinned (.plain (OpenSpec.ofChange planLeavesSpec)) planLeavesCard

/-- THE TIED CARD OF 'metrolablaw54.PlanCurves'. -/
def planCurvesCard : Claim7 := { stood := { row := planCurvesRow, standIns := [], harness := (true, "7d665404a96608077a4272bab32fb194c30f16ae625769886dde9a96bd71e76d"), looks := true }, kinds := [], alts := [], laidByText := true, laidKinds := [.data, .data, .data, .data, .sentinel, .sentinel, .pinned], laidTests := true, laidLooks := .later }
def PlanCurvesCardSaid : Prop := Claim7.holds Tryz.pinned (.plain (OpenSpec.ofChange planCurvesSpec)) planCurvesCard

/-- THE SECOND FORM's CARD OF 'metrolablaw54.PlanAccepts'. -/
def planAcceptsUptoCard : Claim7 := { stood := { row := planAcceptsUptoRow, standIns := [], harness := (true, "7d665404a96608077a4272bab32fb194c30f16ae625769886dde9a96bd71e76d"), looks := true }, kinds := [], alts := [], laidByText := true, laidKinds := [.data, .data, .data, .data, .sentinel, .sentinel, .pinned], laidTests := true, laidLooks := .later }
def PlanAcceptsUptoCardSaid : Prop := Claim7.holds Tryz.pinned (.plain (OpenSpec.upto planAcceptsSpec)) planAcceptsUptoCard

/-- THE SECOND FORM's CARD OF 'metrolablaw54.PlanChooses'. -/
def planChoosesUptoCard : Claim7 := { stood := { row := planChoosesUptoRow, standIns := [], harness := (true, "7d665404a96608077a4272bab32fb194c30f16ae625769886dde9a96bd71e76d"), looks := true }, kinds := [], alts := [], laidByText := true, laidKinds := [.data, .data, .data, .data, .sentinel, .sentinel, .pinned], laidTests := true, laidLooks := .later }
def PlanChoosesUptoCardSaid : Prop := Claim7.holds Tryz.pinned (.plain (OpenSpec.upto planChoosesSpec)) planChoosesUptoCard

/-- THE SECOND FORM's CARD OF 'metrolablaw54.PlanOpposites'. -/
def planOppositesUptoCard : Claim7 := { stood := { row := planOppositesUptoRow, standIns := [], harness := (true, "7d665404a96608077a4272bab32fb194c30f16ae625769886dde9a96bd71e76d"), looks := true }, kinds := [], alts := [], laidByText := true, laidKinds := [.data, .data, .data, .data, .sentinel, .sentinel, .pinned], laidTests := true, laidLooks := .later }
def PlanOppositesUptoCardSaid : Prop := Claim7.holds Tryz.pinned (.plain (OpenSpec.upto planOppositesSpec)) planOppositesUptoCard

/-- THE SECOND FORM's CARD OF 'metrolablaw54.PlanProcesses'. -/
def planProcessesUptoCard : Claim7 := { stood := { row := planProcessesUptoRow, standIns := [], harness := (true, "7d665404a96608077a4272bab32fb194c30f16ae625769886dde9a96bd71e76d"), looks := true }, kinds := [], alts := [], laidByText := true, laidKinds := [.data, .data, .data, .data, .sentinel, .sentinel, .pinned], laidTests := true, laidLooks := .later }
def PlanProcessesUptoCardSaid : Prop := Claim7.holds Tryz.pinned (.plain (OpenSpec.upto planProcessesSpec)) planProcessesUptoCard

/-- THE SECOND FORM's CARD OF 'metrolablaw54.PlanFalls'. -/
def planFallsUptoCard : Claim7 := { stood := { row := planFallsUptoRow, standIns := [], harness := (true, "7d665404a96608077a4272bab32fb194c30f16ae625769886dde9a96bd71e76d"), looks := true }, kinds := [], alts := [], laidByText := true, laidKinds := [.data, .data, .data, .data, .sentinel, .sentinel, .pinned], laidTests := true, laidLooks := .later }
def PlanFallsUptoCardSaid : Prop := Claim7.holds Tryz.pinned (.plain (OpenSpec.upto planFallsSpec)) planFallsUptoCard

/-- THE SECOND FORM's CARD OF 'metrolablaw54.PlanMixes'. -/
def planMixesUptoCard : Claim7 := { stood := { row := planMixesUptoRow, standIns := [], harness := (true, "7d665404a96608077a4272bab32fb194c30f16ae625769886dde9a96bd71e76d"), looks := true }, kinds := [], alts := [], laidByText := true, laidKinds := [.data, .data, .data, .data, .sentinel, .sentinel, .pinned], laidTests := true, laidLooks := .later }
def PlanMixesUptoCardSaid : Prop := Claim7.holds Tryz.pinned (.plain (OpenSpec.upto planMixesSpec)) planMixesUptoCard

/-- THE SECOND FORM's CARD OF 'metrolablaw54.PlanLeaves'. -/
def planLeavesUptoCard : Claim7 := { stood := { row := planLeavesUptoRow, standIns := [], harness := (true, "7d665404a96608077a4272bab32fb194c30f16ae625769886dde9a96bd71e76d"), looks := true }, kinds := [], alts := [], laidByText := true, laidKinds := [.data, .data, .data, .data, .sentinel, .sentinel, .pinned], laidTests := true, laidLooks := .later }
def PlanLeavesUptoCardSaid : Prop := Claim7.holds Tryz.pinned (.plain (OpenSpec.upto planLeavesSpec)) planLeavesUptoCard

/-- THE SECOND FORM's CARD OF 'metrolablaw54.PlanCurves'. -/
def planCurvesUptoCard : Claim7 := { stood := { row := planCurvesUptoRow, standIns := [], harness := (true, "7d665404a96608077a4272bab32fb194c30f16ae625769886dde9a96bd71e76d"), looks := true }, kinds := [], alts := [], laidByText := true, laidKinds := [.data, .data, .data, .data, .sentinel, .sentinel, .pinned], laidTests := true, laidLooks := .later }
def PlanCurvesUptoCardSaid : Prop := Claim7.holds Tryz.pinned (.plain (OpenSpec.upto planCurvesSpec)) planCurvesUptoCard
end Rows
end Go.Proofs.YtfebiipggcgmdaaGreatDoor
