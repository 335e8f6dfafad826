/-
  DERIVED. GIVEN WITH THE SEED: THE CARDS: each row of YtahlcbmmjfdcaaaGreatDoorRows.lean that lists a variable, with what it lists TIED to the program's text (the seventh form; the later family's looks); each row that meets fmt, with fmt's text TOLD by the authors' own Lean function (tested against real Go, not proved from fmt's source: count such statements apart). THE CARD IS WHAT COUNTS. Prove the row's statement (the work); the ties are given (YtahlcbmmjfdcaaaGreatDoorTie.lean); close each card by the builder's one call (the guide's Derived/Test/ToyasCard.lean, 'card_holds'). Laid BY PROGRAM, IN A SANDBOX (cutbox-door.mjs). By AI agents, Wed Nov 11 2026. No macro, syntax, notation, axiom, sorry.
-/
import Derived.Test.YtahlcbmmjfdcaaaGreatDoorRows
import GoSem.ClaimSeven
namespace Go.Proofs.YtahlcbmmjfdcaaaGreatDoor
namespace Rows

/-- THE TIED CARD OF 'portmanteaulaw15.DiskFails'. -/
def diskFailsCard : Claim7 := { stood := { row := diskFailsRow, standIns := [], harness := (true, "c2ec8bae1576e0688896753616c1e0a6cd4462a219c6725a749798279bfcc9aa"), looks := false }, kinds := [], alts := [], laidByText := true, laidKinds := [.data, .pinned], laidTests := true, laidLooks := .later }
def DiskFailsCardSaid : Prop := Claim7.holds Tryz.pinned (.plain (OpenSpec.ofChange diskFailsSpec)) diskFailsCard

/-- THE TIED CARD OF 'portmanteaulaw24.PlanResults'. -/
def planResultsCard : Claim7 := { stood := { row := planResultsRow, standIns := [], harness := (true, "c2ec8bae1576e0688896753616c1e0a6cd4462a219c6725a749798279bfcc9aa"), looks := false }, kinds := [], alts := [], laidByText := true, laidKinds := [.data, .widerDeep, .pinned], laidTests := true, laidLooks := .later }
def PlanResultsCardSaid : Prop := Claim7.holds Tryz.pinned (.plain (OpenSpec.ofChange planResultsSpec)) planResultsCard

/-- THE TIED CARD OF 'portmanteaulaw15.DiskPlays'. -/
def diskPlaysCard : Claim7 := { stood := { row := diskPlaysRow, standIns := [], harness := (true, "c2ec8bae1576e0688896753616c1e0a6cd4462a219c6725a749798279bfcc9aa"), looks := false }, kinds := [], alts := [], laidByText := true, laidKinds := [.data, .pinned], laidTests := true, laidLooks := .later }
def DiskPlaysCardSaid : Prop := Claim7.holds Tryz.pinned (.plain (OpenSpec.ofChange diskPlaysSpec)) diskPlaysCard

/-- THE TIED CARD OF 'portmanteaulaw24.PlanModes'. -/
def planModesCard : Claim7 := { stood := { row := planModesRow, standIns := [], harness := (true, "c2ec8bae1576e0688896753616c1e0a6cd4462a219c6725a749798279bfcc9aa"), looks := false }, kinds := [], alts := [], laidByText := true, laidKinds := [.data, .widerDeep, .pinned], laidTests := true, laidLooks := .later }
def PlanModesCardSaid : Prop := Claim7.holds Tryz.pinned (.plain (OpenSpec.ofChange planModesSpec)) planModesCard

/-- THE TIED CARD OF 'portmanteaulaw24.PlanMakes'. -/
def planMakesCard : Claim7 := { stood := { row := planMakesRow, standIns := [], harness := (true, "c2ec8bae1576e0688896753616c1e0a6cd4462a219c6725a749798279bfcc9aa"), looks := false }, kinds := [], alts := [], laidByText := true, laidKinds := [.data, .widerDeep, .pinned], laidTests := true, laidLooks := .later }
def PlanMakesCardSaid : Prop := Claim7.holds Tryz.pinned (.plain (OpenSpec.ofChange planMakesSpec)) planMakesCard

/-- THE TIED CARD OF 'portmanteaulaw16.TreeReads'. -/
def treeReadsCard : Claim7 := { stood := { row := treeReadsRow, standIns := [], harness := (true, "c2ec8bae1576e0688896753616c1e0a6cd4462a219c6725a749798279bfcc9aa"), looks := false }, kinds := [], alts := [], laidByText := true, laidKinds := [.data, .pinned], laidTests := true, laidLooks := .later }
def TreeReadsCardSaid : Prop := Claim7.holds Tryz.pinned (.plain (OpenSpec.ofChange treeReadsSpec)) treeReadsCard

/-- THE TIED CARD OF 'portmanteaulaw16.TreeDoes'. -/
def treeDoesCard : Claim7 := { stood := { row := treeDoesRow, standIns := [], harness := (true, "c2ec8bae1576e0688896753616c1e0a6cd4462a219c6725a749798279bfcc9aa"), looks := false }, kinds := [], alts := [], laidByText := true, laidKinds := [.data, .pinned], laidTests := true, laidLooks := .later }
def TreeDoesCardSaid : Prop := Claim7.holds Tryz.pinned (.plain (OpenSpec.ofChange treeDoesSpec)) treeDoesCard

/-- THE TIED CARD OF 'portmanteaulaw25.OrderSafe'. -/
def orderSafeCard : Claim7 := { stood := { row := orderSafeRow, standIns := [], harness := (true, "c2ec8bae1576e0688896753616c1e0a6cd4462a219c6725a749798279bfcc9aa"), looks := false }, kinds := [], alts := [], laidByText := true, laidKinds := [.data, .pinned], laidTests := true, laidLooks := .later }
def OrderSafeCardSaid : Prop := Claim7.holds Tryz.pinned (.plain (OpenSpec.ofChange orderSafeSpec)) orderSafeCard

/-- THE TIED CARD OF 'portmanteaulaw16.TreeBack'. -/
def treeBackCard : Claim7 := { stood := { row := treeBackRow, standIns := [], harness := (true, "c2ec8bae1576e0688896753616c1e0a6cd4462a219c6725a749798279bfcc9aa"), looks := false }, kinds := [], alts := [], laidByText := true, laidKinds := [.data, .pinned], laidTests := true, laidLooks := .later }
def TreeBackCardSaid : Prop := Claim7.holds Tryz.pinned (.plain (OpenSpec.ofChange treeBackSpec)) treeBackCard

/-- THE SECOND FORM's CARD OF 'portmanteaulaw15.DiskFails'. -/
def diskFailsUptoCard : Claim7 := { stood := { row := diskFailsUptoRow, standIns := [], harness := (true, "c2ec8bae1576e0688896753616c1e0a6cd4462a219c6725a749798279bfcc9aa"), looks := false }, kinds := [], alts := [], laidByText := true, laidKinds := [.data, .pinned], laidTests := true, laidLooks := .later }
def DiskFailsUptoCardSaid : Prop := Claim7.holds Tryz.pinned (.plain (OpenSpec.upto diskFailsSpec)) diskFailsUptoCard

/-- THE SECOND FORM's CARD OF 'portmanteaulaw24.PlanResults'. -/
def planResultsUptoCard : Claim7 := { stood := { row := planResultsUptoRow, standIns := [], harness := (true, "c2ec8bae1576e0688896753616c1e0a6cd4462a219c6725a749798279bfcc9aa"), looks := false }, kinds := [], alts := [], laidByText := true, laidKinds := [.data, .widerDeep, .pinned], laidTests := true, laidLooks := .later }
def PlanResultsUptoCardSaid : Prop := Claim7.holds Tryz.pinned (.plain (OpenSpec.upto planResultsSpec)) planResultsUptoCard

/-- THE SECOND FORM's CARD OF 'portmanteaulaw15.DiskPlays'. -/
def diskPlaysUptoCard : Claim7 := { stood := { row := diskPlaysUptoRow, standIns := [], harness := (true, "c2ec8bae1576e0688896753616c1e0a6cd4462a219c6725a749798279bfcc9aa"), looks := false }, kinds := [], alts := [], laidByText := true, laidKinds := [.data, .pinned], laidTests := true, laidLooks := .later }
def DiskPlaysUptoCardSaid : Prop := Claim7.holds Tryz.pinned (.plain (OpenSpec.upto diskPlaysSpec)) diskPlaysUptoCard

/-- THE SECOND FORM's CARD OF 'portmanteaulaw24.PlanModes'. -/
def planModesUptoCard : Claim7 := { stood := { row := planModesUptoRow, standIns := [], harness := (true, "c2ec8bae1576e0688896753616c1e0a6cd4462a219c6725a749798279bfcc9aa"), looks := false }, kinds := [], alts := [], laidByText := true, laidKinds := [.data, .widerDeep, .pinned], laidTests := true, laidLooks := .later }
def PlanModesUptoCardSaid : Prop := Claim7.holds Tryz.pinned (.plain (OpenSpec.upto planModesSpec)) planModesUptoCard

/-- THE SECOND FORM's CARD OF 'portmanteaulaw24.PlanMakes'. -/
def planMakesUptoCard : Claim7 := { stood := { row := planMakesUptoRow, standIns := [], harness := (true, "c2ec8bae1576e0688896753616c1e0a6cd4462a219c6725a749798279bfcc9aa"), looks := false }, kinds := [], alts := [], laidByText := true, laidKinds := [.data, .widerDeep, .pinned], laidTests := true, laidLooks := .later }
def PlanMakesUptoCardSaid : Prop := Claim7.holds Tryz.pinned (.plain (OpenSpec.upto planMakesSpec)) planMakesUptoCard

/-- THE SECOND FORM's CARD OF 'portmanteaulaw16.TreeReads'. -/
def treeReadsUptoCard : Claim7 := { stood := { row := treeReadsUptoRow, standIns := [], harness := (true, "c2ec8bae1576e0688896753616c1e0a6cd4462a219c6725a749798279bfcc9aa"), looks := false }, kinds := [], alts := [], laidByText := true, laidKinds := [.data, .pinned], laidTests := true, laidLooks := .later }
def TreeReadsUptoCardSaid : Prop := Claim7.holds Tryz.pinned (.plain (OpenSpec.upto treeReadsSpec)) treeReadsUptoCard

/-- THE SECOND FORM's CARD OF 'portmanteaulaw16.TreeDoes'. -/
def treeDoesUptoCard : Claim7 := { stood := { row := treeDoesUptoRow, standIns := [], harness := (true, "c2ec8bae1576e0688896753616c1e0a6cd4462a219c6725a749798279bfcc9aa"), looks := false }, kinds := [], alts := [], laidByText := true, laidKinds := [.data, .pinned], laidTests := true, laidLooks := .later }
def TreeDoesUptoCardSaid : Prop := Claim7.holds Tryz.pinned (.plain (OpenSpec.upto treeDoesSpec)) treeDoesUptoCard

/-- THE SECOND FORM's CARD OF 'portmanteaulaw25.OrderSafe'. -/
def orderSafeUptoCard : Claim7 := { stood := { row := orderSafeUptoRow, standIns := [], harness := (true, "c2ec8bae1576e0688896753616c1e0a6cd4462a219c6725a749798279bfcc9aa"), looks := false }, kinds := [], alts := [], laidByText := true, laidKinds := [.data, .pinned], laidTests := true, laidLooks := .later }
def OrderSafeUptoCardSaid : Prop := Claim7.holds Tryz.pinned (.plain (OpenSpec.upto orderSafeSpec)) orderSafeUptoCard

/-- THE SECOND FORM's CARD OF 'portmanteaulaw16.TreeBack'. -/
def treeBackUptoCard : Claim7 := { stood := { row := treeBackUptoRow, standIns := [], harness := (true, "c2ec8bae1576e0688896753616c1e0a6cd4462a219c6725a749798279bfcc9aa"), looks := false }, kinds := [], alts := [], laidByText := true, laidKinds := [.data, .pinned], laidTests := true, laidLooks := .later }
def TreeBackUptoCardSaid : Prop := Claim7.holds Tryz.pinned (.plain (OpenSpec.upto treeBackSpec)) treeBackUptoCard
end Rows
end Go.Proofs.YtahlcbmmjfdcaaaGreatDoor
