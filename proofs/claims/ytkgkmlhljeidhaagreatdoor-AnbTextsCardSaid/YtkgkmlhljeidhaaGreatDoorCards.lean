/-
  DERIVED. GIVEN WITH THE SEED: THE CARDS: each row of YtkgkmlhljeidhaaGreatDoorRows.lean that lists a variable, with what it lists TIED to the program's text (the seventh form; the later family's looks); each row that meets fmt, with fmt's text TOLD by the authors' own Lean function (tested against real Go, not proved from fmt's source: count such statements apart). THE CARD IS WHAT COUNTS. Prove the row's statement (the work); the ties are given (YtkgkmlhljeidhaaGreatDoorTie.lean); close each card by the builder's one call (the guide's Derived/Test/ToyasCard.lean, 'card_holds'). Laid BY PROGRAM, IN A SANDBOX (cutbox-door.mjs). By AI agents, Wed Nov 11 2026. No macro, syntax, notation, axiom, sorry.
-/
import Derived.Test.YtkgkmlhljeidhaaGreatDoorRows
import GoSem.ClaimSeven
namespace Go.Proofs.YtkgkmlhljeidhaaGreatDoor
namespace Rows

/-- THE TIED CARD OF 'wattlelaw04.AnbHas'. -/
def anbHasCard : Claim7 := { stood := { row := anbHasRow, standIns := [], harness := (true, "2d082d8521c051c23f6de7ddab7646ea44c31f57293816442977c60991dd8cf7"), looks := true }, kinds := [], alts := [], laidByText := true, laidKinds := [.data, .pinned], laidTests := true, laidLooks := .later }
def AnbHasCardSaid : Prop := Claim7.holds Tryz.pinned (.plain (OpenSpec.ofChange anbHasSpec)) anbHasCard

/-- THE TIED CARD OF 'wattlelaw04.AnbCases'. -/
def anbCasesCard : Claim7 := { stood := { row := anbCasesRow, standIns := [], harness := (true, "2d082d8521c051c23f6de7ddab7646ea44c31f57293816442977c60991dd8cf7"), looks := true }, kinds := [], alts := [], laidByText := true, laidKinds := [.data, .pinned], laidTests := true, laidLooks := .later }
def AnbCasesCardSaid : Prop := Claim7.holds Tryz.pinned (.plain (OpenSpec.ofChange anbCasesSpec)) anbCasesCard

/-- THE TIED CARD OF 'wattlelaw04.AnbWhole'. -/
def anbWholeCard : Claim7 := { stood := { row := anbWholeRow, standIns := [], harness := (true, "2d082d8521c051c23f6de7ddab7646ea44c31f57293816442977c60991dd8cf7"), looks := true }, kinds := [], alts := [], laidByText := true, laidKinds := [.data, .pinned], laidTests := true, laidLooks := .later }
def AnbWholeCardSaid : Prop := Claim7.holds Tryz.pinned (.plain (OpenSpec.ofChange anbWholeSpec)) anbWholeCard

/-- THE TIED CARD OF 'wattlelaw04.AnbReads'. -/
def anbReadsCard : Claim7 := { stood := { row := anbReadsRow, standIns := [], harness := (true, "2d082d8521c051c23f6de7ddab7646ea44c31f57293816442977c60991dd8cf7"), looks := true }, kinds := [], alts := [], laidByText := true, laidKinds := [.data, .handle, .pinned], laidTests := true, laidLooks := .later }
def AnbReadsCardSaid : Prop := Claim7.holds Tryz.pinned (.plain (OpenSpec.ofChange anbReadsSpec)) anbReadsCard

/-- THE TIED CARD OF 'wattlelaw04.AnbWholes'. -/
def anbWholesCard : Claim7 := { stood := { row := anbWholesRow, standIns := [], harness := (true, "2d082d8521c051c23f6de7ddab7646ea44c31f57293816442977c60991dd8cf7"), looks := true }, kinds := [], alts := [], laidByText := true, laidKinds := [.data, .handle, .pinned], laidTests := true, laidLooks := .later }
def AnbWholesCardSaid : Prop := Claim7.holds Tryz.pinned (.plain (OpenSpec.ofChange anbWholesSpec)) anbWholesCard

/-- THE TIED CARD OF 'wattlelaw04.AnbTexts'. -/
def anbTextsCard : Claim7 := { stood := { row := anbTextsRow, standIns := [], harness := (true, "2d082d8521c051c23f6de7ddab7646ea44c31f57293816442977c60991dd8cf7"), looks := true }, kinds := [], alts := [], laidByText := true, laidKinds := [.data, .data, .data, .data, .handle, .pinned], laidTests := true, laidLooks := .later }
def AnbTextsCardSaid : Prop := Claim7.holds Tryz.pinned (.plain (OpenSpec.ofChange anbTextsSpec)) anbTextsCard

/-- THE SECOND FORM's CARD OF 'wattlelaw04.AnbHas'. -/
def anbHasUptoCard : Claim7 := { stood := { row := anbHasUptoRow, standIns := [], harness := (true, "2d082d8521c051c23f6de7ddab7646ea44c31f57293816442977c60991dd8cf7"), looks := true }, kinds := [], alts := [], laidByText := true, laidKinds := [.data, .pinned], laidTests := true, laidLooks := .later }
def AnbHasUptoCardSaid : Prop := Claim7.holds Tryz.pinned (.plain (OpenSpec.upto anbHasSpec)) anbHasUptoCard

/-- THE SECOND FORM's CARD OF 'wattlelaw04.AnbCases'. -/
def anbCasesUptoCard : Claim7 := { stood := { row := anbCasesUptoRow, standIns := [], harness := (true, "2d082d8521c051c23f6de7ddab7646ea44c31f57293816442977c60991dd8cf7"), looks := true }, kinds := [], alts := [], laidByText := true, laidKinds := [.data, .pinned], laidTests := true, laidLooks := .later }
def AnbCasesUptoCardSaid : Prop := Claim7.holds Tryz.pinned (.plain (OpenSpec.upto anbCasesSpec)) anbCasesUptoCard

/-- THE SECOND FORM's CARD OF 'wattlelaw04.AnbWhole'. -/
def anbWholeUptoCard : Claim7 := { stood := { row := anbWholeUptoRow, standIns := [], harness := (true, "2d082d8521c051c23f6de7ddab7646ea44c31f57293816442977c60991dd8cf7"), looks := true }, kinds := [], alts := [], laidByText := true, laidKinds := [.data, .pinned], laidTests := true, laidLooks := .later }
def AnbWholeUptoCardSaid : Prop := Claim7.holds Tryz.pinned (.plain (OpenSpec.upto anbWholeSpec)) anbWholeUptoCard

/-- THE SECOND FORM's CARD OF 'wattlelaw04.AnbReads'. -/
def anbReadsUptoCard : Claim7 := { stood := { row := anbReadsUptoRow, standIns := [], harness := (true, "2d082d8521c051c23f6de7ddab7646ea44c31f57293816442977c60991dd8cf7"), looks := true }, kinds := [], alts := [], laidByText := true, laidKinds := [.data, .handle, .pinned], laidTests := true, laidLooks := .later }
def AnbReadsUptoCardSaid : Prop := Claim7.holds Tryz.pinned (.plain (OpenSpec.upto anbReadsSpec)) anbReadsUptoCard

/-- THE SECOND FORM's CARD OF 'wattlelaw04.AnbWholes'. -/
def anbWholesUptoCard : Claim7 := { stood := { row := anbWholesUptoRow, standIns := [], harness := (true, "2d082d8521c051c23f6de7ddab7646ea44c31f57293816442977c60991dd8cf7"), looks := true }, kinds := [], alts := [], laidByText := true, laidKinds := [.data, .handle, .pinned], laidTests := true, laidLooks := .later }
def AnbWholesUptoCardSaid : Prop := Claim7.holds Tryz.pinned (.plain (OpenSpec.upto anbWholesSpec)) anbWholesUptoCard

/-- THE SECOND FORM's CARD OF 'wattlelaw04.AnbTexts'. -/
def anbTextsUptoCard : Claim7 := { stood := { row := anbTextsUptoRow, standIns := [], harness := (true, "2d082d8521c051c23f6de7ddab7646ea44c31f57293816442977c60991dd8cf7"), looks := true }, kinds := [], alts := [], laidByText := true, laidKinds := [.data, .data, .data, .data, .handle, .pinned], laidTests := true, laidLooks := .later }
def AnbTextsUptoCardSaid : Prop := Claim7.holds Tryz.pinned (.plain (OpenSpec.upto anbTextsSpec)) anbTextsUptoCard
end Rows
end Go.Proofs.YtkgkmlhljeidhaaGreatDoor
