/-
  DERIVED. GIVEN WITH THE SEED: THE CARDS: each row of YtapnplljnpconaaGreatDoorRows.lean that lists a variable, with what it lists TIED to the program's text (the seventh form; the later family's looks); each row that meets fmt, with fmt's text TOLD by the authors' own Lean function (tested against real Go, not proved from fmt's source: count such statements apart). THE CARD IS WHAT COUNTS. Prove the row's statement (the work); the ties are given (YtapnplljnpconaaGreatDoorTie.lean); close each card by the builder's one call (the guide's Derived/Test/ToyasCard.lean, 'card_holds'). Laid BY PROGRAM, IN A SANDBOX (cutbox-door.mjs). By AI agents, Wed Nov 11 2026. No macro, syntax, notation, axiom, sorry.
-/
import Derived.Test.YtapnplljnpconaaGreatDoorRows
import GoSem.ClaimSeven
namespace Go.Proofs.YtapnplljnpconaaGreatDoor
namespace Rows

/-- THE TIED CARD OF 'wattlelaw14.FlatOrder'. -/
def flatOrderCard : Claim7 := { stood := { row := flatOrderRow, standIns := [], harness := (true, "86a0e30398dec6b8543f1fce29cba110e4ce0824295683adb8f79a541c45ef7e"), looks := true }, kinds := [], alts := [], laidByText := true, laidKinds := [.data, .widerDeep, .widerDeep, .pinned], laidTests := true, laidLooks := .later }
def FlatOrderCardSaid : Prop := Claim7.holds Tryz.pinned (.plain (OpenSpec.ofChange flatOrderSpec)) flatOrderCard

/-- THE TIED CARD OF 'wattlelaw14.FlatCounts'. -/
def flatCountsCard : Claim7 := { stood := { row := flatCountsRow, standIns := [], harness := (true, "86a0e30398dec6b8543f1fce29cba110e4ce0824295683adb8f79a541c45ef7e"), looks := true }, kinds := [], alts := [], laidByText := true, laidKinds := [.data, .widerDeep, .widerDeep, .pinned], laidTests := true, laidLooks := .later }
def FlatCountsCardSaid : Prop := Claim7.holds Tryz.pinned (.plain (OpenSpec.ofChange flatCountsSpec)) flatCountsCard

/-- THE TIED CARD OF 'wattlelaw14.FlatMakes'. -/
def flatMakesCard : Claim7 := { stood := { row := flatMakesRow, standIns := [], harness := (true, "86a0e30398dec6b8543f1fce29cba110e4ce0824295683adb8f79a541c45ef7e"), looks := true }, kinds := [], alts := [], laidByText := true, laidKinds := [.data, .handle, .widerDeep, .widerDeep, .pinned], laidTests := true, laidLooks := .later }
def FlatMakesCardSaid : Prop := Claim7.holds Tryz.pinned (.plain (OpenSpec.ofChange flatMakesSpec)) flatMakesCard

/-- THE SECOND FORM's CARD OF 'wattlelaw14.FlatOrder'. -/
def flatOrderUptoCard : Claim7 := { stood := { row := flatOrderUptoRow, standIns := [], harness := (true, "86a0e30398dec6b8543f1fce29cba110e4ce0824295683adb8f79a541c45ef7e"), looks := true }, kinds := [], alts := [], laidByText := true, laidKinds := [.data, .widerDeep, .widerDeep, .pinned], laidTests := true, laidLooks := .later }
def FlatOrderUptoCardSaid : Prop := Claim7.holds Tryz.pinned (.plain (OpenSpec.upto flatOrderSpec)) flatOrderUptoCard

/-- THE SECOND FORM's CARD OF 'wattlelaw14.FlatCounts'. -/
def flatCountsUptoCard : Claim7 := { stood := { row := flatCountsUptoRow, standIns := [], harness := (true, "86a0e30398dec6b8543f1fce29cba110e4ce0824295683adb8f79a541c45ef7e"), looks := true }, kinds := [], alts := [], laidByText := true, laidKinds := [.data, .widerDeep, .widerDeep, .pinned], laidTests := true, laidLooks := .later }
def FlatCountsUptoCardSaid : Prop := Claim7.holds Tryz.pinned (.plain (OpenSpec.upto flatCountsSpec)) flatCountsUptoCard

/-- THE SECOND FORM's CARD OF 'wattlelaw14.FlatMakes'. -/
def flatMakesUptoCard : Claim7 := { stood := { row := flatMakesUptoRow, standIns := [], harness := (true, "86a0e30398dec6b8543f1fce29cba110e4ce0824295683adb8f79a541c45ef7e"), looks := true }, kinds := [], alts := [], laidByText := true, laidKinds := [.data, .handle, .widerDeep, .widerDeep, .pinned], laidTests := true, laidLooks := .later }
def FlatMakesUptoCardSaid : Prop := Claim7.holds Tryz.pinned (.plain (OpenSpec.upto flatMakesSpec)) flatMakesUptoCard
end Rows
end Go.Proofs.YtapnplljnpconaaGreatDoor
