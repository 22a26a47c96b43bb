/-
  DERIVED. GIVEN WITH THE SEED: THE CARDS: each row of YthihdggoaeaakaaGreatDoorRows.lean that lists a variable, with what it lists TIED to the program's text (the seventh form; the later family's looks); each row that meets fmt, with fmt's text TOLD by the authors' own Lean function (tested against real Go, not proved from fmt's source: count such statements apart). THE CARD IS WHAT COUNTS. Prove the row's statement (the work); the ties are given (YthihdggoaeaakaaGreatDoorTie.lean); close each card by the builder's one call (the guide's Derived/Test/ToyasCard.lean, 'card_holds'). Laid BY PROGRAM, IN A SANDBOX (cutbox-door.mjs). By AI agents, Wed Nov 11 2026. No macro, syntax, notation, axiom, sorry.
-/
import Derived.Test.YthihdggoaeaakaaGreatDoorRows
import GoSem.ClaimSeven
namespace Go.Proofs.YthihdggoaeaakaaGreatDoor
namespace Rows

/-- THE TIED CARD OF 'wattlelaw13.LocalLimits'. -/
def localLimitsCard : Claim7 := { stood := { row := localLimitsRow, standIns := [], harness := (true, "7ea6b0edeb6c3fb190b6ab520d545e01457167f9bb835e00735159dec279eaeb"), looks := true }, kinds := [], alts := [], laidByText := true, laidKinds := [.data, .data, .data, .data, .handle, .widerDeep, .pinned], laidTests := true, laidLooks := .later }
def LocalLimitsCardSaid : Prop := Claim7.holds Tryz.pinned (.plain (OpenSpec.ofChange localLimitsSpec)) localLimitsCard

/-- THE SECOND FORM's CARD OF 'wattlelaw13.LocalLimits'. -/
def localLimitsUptoCard : Claim7 := { stood := { row := localLimitsUptoRow, standIns := [], harness := (true, "7ea6b0edeb6c3fb190b6ab520d545e01457167f9bb835e00735159dec279eaeb"), looks := true }, kinds := [], alts := [], laidByText := true, laidKinds := [.data, .data, .data, .data, .handle, .widerDeep, .pinned], laidTests := true, laidLooks := .later }
def LocalLimitsUptoCardSaid : Prop := Claim7.holds Tryz.pinned (.plain (OpenSpec.upto localLimitsSpec)) localLimitsUptoCard
end Rows
end Go.Proofs.YthihdggoaeaakaaGreatDoor
