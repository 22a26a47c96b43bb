/-
  DERIVED. GIVEN WITH THE SEED: THE CARDS: each row of YtenicbbhihbkcaaGreatDoorRows.lean that lists a variable, with what it lists TIED to the program's text (the seventh form; the later family's looks); each row that meets fmt, with fmt's text TOLD by the authors' own Lean function (tested against real Go, not proved from fmt's source: count such statements apart). THE CARD IS WHAT COUNTS. Prove the row's statement (the work); the ties are given (YtenicbbhihbkcaaGreatDoorTie.lean); close each card by the builder's one call (the guide's Derived/Test/ToyasCard.lean, 'card_holds'). Laid BY PROGRAM, IN A SANDBOX (cutbox-door.mjs). By AI agents, Wed Nov 11 2026. No macro, syntax, notation, axiom, sorry.
-/
import Derived.Test.YtenicbbhihbkcaaGreatDoorRows
import GoSem.ClaimSeven
namespace Go.Proofs.YtenicbbhihbkcaaGreatDoor
namespace Rows

/-- THE TIED CARD OF 'wattlelaw25.TidyClasses'. -/
def tidyClassesCard : Claim7 := { stood := { row := tidyClassesRow, standIns := [], harness := (true, "12ff925d51748cd983bc1250cdd40044144bcf37718186b3e06d37c538829665"), looks := false }, kinds := [], alts := [], laidByText := true, laidKinds := [.data, .data, .data, .data, .widerDeep, .widerDeep, .pinned], laidTests := true, laidLooks := .later }
def TidyClassesCardSaid : Prop := Claim7.holds Tryz.pinned (.plain (OpenSpec.ofChange tidyClassesSpec)) tidyClassesCard

/-- THE SECOND FORM's CARD OF 'wattlelaw25.TidyClasses'. -/
def tidyClassesUptoCard : Claim7 := { stood := { row := tidyClassesUptoRow, standIns := [], harness := (true, "12ff925d51748cd983bc1250cdd40044144bcf37718186b3e06d37c538829665"), looks := false }, kinds := [], alts := [], laidByText := true, laidKinds := [.data, .data, .data, .data, .widerDeep, .widerDeep, .pinned], laidTests := true, laidLooks := .later }
def TidyClassesUptoCardSaid : Prop := Claim7.holds Tryz.pinned (.plain (OpenSpec.upto tidyClassesSpec)) tidyClassesUptoCard
end Rows
end Go.Proofs.YtenicbbhihbkcaaGreatDoor
