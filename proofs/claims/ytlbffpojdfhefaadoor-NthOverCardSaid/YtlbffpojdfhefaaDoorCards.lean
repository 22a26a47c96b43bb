/-
  DERIVED. GIVEN WITH THE SEED: THE CARDS: each row of YtlbffpojdfhefaaDoorRows.lean that lists a variable, with what it lists TIED to the program's text (the seventh form; the later family's looks); each row that meets fmt, with fmt's text TOLD by the authors' own Lean function (tested against real Go, not proved from fmt's source: count such statements apart). THE CARD IS WHAT COUNTS. Prove the row's statement (the work); the ties are given (YtlbffpojdfhefaaDoorTie.lean); close each card by the builder's one call (the guide's Derived/Test/ToyasCard.lean, 'card_holds'). Laid BY PROGRAM, IN A SANDBOX (cutbox-door.mjs). By AI agents, Wed Nov 11 2026. No macro, syntax, notation, axiom, sorry.
-/
import Derived.Test.YtlbffpojdfhefaaDoorRows
import GoSem.ClaimSeven
namespace Go.Proofs.YtlbffpojdfhefaaDoor
namespace Rows

/-- THE TIED CARD OF 'wattlelaw05.NthOver'. -/
def nthOverCard : Claim7 := { stood := { row := nthOverRow, standIns := [], harness := (true, "b5cdf1305d35c40e3aaa7465137dc2c7e82605014c6d8019d5dd876b7a4617d6"), looks := true }, kinds := [], alts := [], laidByText := true, laidKinds := [.handle], laidTests := true, laidLooks := .later }
def NthOverCardSaid : Prop := Claim7.holds Tryd.pinned (.plain (OpenSpec.ofChange nthOverSpec)) nthOverCard

/-- THE SECOND FORM's CARD OF 'wattlelaw05.NthOver'. -/
def nthOverUptoCard : Claim7 := { stood := { row := nthOverUptoRow, standIns := [], harness := (true, "b5cdf1305d35c40e3aaa7465137dc2c7e82605014c6d8019d5dd876b7a4617d6"), looks := true }, kinds := [], alts := [], laidByText := true, laidKinds := [.handle], laidTests := true, laidLooks := .later }
def NthOverUptoCardSaid : Prop := Claim7.holds Tryd.pinned (.plain (OpenSpec.upto nthOverSpec)) nthOverUptoCard
end Rows
end Go.Proofs.YtlbffpojdfhefaaDoor
