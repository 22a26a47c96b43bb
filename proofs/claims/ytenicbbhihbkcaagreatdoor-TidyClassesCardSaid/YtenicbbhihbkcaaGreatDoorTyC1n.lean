/- For any rows of numbers TidyClasses answers true, and its argument reads as it did. Condition: the row's listed variables read as the program's text lays them; the card ties that. -/
import Derived.Test.YtenicbbhihbkcaaGreatDoorTyC1m
import Derived.ChangeVars
import Derived.JoinedOf
import Derived.LaidLaws
import Derived.LaidHandle
import Derived.Stop.Joined
import Derived.Lay
import Derived.SevenTiedAt
import Derived.LaidOnce
import Derived.Test.YtenicbbhihbkcaaGreatDoorTie
import Derived.Test.YtenicbbhihbkcaaGreatDoorCards
set_option linter.unusedSimpArgs false
set_option linter.unusedVariables false
namespace Go.Proofs.YtenicbbhihbkcaaGreatDoor
open Go.ChangeShapes Go.WideShapes Go.RowKit Go.Joins
open Go.ChangeMaps (open_string)
open Go Go.Ev
set_option maxRecDepth 100000
theorem cd_w : Rows.tidyClassesRow.wfByText (OpenSpec.ofChange Rows.tidyClassesSpec) = true := by kernel_rfl
theorem cd_m : Tryz.pinned.checked.prog.mainIs = some (Rows.tidyClassesCard.stood.harness.1, Rows.tidyClassesCard.stood.harness.2.toList) := by kernel_rfl
theorem cd_l : false = Tryz.pinned.checked.prog.looks [] := by kernel_rfl
theorem cd_g0 : Tryz.prog.funcNamed Rows.tidyClassesRow.func = some 3 := by kernel_rfl
theorem cd_g1 : ((Tryz.prog.closure 3).any fun g => (Tryz.prog.funcs[g]?).any Func.goes) = false := by kernel_rfl
theorem cd_g2 : (Tryz.prog.funcs.any Func.goes) = false := by kernel_rfl
theorem goes_f {P : Program} {f : FuncId} (h1 : ((P.closure f).any fun g => (P.funcs[g]?).any Func.goes) = false) (h2 : (P.funcs.any Func.goes) = false) : P.goes f = false := by
  unfold Program.goes
  rw [h1, h2, Bool.and_false]
  rfl
theorem goesBy_f {P : Program} {c : OpenClaim} {f : FuncId} (hs : c.start = .entering) (h0 : P.funcNamed c.func = some f) (h : P.goes f = false) : false = c.goesBy P := by
  unfold OpenClaim.goesBy Program.goesAt Program.goesFrom
  rw [h0, hs]
  simp [h]
theorem cd_g : false = Rows.tidyClassesRow.goesBy Tryz.pinned.checked.prog := goesBy_f (P := Tryz.prog) rfl cd_g0 (goes_f cd_g1 cd_g2)
theorem cd_s : Tryz.prog.wantsStandIn 22 = false := by kernel_rfl
theorem tidyClasses_card : Rows.TidyClassesCardSaid :=
  Claim7.holds_tied_plain_at .later [] _ _ _ _
    tidyClasses_holds (fun _ h => by cases h) cd_w (fun _ h => by cases h) tidyClasses_row_tie rfl ⟨rfl, rfl⟩ cd_m rfl
    (fun f fn hf hfn => by
      obtain rfl : f = 3 := Option.some.inj ((show Tryz.prog.funcNamed "wattle/wattlelaw25.TidyClasses" = some 3 by kernel_rfl).symm.trans hf) |>.symm
      obtain rfl : fn = Tryz.f3 := (Option.some.inj (Tryz.func3.symm.trans hfn)).symm
      exact ⟨cd_l, fun j t ht => by
        rw [Tryz.params3] at ht
        have hm := Array.mem_of_getElem? ht
        simp only [List.mem_toArray, List.mem_cons, List.not_mem_nil, or_false] at hm
        subst hm
        exact cd_s⟩)
    cd_g
#print axioms tidyClasses_card
end Go.Proofs.YtenicbbhihbkcaaGreatDoor
