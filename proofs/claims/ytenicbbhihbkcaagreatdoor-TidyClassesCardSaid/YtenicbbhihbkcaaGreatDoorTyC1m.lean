/- Part of a proof: the small language, and functions of the program on it. -/
import Derived.Test.YtenicbbhihbkcaaGreatDoorTyC1l
import Derived.ChangeVars
import Derived.JoinedOf
import Derived.LaidLaws
import Derived.LaidHandle
import Derived.Stop.Joined
import Derived.Lay
import Derived.SevenTiedAt
import Derived.LaidOnce
import Derived.Test.YtenicbbhihbkcaaGreatDoorTie
import Derived.Test.YtenicbbhihbkcaaGreatDoorCards
set_option linter.unusedSimpArgs false
set_option linter.unusedVariables false
namespace Go.Proofs.YtenicbbhihbkcaaGreatDoor
open Go.ChangeShapes Go.WideShapes Go.RowKit Go.Joins
open Go.ChangeMaps (open_string)
open Go Go.Ev
set_option maxRecDepth 100000
theorem and_i {a b : Bool} (h : a = true) (k : b = true) : (a && b) = true := by rw [h, k]; rfl
theorem jf0 : (Rows.tidyClassesRow.wf (OpenSpec.ofChange Rows.tidyClassesSpec)) = true := by kernel_rfl
theorem jf1 : (laidOutB Tryz.prog) = true := by kernel_rfl
theorem jf2 : (mapsRowed Tryz.prog) = true := by kernel_rfl
theorem jf3 : ((Rows.tidyClassesRow.inPlace == Tryz.prog.inPlace 3)) = true := by kernel_rfl
theorem jf4 : ((Rows.tidyClassesRow.unfollowed == Tryz.prog.unfollowed 3)) = true := by kernel_rfl
theorem jf5 : ((Rows.tidyClassesRow.recurses == Tryz.prog.recurses 3)) = true := by kernel_rfl
theorem jf6 : ((Rows.tidyClassesRow.named == Tryz.prog.varsNamed 3)) = true := by kernel_rfl
theorem jf7 : ((Rows.tidyClassesRow.plainKeys == Tryz.prog.plainKeys)) = true := by kernel_rfl
theorem jf8 : (Tryz.prog.stopsHeard) = true := by kernel_rfl
theorem jf9 : (Tryz.prog.mayEnter) = true := by kernel_rfl
theorem jf10 : ((Rows.tidyClassesRow.lifted == Tryz.prog.liftsFinal)) = true := by kernel_rfl
theorem jf11 : ((Tryz.prog.make == some Rows.tidyClassesRow.make)) = true := by kernel_rfl
theorem jf : joinedFacts Tryz.prog 3 Tryz.f3 Rows.tidyClassesSpec Rows.tidyClassesRow = true := by
  unfold joinedFacts
  repeat' with_reducible apply and_i
  all_goals first | with_reducible exact jf0 | with_reducible exact jf1 | with_reducible exact jf2 | with_reducible exact jf3 | with_reducible exact jf4 | with_reducible exact jf5 | with_reducible exact jf6 | with_reducible exact jf7 | with_reducible exact jf8 | with_reducible exact jf9 | with_reducible exact jf10 | with_reducible exact jf11 | kernel_rfl
theorem tidyClasses_holds : Rows.TidyClassesSaid :=
  OpenClaim.holds_of_wide 3 Tryz.f3 rfl rfl rfl rfl rfl rfl rfl ⟨rfl, rfl, rfl, rfl, rfl⟩ rfl rfl rfl rfl rfl (by kernel_rfl) Tryz.func3 jf
    (of_decide_eq_true (by kernel_rfl)) (by unfold Func.isWrapper; rw [if_neg (of_decide_eq_false (by kernel_rfl))]; exact ⟨rfl, rfl⟩)
    (fun os started H enc _ => tidyClasses_lifted os started H enc)
end Go.Proofs.YtenicbbhihbkcaaGreatDoor
