/- The document's examples of layer 4 come out right: a closed call, evaluated. -/
import Derived.Test.YtehbeicmmnjpfaaGreatDoorAnbHas
import Derived.KernelRfl
set_option linter.unusedSimpArgs false
set_option linter.unusedVariables false
namespace Go.Proofs.YtehbeicmmnjpfaaGreatDoor
open Go.Ev
set_option maxRecDepth 100000
theorem anb_speaks : ev anbC 400 9 [] [] = some (.bool true, []) := by kernel_rfl
end Go.Proofs.YtehbeicmmnjpfaaGreatDoor
