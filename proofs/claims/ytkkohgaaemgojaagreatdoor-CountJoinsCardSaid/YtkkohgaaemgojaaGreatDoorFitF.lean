/- The functions' texts fit. -/
import Derived.Test.YtkkohgaaemgojaaGreatDoorFit
namespace Go.Proofs.YtkkohgaaemgojaaGreatDoor
open Go Go.AE
set_option maxRecDepth 100000
theorem fnK : fnT.allB (fnOk G) 0 1 = true := by kernel_rfl
end Go.Proofs.YtkkohgaaemgojaaGreatDoor
