/- One closed fact of the program's start, by the kernel. -/
import Derived.Test.YtkkohgaaemgojaaGreatDoorCSTieA
namespace Go.Proofs.YtkkohgaaemgojaaGreatDoor
open Go
theorem tie_h1 (os : Os) (tape : Tape) : (DataW.laidRun Tryz.prog (varsWorld Tryz.prog 400 (varsId Tryz.prog) os tape).memory 8 (tieL.map (·.1))).map (·.1) = some tieL := by kernel_rfl
end Go.Proofs.YtkkohgaaemgojaaGreatDoor
