/- One closed fact of the program's start, by the kernel. -/
import Derived.Test.YtkkohgaaemgojaaGreatDoorCSTieA
namespace Go.Proofs.YtkkohgaaemgojaaGreatDoor
open Go
theorem tie_hd (os : Os) (tape : Tape) : varsDone Tryz.prog 400 (varsId Tryz.prog) os tape = true := by kernel_rfl
end Go.Proofs.YtkkohgaaemgojaaGreatDoor
