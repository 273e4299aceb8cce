/- One closed fact of the program's start, by the kernel. -/
import Derived.Test.YtkkohgaaemgojaaGreatDoorCSTieA
namespace Go.Proofs.YtkkohgaaemgojaaGreatDoor
open Go
theorem tie_h2 (os : Os) (tape : Tape) : (DataW.laidRun Tryz.prog (varsWorld Tryz.prog 400 (varsId Tryz.prog) os tape).memory 8 (tieL.map (·.1))).map (fun x => decide x.2.Nodup && laidRowsB Tryz.prog (varsWorld Tryz.prog 400 (varsId Tryz.prog) os tape).memory x.2) = some true := by kernel_rfl
end Go.Proofs.YtkkohgaaemgojaaGreatDoor
