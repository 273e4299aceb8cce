/- What the form asks of the row's cells, fact by fact. -/
import Derived.Test.YtkkohgaaemgojaaGreatDoorRows
import Derived.JoinedOf
import Derived.KernelRfl
namespace Go.Proofs.YtkkohgaaemgojaaGreatDoor
open Go
set_option maxRecDepth 100000
theorem joifact9 : ((Rows.countJoinsRow.inPlace == Tryz.prog.inPlace 4)) = true := by kernel_rfl
end Go.Proofs.YtkkohgaaemgojaaGreatDoor
