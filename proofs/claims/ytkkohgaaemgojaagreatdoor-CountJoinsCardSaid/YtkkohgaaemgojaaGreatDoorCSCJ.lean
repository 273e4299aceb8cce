/- What the card asks of the program. -/
import Derived.Test.YtkkohgaaemgojaaGreatDoorCards
import Derived.SevenTiedAt
import Derived.KernelRfl
namespace Go.Proofs.YtkkohgaaemgojaaGreatDoor
open Go
set_option maxRecDepth 100000
theorem joins_wf : Rows.countJoinsRow.wfByText (OpenSpec.ofChange Rows.countJoinsSpec) = true := by kernel_rfl
end Go.Proofs.YtkkohgaaemgojaaGreatDoor
