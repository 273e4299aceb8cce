/- What the card asks of the program, by the kernel. -/
import Derived.Test.YtkkohgaaemgojaaGreatDoorCards
import Derived.SevenTiedAt
import Derived.KernelRfl
namespace Go.Proofs.YtkkohgaaemgojaaGreatDoor
open Go
set_option maxRecDepth 100000
theorem card_main : Tryz.pinned.checked.prog.mainIs = some (Rows.countJoinsCard.stood.harness.1, Rows.countJoinsCard.stood.harness.2.toList) := by kernel_rfl
theorem card_wants : ([23].all fun u => !Tryz.prog.wantsStandIn u) = true := by kernel_rfl
end Go.Proofs.YtkkohgaaemgojaaGreatDoor
