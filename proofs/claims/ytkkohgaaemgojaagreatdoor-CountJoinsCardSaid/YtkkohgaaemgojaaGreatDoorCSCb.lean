/- What the card asks of the program, by the kernel. -/
import Derived.Test.YtkkohgaaemgojaaGreatDoorCards
import Derived.SevenTiedAt
import Derived.KernelRfl
namespace Go.Proofs.YtkkohgaaemgojaaGreatDoor
open Go
set_option maxRecDepth 100000
theorem card_looks : true = Tryz.pinned.checked.prog.looks [] := by kernel_rfl
end Go.Proofs.YtkkohgaaemgojaaGreatDoor
