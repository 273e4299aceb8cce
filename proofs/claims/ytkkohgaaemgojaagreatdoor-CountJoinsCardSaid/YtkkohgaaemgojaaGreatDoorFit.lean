/- The tables fit the program. -/
import Derived.Test.YtkkohgaaemgojaaGreatDoorTabsF
import Derived.KernelRfl
namespace Go.Proofs.YtkkohgaaemgojaaGreatDoor
open Go Go.AE
set_option maxRecDepth 100000
noncomputable def G : Tabs := tabs tyT fnT rgT
theorem tyK : tyT.allB (tyOk Tryz.prog tyT) 0 1 = true := by kernel_rfl
theorem mixK : Tryz.prog.follows .mixedOrders = true := rfl
end Go.Proofs.YtkkohgaaemgojaaGreatDoor
