/- A call worked out by the kernel. -/
import Derived.Test.YtkkohgaaemgojaaGreatDoorCSG1
import Derived.KernelRfl
namespace Go.Proofs.YtkkohgaaemgojaaGreatDoor
open Go Go.AE
set_option maxRecDepth 100000
theorem csK : subOk 8 cs_l cs_bs cs_v ((kev G1 3000).ev.call 14 cs_args ⟨fun _ => none, .nil, 0⟩) = true := by kernel_rfl
end Go.Proofs.YtkkohgaaemgojaaGreatDoor
