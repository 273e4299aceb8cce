/- A call worked out by the kernel. -/
import Derived.Test.YtkkohgaaemgojaaGreatDoorCSG1
import Derived.KernelRfl
namespace Go.Proofs.YtkkohgaaemgojaaGreatDoor
open Go Go.AE
set_option maxRecDepth 100000
theorem cnK : subOk 8 cn_l cn_bs cn_v ((kev G1 3000).ev.call 14 cn_args ⟨fun _ => none, .nil, 0⟩) = true := by kernel_rfl
theorem cxK : subOk 8 cx_l cx_bs cx_v ((kev G1 3000).ev.call 14 cx_args ⟨fun _ => none, .nil, 0⟩) = true := by kernel_rfl
end Go.Proofs.YtkkohgaaemgojaaGreatDoor
