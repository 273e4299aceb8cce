/- A call worked out by the kernel. -/
import Derived.Test.YtkkohgaaemgojaaGreatDoorCSSpec
import Derived.Test.YtkkohgaaemgojaaGreatDoorCSDone
import Derived.KernelRfl
namespace Go.Proofs.YtkkohgaaemgojaaGreatDoor
open Go Go.AE
set_option maxRecDepth 100000
theorem bsK : subOk 8 bs_l bs_bs bs_v ((kev G0 3000).ev.call 23 bs_args ⟨fun _ => none, .nil, 0⟩) = true := by kernel_rfl
theorem bxK : subOk 8 bx_l bx_bs bx_v ((kev G0 3000).ev.call 23 bx_args ⟨fun _ => none, .nil, 0⟩) = true := by kernel_rfl
end Go.Proofs.YtkkohgaaemgojaaGreatDoor
