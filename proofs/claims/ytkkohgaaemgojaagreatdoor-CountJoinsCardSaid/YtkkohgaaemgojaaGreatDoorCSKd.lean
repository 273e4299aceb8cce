/- The anchor: what the document fixes by number is so, worked out by the kernel. -/
import Derived.Test.YtkkohgaaemgojaaGreatDoorCSG2
import Derived.KernelRfl
namespace Go.Proofs.YtkkohgaaemgojaaGreatDoor
open Go Go.AE
set_option maxRecDepth 100000
theorem awakeK : (match (kev G2 3000).ev.call 5 [] ⟨fun _ => none, .nil, 0⟩ with | some (.ret (.bool b), _) => b | _ => false) = true := by kernel_rfl
end Go.Proofs.YtkkohgaaemgojaaGreatDoor
