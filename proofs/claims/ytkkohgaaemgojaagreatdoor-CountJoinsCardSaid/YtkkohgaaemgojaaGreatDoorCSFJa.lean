/- What the form asks of the row's cells, fact by fact. -/
import Derived.Test.YtkkohgaaemgojaaGreatDoorRows
import Derived.JoinedOf
import Derived.KernelRfl
namespace Go.Proofs.YtkkohgaaemgojaaGreatDoor
open Go
set_option maxRecDepth 100000
theorem joifact0 : (Rows.countJoinsRow.wf (OpenSpec.ofChange Rows.countJoinsSpec)) = true := by kernel_rfl
theorem joifact1 : (laidOutB Tryz.prog) = true := by kernel_rfl
theorem joifact2 : (mapsRowed Tryz.prog) = true := by kernel_rfl
theorem joifact3 : (Tryz.f4.params.all (Tryz.prog.readableRec ·)) = true := by kernel_rfl
theorem joifact4 : (namedTie Tryz.prog Rows.countJoinsRow.named Rows.countJoinsSpec.vars) = true := by kernel_rfl
theorem joifact5 : ((Rows.countJoinsRow.stops == [])) = true := by kernel_rfl
theorem joifact6 : ((Tryz.prog.stops == [])) = true := by kernel_rfl
theorem joifact7 : ((Rows.countJoinsRow.knobs == [])) = true := by kernel_rfl
theorem joifact8 : ((Tryz.prog.stopKnobs == [])) = true := by kernel_rfl
end Go.Proofs.YtkkohgaaemgojaaGreatDoor
