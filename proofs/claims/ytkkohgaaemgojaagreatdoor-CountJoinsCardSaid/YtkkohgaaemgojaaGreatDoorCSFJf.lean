/- What the form asks of the row's cells, fact by fact. -/
import Derived.Test.YtkkohgaaemgojaaGreatDoorRows
import Derived.JoinedOf
import Derived.KernelRfl
namespace Go.Proofs.YtkkohgaaemgojaaGreatDoor
open Go
set_option maxRecDepth 100000
theorem joifact13 : ((Rows.countJoinsRow.maps == (Tryz.f4.params.toList ++ Rows.countJoinsSpec.plain.varTypes Tryz.prog).any (Tryz.prog.mapsRec ·))) = true := by kernel_rfl
theorem joifact14 : ((Rows.countJoinsRow.ifaces == (Tryz.f4.params.toList ++ Rows.countJoinsSpec.plain.varTypes Tryz.prog).any (Tryz.prog.ifacesRec ·))) = true := by kernel_rfl
theorem joifact15 : ((Rows.countJoinsRow.mapsOut == Tryz.prog.mapsAmong Tryz.f4.resultTypes.toList)) = true := by kernel_rfl
theorem joifact16 : ((Rows.countJoinsRow.loops == (Tryz.f4.params.toList ++ Rows.countJoinsSpec.plain.varTypes Tryz.prog).any (Tryz.prog.loopsFrom ·))) = true := by kernel_rfl
theorem joifact17 : ((Rows.countJoinsRow.wideKeys == (Tryz.f4.params.toList ++ Rows.countJoinsSpec.plain.varTypes Tryz.prog ++ Tryz.f4.resultTypes.toList).any (Tryz.prog.wideKeysFrom ·))) = true := by kernel_rfl
theorem joifact18 : (Rows.countJoinsSpec.vars.all (Tryz.prog.varReadable ·)) = true := by kernel_rfl
theorem joifact19 : (Tryz.f4.resultTypes.all (fun t => Tryz.prog.readableRec t && decide (t < Tryz.prog.types.size))) = true := by kernel_rfl
theorem joifact20 : ((Rows.countJoinsRow.ifacesOut == Tryz.f4.resultTypes.toList.any (Tryz.prog.ifacesRec ·))) = true := by kernel_rfl
theorem joifact21 : ((Rows.countJoinsRow.loopsOut == Tryz.f4.resultTypes.toList.any (Tryz.prog.loopsFrom ·))) = true := by kernel_rfl
theorem joifact22 : ((Rows.countJoinsRow.plainKeys == Tryz.prog.plainKeys)) = true := by kernel_rfl
theorem joifact23 : (Rows.countJoinsRow.shortTexts.isNone) = true := by kernel_rfl
theorem joifact24 : (Tryz.prog.stopsHeard) = true := by kernel_rfl
theorem joifact25 : (Tryz.prog.mayEnter) = true := by kernel_rfl
theorem joifact26 : ((Rows.countJoinsRow.lifted == Tryz.prog.liftsFinal)) = true := by kernel_rfl
theorem joifact27 : ((Tryz.prog.make == some Rows.countJoinsRow.make)) = true := by kernel_rfl
theorem joifact28 : ((Rows.countJoinsRow.kinds == (if Rows.countJoinsRow.domain.isEmpty then [] else Tryz.f4.params.toList.map fun t => match Tryz.prog.underlying t with | some (.int k) => some k | _ => none))) = true := by kernel_rfl
theorem joifact29 : ((Rows.countJoinsRow.pinned == Rows.countJoinsRow.pinnedBy)) = true := by kernel_rfl
theorem joifact30 : ((Rows.countJoinsRow.veiled == (Tryz.f4.params.toList ++ Rows.countJoinsSpec.plain.varTypes Tryz.prog ++ Tryz.f4.resultTypes.toList).any (Tryz.prog.veiledRec ·))) = true := by kernel_rfl
theorem joifact31 : (Rows.countJoinsRow.veiledFits Tryz.prog Tryz.f4.params.toList (Tryz.f4.params.toList ++ Rows.countJoinsSpec.plain.varTypes Tryz.prog ++ Tryz.f4.resultTypes.toList)) = true := by kernel_rfl
end Go.Proofs.YtkkohgaaemgojaaGreatDoor
