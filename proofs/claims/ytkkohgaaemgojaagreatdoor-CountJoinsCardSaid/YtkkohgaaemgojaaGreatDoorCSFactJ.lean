/- What the form asks of the row's cells. -/
import Derived.Test.YtkkohgaaemgojaaGreatDoorCSFJa
import Derived.Test.YtkkohgaaemgojaaGreatDoorCSFJb
import Derived.Test.YtkkohgaaemgojaaGreatDoorCSFJc
import Derived.Test.YtkkohgaaemgojaaGreatDoorCSFJd
import Derived.Test.YtkkohgaaemgojaaGreatDoorCSFJe
import Derived.Test.YtkkohgaaemgojaaGreatDoorCSFJf
namespace Go.Proofs.YtkkohgaaemgojaaGreatDoor
open Go
set_option maxRecDepth 100000
theorem joined4 : joinedFacts Tryz.prog 4 Tryz.f4 Rows.countJoinsSpec Rows.countJoinsRow = true := by
  unfold joinedFacts
  simp only [Bool.and_eq_true]
  exact ⟨⟨⟨⟨⟨⟨⟨⟨⟨⟨⟨⟨⟨⟨⟨⟨⟨⟨⟨⟨⟨⟨⟨⟨⟨⟨⟨⟨⟨⟨⟨joifact0, joifact1⟩, joifact2⟩, joifact3⟩, joifact4⟩, joifact5⟩, joifact6⟩, joifact7⟩, joifact8⟩, joifact9⟩, joifact10⟩, joifact11⟩, joifact12⟩, joifact13⟩, joifact14⟩, joifact15⟩, joifact16⟩, joifact17⟩, joifact18⟩, joifact19⟩, joifact20⟩, joifact21⟩, joifact22⟩, joifact23⟩, joifact24⟩, joifact25⟩, joifact26⟩, joifact27⟩, joifact28⟩, joifact29⟩, joifact30⟩, joifact31⟩
end Go.Proofs.YtkkohgaaemgojaaGreatDoor
