/- LowerSites: of every program and number, raw ones too, where objects are made, and how much fuel is enough, are the document's: the law returns true, and its arguments read behind the call as before. Its conditions: the package variables that the row lists hold what the program's text lays (tied to that text). -/
import Derived.Test.YtaceaifoajkgaaaGreatDoorLSLift
import Derived.Test.YtaceaifoajkgaaaGreatDoorLSFacts
import Derived.Test.YtaceaifoajkgaaaGreatDoorTie
import Derived.Test.YtaceaifoajkgaaaGreatDoorCards
import Derived.SevenTiedAt
namespace Go.Proofs.YtaceaifoajkgaaaGreatDoor
open Go.ChangeShapes Go.WideShapes Go.ChangeAt Go.RowKit
set_option maxRecDepth 100000
theorem named3 : Tryz.prog.funcNamed Rows.lowerSitesRow.func = some 3 := by kernel_rfl

theorem lowerSites_holds : Rows.LowerSitesSaid :=
  OpenClaim.holds_of_wide 3 Tryz.f3 rfl rfl rfl rfl rfl rfl rfl ⟨rfl, rfl, rfl, rfl, rfl⟩ rfl rfl rfl rfl rfl named3 Tryz.func3 closed3
    (of_decide_eq_true (by kernel_rfl)) (by unfold Func.isWrapper; rw [if_neg (of_decide_eq_false (by kernel_rfl))]; exact ⟨rfl, rfl⟩)
    (fun os started H enc _ => lifted os started H enc)

theorem lowerSites_card : Rows.LowerSitesCardSaid :=
  Claim7.holds_tied_plain_at .later [] [.data, .data, .data, .data, .sentinel, .sentinel, .pinned] true Rows.lowerSitesCard.stood.harness true lowerSites_holds (fun _ h => by cases h) (by kernel_rfl) (fun _ h => by cases h) lowerSites_row_tie rfl ⟨rfl, rfl⟩ (by kernel_rfl) rfl
    (fun f fn hf hfn => by
      obtain rfl : f = 3 := Option.some.inj (named3.symm.trans hf) |>.symm
      obtain rfl : fn = Tryz.f3 := (Option.some.inj (Tryz.func3.symm.trans hfn)).symm
      exact ⟨by kernel_rfl, fun j t ht => by
        rw [Tryz.params3] at ht
        have hm : t ∈ [26, 3] := by simpa using Array.mem_of_getElem? ht
        have hall : ([26, 3].all fun u => !Tryz.prog.wantsStandIn u) = true := by kernel_rfl
        exact (show Tryz.prog.wantsStandIn t = false by simpa using List.all_eq_true.1 hall t hm)⟩)
    (by kernel_rfl)
#print axioms lowerSites_card
end Go.Proofs.YtaceaifoajkgaaaGreatDoor
