/- CountJoins: of every three sums, adding them up in either order gives the same sum, and the zero sum changes nothing: the law returns true, and its arguments read behind the call as before. Its conditions: the package variables that the row lists hold what the program's text lays (tied to that text). -/
import Derived.Test.YtkkohgaaemgojaaGreatDoorCSLiftJ
import Derived.Test.YtkkohgaaemgojaaGreatDoorCSFactJ
import Derived.Test.YtkkohgaaemgojaaGreatDoorCSTie
import Derived.Test.YtkkohgaaemgojaaGreatDoorCards
import Derived.SevenTiedAt
import Derived.Test.YtkkohgaaemgojaaGreatDoorCSCa
import Derived.Test.YtkkohgaaemgojaaGreatDoorCSCb
import Derived.Test.YtkkohgaaemgojaaGreatDoorCSCJ
import Derived.Test.YtkkohgaaemgojaaGreatDoorCSCg
namespace Go.Proofs.YtkkohgaaemgojaaGreatDoor
open Go.ChangeShapes Go.WideShapes Go.ChangeAt Go.RowKit
set_option maxRecDepth 100000
theorem named4 : Tryz.prog.funcNamed Rows.countJoinsRow.func = some 4 := by kernel_rfl

theorem countJoins_holds : Rows.CountJoinsSaid :=
  OpenClaim.holds_of_wide 4 Tryz.f4 rfl rfl rfl rfl rfl rfl rfl ⟨rfl, rfl, rfl, rfl, rfl⟩ rfl rfl rfl rfl rfl named4 Tryz.func4 joined4
    (of_decide_eq_true (by kernel_rfl)) (by unfold Func.isWrapper; rw [if_neg (of_decide_eq_false (by kernel_rfl))]; exact ⟨rfl, rfl⟩)
    (fun os started H enc _ => joins_lifted os started H enc)

theorem countJoins_card : Rows.CountJoinsCardSaid :=
  Claim7.holds_tied_plain_at .later [] [.pinned, .data, .sentinel, .sentinel, .data, .data, .data] true Rows.countJoinsCard.stood.harness true countJoins_holds (fun _ h => by cases h) joins_wf (fun _ h => by cases h) countJoins_tie rfl ⟨rfl, rfl⟩ card_main rfl
    (fun f fn hf hfn => by
      obtain rfl : f = 4 := Option.some.inj (named4.symm.trans hf) |>.symm
      obtain rfl : fn = Tryz.f4 := (Option.some.inj (Tryz.func4.symm.trans hfn)).symm
      exact ⟨card_looks, fun j t ht => by
        rw [Tryz.params4] at ht
        have hm : t ∈ [23, 23, 23] := by simpa using Array.mem_of_getElem? ht
        have h23 : t = 23 := by simpa using hm
        rw [h23]
        have hall := card_wants
        exact (show Tryz.prog.wantsStandIn 23 = false by simpa using hall)⟩)
    joins_goes
#print axioms countJoins_card
end Go.Proofs.YtkkohgaaemgojaaGreatDoor
