/- Sums joined, and as rows. -/
import Derived.Test.YtkkohgaaemgojaaGreatDoorCSAnchor
import Derived.WalkKit
import Derived.Tactics
import Derived.Deep.RegionHeld3
import Derived.BigQuiet
import Derived.Deep.QuietTactic
import Derived.RowKit
namespace Go.Proofs.YtkkohgaaemgojaaGreatDoor
open Go.RowKit

set_option maxRecDepth 100000 in
theorem join_any (a0 a1 a2 a3 a4 a5 a6 b0 b1 b2 b3 b4 b5 b6 : Int) (w : World) :
    Calls Tryz.prog 9 #[.agg #[.int .i64 a0, .int .i64 a1, .int .i64 a2, .int .i64 a3, .int .i64 a4, .int .i64 a5, .int .i64 a6], .agg #[.int .i64 b0, .int .i64 b1, .int .i64 b2, .int .i64 b3, .int .i64 b4, .int .i64 b5, .int .i64 b6]] w fun e w' => e = .returned (.agg #[.int .i64 (wrap64 (a0 + b0)), .int .i64 (wrap64 (a1 + b1)), .int .i64 (wrap64 (a2 + b2)), .int .i64 (wrap64 (a3 + b3)), .int .i64 (wrap64 (a4 + b4)), .int .i64 (wrap64 (a5 + b5)), .int .i64 (wrap64 (a6 + b6))]) ∧ Below w.heap.size w w' := by
  go_enter Tryz.func9, Tryz.ntmps9
  go_wp2
  exact bodyPost_ret (v := .agg #[.int .i64 (wrap64 (a0 + b0)), .int .i64 (wrap64 (a1 + b1)), .int .i64 (wrap64 (a2 + b2)), .int .i64 (wrap64 (a3 + b3)), .int .i64 (wrap64 (a4 + b4)), .int .i64 (wrap64 (a5 + b5)), .int .i64 (wrap64 (a6 + b6))]) (by simp [results, Tryz.results9, go_sem]) rfl ⟨rfl, (((Below.refl _ _).alloc (Nat.le_refl _) _).alloc (by simp) _).alloc (by simp; omega) _⟩

set_option maxRecDepth 100000 in
theorem back_any (a0 a1 a2 a3 a4 a5 a6 : Int) (w : World) :
    Calls Tryz.prog 6 #[.agg #[.int .i64 a0, .int .i64 a1, .int .i64 a2, .int .i64 a3, .int .i64 a4, .int .i64 a5, .int .i64 a6]] w fun e w' => e = .returned (.agg #[.int .i64 a0, .int .i64 a1, .int .i64 a2, .int .i64 a3, .int .i64 a4, .int .i64 a5, .int .i64 a6]) ∧ Below w.heap.size w w' := by
  go_enter Tryz.func6, Tryz.ntmps6
  go_wp2
  exact bodyPost_ret (v := .agg #[.int .i64 a0, .int .i64 a1, .int .i64 a2, .int .i64 a3, .int .i64 a4, .int .i64 a5, .int .i64 a6]) (by simp [results, Tryz.results6, go_sem]) rfl ⟨rfl, ((Below.refl _ _).alloc (Nat.le_refl _) _).alloc (by simp) _⟩

theorem wrap_ring (a b c : Int) : wrap64 (a + wrap64 (b + c)) = wrap64 (wrap64 (c + a) + b) := by
  unfold wrap64; omega
end Go.Proofs.YtkkohgaaemgojaaGreatDoor
