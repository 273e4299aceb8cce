/- slices.Sort and slices.Compact on a slice of integers of the call's own, a nil one too. -/
import Derived.Test.YtaceaifoajkgaaaGreatDoorLay
import Derived.Test.YtaceaifoajkgaaaGreatDoorLSRef
import Derived.Shelf.Slices.In.SortNone
import Derived.Lib.OwnBridge
import Derived.Lib.RowBridge
import Derived.Sort.OwnSortedInts
namespace Go.Proofs.YtaceaifoajkgaaaGreatDoor
open Go.RowKit Go.Sites Go.Sort

theorem sort_any {w : World} {base n : Nat} {v : Value} {zs : List Int} (h : w.ownsRow base 3 1 v n (zs.map (Value.int .i64))) (hn : n < 4611686018427387904) (hB : base ≤ w.heap.size) :
    Calls Tryz.prog 12 #[v] w fun e w' => e = .returned (.tuple #[]) ∧ w'.ownsRow base 3 1 v n ((zs.mergeSort fun x y => decide (x ≤ y)).map (Value.int .i64)) ∧ Below base w w' := by
  have hl : zs.length = n := by simpa using h.1
  by_cases hv : v = .slice none 0 0
  · subst hv
    have hn0 : n = 0 := by
      rcases h.2 with ⟨_, h0⟩ | ⟨g, cap, cur, e, _⟩
      · exact h0
      · cases e
    subst hn0
    have hz : zs = [] := List.length_eq_zero_iff.1 hl
    subst hz
    exact (Any.slices_Sort_int_none Tryz.laysSort none 0 w).mono fun e w' ⟨he, hw⟩ => ⟨he, by rw [hw]; simpa using h, by rw [hw]; exact Below.refl _ _⟩
  · obtain ⟨g, cap, rfl, hbg, hgl, hncap, hcm, hlen, hH⟩ := Lib.holds_of_ownsRow h hv
    have hc := Any.slices_Sort_int Tryz.laysSort g 0 cap zs w hH hgl (by omega)
    rw [hlen] at hc
    refine hc.mono fun e w' ⟨he, nn, os, hw⟩ => ⟨he, ?_, ?_⟩
    · rw [hw]
      rcases h.2 with ⟨h0, _⟩ | ⟨g', cap', cur, hv', hbase, hb, h1, h2, h3, h4⟩
      · cases h0
      cases hv'
      have := ownsRow_sortedI (n := nn) (os := os) (ss := zs) (ts := zs.mergeSort fun x y => decide (x ≤ y)) (List.length_mergeSort zs) hbase hb (by omega) h2 h3
      rw [hlen] at this
      exact this
    · rw [hw]
      exact (Below.refl base w).grown (grownBy_sortedI _) hB (fun j hj => by cases hj; exact hbg)

theorem compact_any {w : World} {base n : Nat} {v : Value} {zs : List Int} (h : w.ownsRow base 3 1 v n (zs.map (Value.int .i64))) (hn : n < 4611686018427387904) :
    Calls Tryz.prog 13 #[v] w fun e w' => ∃ a cap, e = .returned (.slice a (Lib.compact zs).length cap) ∧ w'.ownsRow base 3 1 (.slice a (Lib.compact zs).length cap) (Lib.compact zs).length ((Lib.compact zs).map (Value.int .i64)) ∧ Below base w w' := by
  have hl : zs.length = n := by simpa using h.1
  by_cases hv : v = .slice none 0 0
  · subst hv
    have hn0 : n = 0 := by
      rcases h.2 with ⟨_, h0⟩ | ⟨g, cap, cur, e, _⟩
      · exact h0
      · cases e
    subst hn0
    have hz : zs = [] := List.length_eq_zero_iff.1 hl
    subst hz
    exact (Any.slices_Compact_int_empty Tryz.laysCompact none 0 w).mono fun e w' ⟨he, hw⟩ => ⟨none, 0, he, by rw [hw]; exact World.ownsRow_nil _ _ _ _, by rw [hw]; exact Below.refl _ _⟩
  · obtain ⟨g, cap, rfl, hbg, hgl, hncap, hcm, hlen, hH⟩ := Lib.holds_of_ownsRow h hv
    have hc := Any.slices_Compact_int Tryz.laysCompact g 0 cap zs w hH (by omega) (by omega)
    rw [hlen] at hc
    have hle := Lib.compact_length_le zs
    refine hc.mono fun e w' ⟨he, q, hw⟩ => ⟨_, _, he, ?_, ?_⟩
    · rw [hw]
      have := Lib.ownsRow_putRow (q := q) (k := (Lib.compact zs).length) (ys := Lib.compact zs ++ List.replicate (n - (Lib.compact zs).length) 0) h (by simp; omega) (by omega)
      rw [List.take_left] at this
      exact this
    · rw [hw]; exact Lib.below_putRow (Below.refl base w) hbg

theorem rows_apart {w : World} {b b' s s' n n' : Nat} {e e' : TypeId} {v v' : Value} {xs xs' : List Value} (h : w.ownsRow b e s v n xs) (h' : w.ownsRow b' e' s' v' n' xs') (hne : e ≠ e') : v.ownBlock = none ∨ v.ownBlock ≠ v'.ownBlock := by
  rcases h.2 with ⟨rfl, _⟩ | ⟨g, cap, cur, rfl, _, hg, _⟩
  · exact .inl rfl
  · right
    intro e1
    rcases h'.2 with ⟨rfl, _⟩ | ⟨g', cap', cur', rfl, _, hg', _⟩
    · cases e1
    · have : g = g' := by simpa [Value.ownBlock] using e1
      subst this
      rw [hg] at hg'
      injection hg' with hg'
      injection hg' with _ h2
      exact hne h2
end Go.Proofs.YtaceaifoajkgaaaGreatDoor
