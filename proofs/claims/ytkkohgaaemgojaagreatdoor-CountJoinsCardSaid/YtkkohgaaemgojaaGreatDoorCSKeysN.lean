/- slices.AppendSeq over maps.Keys of a map of one node. -/
import Derived.Test.YtkkohgaaemgojaaGreatDoorCSKeysZ
namespace Go.Proofs.YtkkohgaaemgojaaGreatDoor
open Go.Proofs Go.RowKit Go.ChangeMaps
theorem run_next_first {P : Program} (W : World) (ty : TypeId) (r m cl : Nat) (e : MapEntry) (hr : W.heap[r]? = some (.mapIter (some m) cl #[] cl)) (hm : W.heap[m]? = some (.map #[e] cl)) (hb : e.born < cl) :
    (Instr.next (.pointer (some ⟨r, 0, none⟩)) false ty).run P W = .ok (.tuple #[.bool true, e.key, e.val]) (setBlock W r (.mapIter (some m) cl #[e.born] cl)) := by
  have h1 : ¬ cl ≤ e.born := by omega
  simp [Instr.next, getObj, Sem.run, hr, hm, Result.andThen, choose, Question.forced, hb, h1, setObj, setBlock]
theorem run_next_last {P : Program} (W : World) (ty : TypeId) (r m cl : Nat) (e : MapEntry) (hr : W.heap[r]? = some (.mapIter (some m) cl #[e.born] cl)) (hm : W.heap[m]? = some (.map #[e] cl)) (hb : e.born < cl) :
    (Instr.next (.pointer (some ⟨r, 0, none⟩)) false ty).run P W = .ok (.tuple #[.bool false]) W := by
  have h1 : ¬ cl ≤ e.born := by omega
  simp [Instr.next, getObj, Sem.run, hr, hm, Result.andThen, choose, Question.forced, hb, h1]
theorem run_entry_one {P : Program} (W : World) (r m cl : Nat) (e : MapEntry) (hr : W.heap[r]? = some (.mapIter (some m) cl #[e.born] cl)) (hm : W.heap[m]? = some (.map #[e] cl)) :
    (Instr.entry (.pointer (some ⟨r, 0, none⟩))).run P W = .ok (.tuple #[e.key, e.val]) W := by
  simp [Instr.entry, getObj, Sem.run, hr, hm, Result.andThen]

set_option maxHeartbeats 1000000 in
theorem keysOneN (F : Fence) (n : Nat) (hK : F.fn 428) (hro : F.round = none) (hn : 1 ≤ n) (l : Nat) (ad : Addr) (m cl : Nat) (e : MapEntry) (a b : Int) (s : ByteArray) (hkey : e.key = .agg #[.int .i64 a, .int .i64 b, .string s]) (J : World → Prop) (W : World) (hbox : W.cell? ad = some (.map (some m)))
    (hm : W.heap[m]? = some (.map #[e] cl)) (hb : e.born < cl)
    (hY : ∀ W1, Below W.heap.size W W1 → YieldAt F (n - 1) Tryz.prog l #[e.key] W1 fun en W' => en = .returned (.bool true) ∧ J W' ∧ KeepsWalks W1 W') :
    CallsIn F n Tryz.prog 428 #[.func (.yield l) #[] #[], .pointer (some ad)] W fun e W' => (∃ v, e = .returned v) ∧ J W' := by
  obtain ⟨ky, kv, kb⟩ := e
  simp only at hkey hb hY
  subst hkey
  have hml := (Array.getElem?_eq_some_iff.1 hm).1
  have hr1 := run_range_map W 238 _ _ m _ _ Tryz.underlying238 hm
  obtain ⟨W0, hW0⟩ : ∃ W0, W.alloc (.mapIter (some m) cl #[] cl) = W0 := ⟨_, rfl⟩
  have hi0 : W0.heap[W.heap.size]? = some (.mapIter (some m) cl #[] cl) := by rw [← hW0]; exact World.alloc_heap_new W _
  have hm0 : W0.heap[m]? = some (.map #[⟨.agg #[.int .i64 a, .int .i64 b, .string s], kv, kb⟩] cl) := by rw [← hW0]; exact (Below.heap_alloc W _ m hml).trans hm
  have hb0 : Below W.heap.size W W0 := by rw [← hW0]; exact (Below.refl _ W).alloc (Nat.le_refl _) _
  have hs0 : W0.heap.size = W.heap.size + 1 := by rw [← hW0]; simp
  rw [hW0] at hr1
  have hr2 := fun ty => run_next_first (P := Tryz.prog) W0 ty _ m cl _ hi0 hm0 hb
  obtain ⟨W1, hW1⟩ : ∃ W1, setBlock W0 W.heap.size (.mapIter (some m) cl #[kb] cl) = W1 := ⟨_, rfl⟩
  rw [hW1] at hr2
  have hi1 : W1.heap[W.heap.size]? = some (.mapIter (some m) cl #[kb] cl) := by rw [← hW1]; simp [setBlock, hs0]
  have hm1 : W1.heap[m]? = some (.map #[⟨.agg #[.int .i64 a, .int .i64 b, .string s], kv, kb⟩] cl) := by rw [← hW1]; simp only [setBlock]; rw [Array.getElem?_setIfInBounds_ne (by omega)]; exact hm0
  have hs1 : W1.heap.size = W.heap.size + 1 := by rw [← hW1]; simp [setBlock, hs0]
  have hb1 : Below W.heap.size W W1 := by
    obtain ⟨b1, b2, b3, b4, b5⟩ := hb0
    rw [← hW1]
    refine ⟨b1, b2, b3, by simp [setBlock, hs0], fun k hk => ?_⟩
    simp only [setBlock]
    rw [Array.getElem?_setIfInBounds_ne (by omega)]
    exact b5 k hk
  have hr3 := run_entry_one (P := Tryz.prog) W1 _ m cl _ hi1 hm1
  refine callsIn_of_wp Tryz.func428 rfl hK ?_ hro
  simp only [Tryz.ntmps428, List.size_toArray, List.length_cons, List.length_nil, Nat.reduceAdd, Nat.reduceSub, Array.replicate_succ, Array.replicate_zero, List.push_toArray, List.append_toArray, List.nil_append, List.cons_append]
  gi_wp2_with (first
    | (gi_at_range; refine wpListIn_eq rfl (by simp) (by simp) (by simp) (v := .pointer (some ⟨W.heap.size, 0, none⟩)) (w' := W0) (by simp [execOp, Act.eval, hr1, Result.andThen]) ?_)
    | gi_in)
  try go_frame
  refine wpIn_loop_rounds 2 ?_
  rw [roundsIn_succ]
  have hb1' : Below W.heap.size W (W1.alloc (.cells #[.int .i64 a, .int .i64 b, .string s] 232)) := hb1.alloc hb1.size _
  obtain ⟨fn, tmps, assign, body, hy, hR⟩ := hY _ hb1'
  gi_wp2_with (first
    | (gi_at_next; refine wpListIn_eq rfl (by simp) (by simp) (by simp) (v := .tuple #[.bool true, .agg #[.int .i64 a, .int .i64 b, .string s], kv]) (w' := W1) (by simp [execOp, Act.eval, hr2, Result.andThen]) ?_)
    | gi_in)
  refine hR.mono ?_
  have hi1' := (Below.heap_alloc W1 (.cells #[.int .i64 a, .int .i64 b, .string s] 232) _ (Array.getElem?_eq_some_iff.1 hi1).1).trans hi1
  have hm1' := (Below.heap_alloc W1 (.cells #[.int .i64 a, .int .i64 b, .string s] 232) _ (Array.getElem?_eq_some_iff.1 hm1).1).trans hm1
  rintro en W3 ⟨rfl, hJ, hk⟩
  have hi3 := hk.same _ _ hi1' rfl
  have hm3 := hk.same _ _ hm1' rfl
  have hr4 := fun ty => run_next_last (P := Tryz.prog) W3 ty _ m cl _ hi3 hm3 hb
  gi_wp2
  rw [roundsIn_succ]
  gi_wp2_with (first
    | (gi_at_next; refine wpListIn_eq rfl (by simp) (by simp) (by simp) (v := .tuple #[.bool false]) (w' := W3) (by simp [execOp, Act.eval, hr4, Result.andThen]) ?_)
    | gi_in)
  go_end0
  exact ⟨⟨_, rfl⟩, hJ⟩
end Go.Proofs.YtkkohgaaemgojaaGreatDoor
