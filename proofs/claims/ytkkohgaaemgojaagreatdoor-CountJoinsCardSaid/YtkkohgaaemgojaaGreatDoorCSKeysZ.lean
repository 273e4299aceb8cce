/- slices.AppendSeq over maps.Keys of a map without entries, at each instance of the program. -/
import Derived.Test.YtkkohgaaemgojaaGreatDoorAEe
import Derived.Test.YtkkohgaaemgojaaGreatDoorProg
import Derived.Shelf.AbstractIn
import Derived.RangeFuncSeq
import Derived.Sort.MapsRangeIn
import Derived.WalkKit
import Derived.OwnWalkIn
import Derived.TacticsInMore
import Derived.RegionIn
import Derived.LoopNIn
import Derived.LoopIn
import Derived.RangeFuncGives
import Derived.Maps.AppendAt
namespace Go.Proofs.YtkkohgaaemgojaaGreatDoor
open Go.Proofs Go.RowKit Go.ChangeMaps
section
variable {F : Fence} {n : Nat} {P : Program} {ops : Array Oper} {Q : Exit → Act → World → Prop} {rest : List Oper} {a : Act} {w w' : World} {o : Oper} {v : Value}
theorem wpListIn_eq (hg : o.guard = none) (hp : ∀ c, o.op ≠ .call c) (hd : ∀ c, o.op ≠ .defer c) (hgo : ∀ c, o.op ≠ .go c) (hr : (execOp a.eval o).run P w = .ok (.value v) w') (hk : wpListIn F n P ops Q rest (a.put o.dst v) w') : wpListIn F n P ops Q (o :: rest) a w := by
  refine wpListIn_plain hg fun K' hK' => ?_
  unfold Oper.wpIn
  refine ⟨?_, ?_⟩
  · cases h : o.op <;> simp_all [Oper.about]
  · rw [Oper.semAt_plain F _ _ (by intro c h; first | exact hp c h | exact hd c h)]
    rw [hr]
    simp only [Oper.uponIn]
    exact hK' _ _ hk
end

theorem run_next_done {P : Program} (W : World) (ty : TypeId) (r : Nat) (h : (∃ s seen c, W.heap[r]? = some (.mapIter none s seen c)) ∨ ∃ m s cl, W.heap[r]? = some (.mapIter (some m) s #[] cl) ∧ ∃ c2, W.heap[m]? = some (.map #[] c2)) :
    (Instr.next (.pointer (some ⟨r, 0, none⟩)) false ty).run P W = .ok (.tuple #[.bool false]) W := by
  rcases h with ⟨s, seen, c, h⟩ | ⟨m, s, cl, h, c2, h2⟩
  · simp [Instr.next, getObj, Sem.run, h, Result.andThen]
  · simp [Instr.next, getObj, Sem.run, h, h2, Result.andThen, choose, Question.forced]


theorem kv_grownBy_putObj (W : World) (l : Nat) (o : Obj) : W.grownBy (W.putObj l o) (some l) :=
  ⟨rfl, rfl, rfl, by simp, fun k _ hk => World.putObj_heap_other (fun e => hk (by rw [e]))⟩
theorem kv_grownBy_setCell0 (W : World) (b : Nat) (v : Value) : W.grownBy (W.setCell ⟨b, 0, none⟩ v) (some b) :=
  ⟨rfl, rfl, rfl, (KeepsWalks.setCell W _ v).size, fun k _ hk => Below.heap_setCell _ _ _ k (fun e => hk (by rw [e]))⟩
theorem kv_cell_of_box {W : World} {B : Nat} {v : Value} {t : TypeId} (h : W.heap[B]? = some (.cells #[v] t (0, 0))) : W.cell? ⟨B, 0, none⟩ = some v ∧ W.frozen? ⟨B, 0, none⟩ = false := by
  constructor <;> simp [World.cell?, World.frozen?, h]
theorem kv_heap_setCell_box {W : World} {B : Nat} {v : Value} {t : TypeId} (v' : Value) (h : W.heap[B]? = some (.cells #[v] t (0, 0))) : (W.setCell ⟨B, 0, none⟩ v').heap[B]? = some (.cells #[v'] t (0, 0)) := by
  obtain ⟨hlt, hk⟩ := Array.getElem?_eq_some_iff.1 h
  show (W.heap.modify B _)[B]? = _
  rw [Array.getElem?_eq_getElem (by rw [Array.size_modify]; exact hlt), Array.getElem_modify_self, hk]
  rfl
theorem kv_ownsRow_nil (W : World) (base : Nat) (e : TypeId) (size : Nat) : W.ownsRow base e size (.slice none 0 0) 0 [] := ⟨by simp, .inl ⟨rfl, rfl⟩⟩


set_option maxHeartbeats 1000000 in
theorem keysZeroI (F : Fence) (n : Nat) (hK : F.fn 288) (hro : F.round = none) (l : Nat) (ad : Addr) (mb : Option Nat) (W : World) (hbox : W.cell? ad = some (.map mb))
    (hm : ∀ r, mb = some r → ∃ cl, W.heap[r]? = some (.map #[] cl)) :
    CallsIn F n Tryz.prog 288 #[.func (.yield l) #[] #[], .pointer (some ad)] W fun e W' => (∃ v, e = .returned v) ∧ Below W.heap.size W W' := by
  have hr : ∃ it, (Instr.range 209 (.map mb)).run Tryz.prog W = .ok (.pointer (some ⟨W.heap.size, 0, none⟩)) (W.alloc it) ∧ ∀ ty, (Instr.next (.pointer (some ⟨W.heap.size, 0, none⟩)) false ty).run Tryz.prog (W.alloc it) = .ok (.tuple #[.bool false]) (W.alloc it) := by
    cases mb with
    | none => exact ⟨_, run_range_nilMap W 209 _ _ Tryz.underlying209, fun ty => run_next_done _ _ _ (.inl ⟨_, _, _, World.alloc_heap_new W _⟩)⟩
    | some r =>
      obtain ⟨cl, hb⟩ := hm r rfl
      refine ⟨_, run_range_map W 209 _ _ r _ _ Tryz.underlying209 hb, fun ty => run_next_done _ _ _ (.inr ⟨r, cl, cl, World.alloc_heap_new W _, cl, ?_⟩)⟩
      exact (Below.heap_alloc W _ r (Array.getElem?_eq_some_iff.1 hb).1).trans hb
  obtain ⟨it, hr1, hr2⟩ := hr
  refine callsIn_of_wp Tryz.func288 rfl hK ?_ hro
  simp only [Tryz.ntmps288, List.size_toArray, List.length_cons, List.length_nil, Nat.reduceAdd, Nat.reduceSub, Array.replicate_succ, Array.replicate_zero, List.push_toArray, List.append_toArray, List.nil_append, List.cons_append]
  gi_wp2_with (first
    | (gi_at_range; refine wpListIn_eq rfl (by simp) (by simp) (by simp) (v := .pointer (some ⟨W.heap.size, 0, none⟩)) (w' := W.alloc it) (by simp [execOp, Act.eval, hr1, Result.andThen]) ?_)
    | gi_in)
  go_frame
  refine wpIn_loop_rounds 1 ?_
  rw [roundsIn_succ]
  gi_wp2_with (first
    | (gi_at_next; refine wpListIn_eq rfl (by simp) (by simp) (by simp) (v := .tuple #[.bool false]) (w' := W.alloc it) (by simp [execOp, Act.eval, hr2, Result.andThen]) ?_)
    | gi_in)
  go_end0
  exact ⟨⟨_, rfl⟩, (Below.refl _ W).alloc (Nat.le_refl _) _⟩

set_option maxRecDepth 100000 in
set_option maxHeartbeats 2000000 in
theorem appendZeroI (F : Fence) (n : Nat) (hF : F.fn 361) (hK : F.fn 288) (hro : F.round = none) (hn : 2 ≤ n) (ad : Addr) (mb : Option Nat) (w : World) (hbox : w.cell? ad = some (.map mb))
    (hm : ∀ r, mb = some r → ∃ cl, w.heap[r]? = some (.map #[] cl)) (had : ad.block < w.heap.size) :
    CallsIn F n Tryz.prog 361 #[.slice none 0 0, .func (.func 288) #[] #[.pointer (some ad)]] w fun en w' => en = .returned (.slice none 0 0) ∧ Below w.heap.size w w' := by
  have h1 : 1 ≤ n := by omega
  refine callsIn_of_wp_marks Tryz.func361 rfl hF ?_ hro
  simp only [Tryz.ntmps361, List.size_toArray, List.length_cons, List.length_nil, Nat.reduceAdd, Nat.reduceSub, Array.replicate_succ, Array.replicate_zero, List.push_toArray, List.append_toArray, List.nil_append, List.cons_append]
  gi_wp2
  refine wpIn_rangeFunc ?_
  intro fn hfn
  rw [hro]
  obtain ⟨W0, hW0⟩ : ∃ W0, w.alloc (.cells #[.slice none 0 0] 44) = W0 := ⟨_, rfl⟩
  have hs0 : W0.heap.size = w.heap.size + 1 := by rw [← hW0]; simp
  have hv0 : W0.heap[w.heap.size]? = some (.cells #[.slice none 0 0] 44 (0, 0)) := by rw [← hW0]; exact World.alloc_heap_new w _
  have hb0 : Below w.heap.size w W0 := by rw [← hW0]; exact (Below.refl _ w).alloc (Nat.le_refl _) _
  rw [hW0]
  have hen := run_enterLoop_outer (P := Tryz.prog) (w := W0) fn #[Value.slice none 0 0, Value.func (Fn.func 288) #[] #[Value.pointer (some ad)], Value.pointer (some { block := w.heap.size, off := 0 }), undef, Value.slice none 0 0, undef, Value.func (Fn.func 288) #[] #[Value.pointer (some ad)], undef, undef, undef, undef, undef, undef] #[7]
  simp only [hs0] at hen
  refine ⟨(w.heap.size + 2), [{ target := .collected (w.heap.size + 1), args := #[] }], _, { target := .fn (.func 288) #[.pointer (some ad)], args := #[.func (.yield (w.heap.size + 2)) #[] #[]] }, _, 288,
    #[.func (.yield (w.heap.size + 2)) #[] #[]] ++ #[.pointer (some ad)], _, hen _ _, by simp [resolve, go_sem]; rfl, ?_, by simp [invoke, go_sem, Tryz.call288]; rfl, fun _ => h1, ?_⟩
  · intro f' hf'; simp [Target.leads] at hf'; subst hf'; exact hK
  clear hen
  generalize hrec : Loop.mk _ _ _ _ _ _ _ _ = r
  obtain ⟨W1, hW1⟩ : ∃ W1, (W0.alloc (.deferred (some []))).alloc (.loop r) = W1 := ⟨_, rfl⟩
  rw [hW1]
  have hold : ∀ k, k < W0.heap.size → W1.heap[k]? = W0.heap[k]? := fun k hk => by
    rw [← hW1]; exact (Below.heap_alloc _ _ k (by simp; omega)).trans (Below.heap_alloc _ _ k (by omega))
  have hb1 : Below w.heap.size w W1 := by rw [← hW1]; exact (hb0.alloc hb0.size _).alloc (by have := hb0.size; simp; omega) _
  have hs1 : W1.heap.size = (w.heap.size + 1) + 2 := by rw [← hW1]; simp [hs0]
  have hv1 : W1.heap[w.heap.size]? = some (.cells #[.slice none 0 0] 44 (0, 0)) := (hold w.heap.size (by omega)).trans hv0
  have hL1 : W1.heap[w.heap.size + 2]? = some (.loop r) := by rw [← hW1]; have := World.alloc_heap_new (W0.alloc (.deferred (some []))) (.loop r); rwa [World.size_alloc, hs0] at this
  have hK1 : W1.heap[w.heap.size + 1]? = some (.deferred (some [])) := by rw [← hW1, ← hs0]; exact (Below.heap_alloc _ _ _ (by simp)).trans (World.alloc_heap_new W0 _)
  clear hW1
  have hst : r.state ≠ .busy := by rw [← hrec]; simp
  have hpe : r.pending = none := by rw [← hrec]
  have hrange : (#[Value.func (.yield (w.heap.size + 2)) #[] #[]] ++ #[Value.pointer (some ad)] : Array Value) = #[.func (.yield (w.heap.size + 2)) #[] #[], .pointer (some ad)] := rfl
  rw [hrange]
  refine (keysZeroI F (n - 1) hK hro (w.heap.size + 2) ad mb W1 ((hb1.cell had).trans hbox) (fun r hr => ?_)).mono ?_
  · obtain ⟨cl, hc⟩ := hm r hr
    exact ⟨cl, (hb1.block r (Array.getElem?_eq_some_iff.1 hc).1).trans hc⟩
  · rintro en W2 ⟨⟨v0, rfl⟩, h2⟩
    have hv2 : W2.heap[w.heap.size]? = some (.cells #[.slice none 0 0] 44 (0, 0)) := (h2.block _ (by omega)).trans hv1
    have hL2 : W2.heap[w.heap.size + 2]? = some (.loop r) := (h2.block _ (by omega)).trans hL1
    have hK2 : W2.heap[w.heap.size + 1]? = some (.deferred (some [])) := (h2.block _ (by omega)).trans hK1
    have hb2 : Below w.heap.size w W2 := hb1.trans (h2.mono (by omega))
    have hend := run_endLoop (P := Tryz.prog) hL2 hst
    obtain ⟨W3, hW3⟩ : ∃ W3, W2.putObj (w.heap.size + 2) (.loop { r with state := .exhausted }) = W3 := ⟨_, rfl⟩
    rw [hW3] at hend
    have hg3 : W2.grownBy W3 (some (w.heap.size + 2)) := by rw [← hW3]; exact kv_grownBy_putObj _ _ _
    have hv3 : W3.heap[w.heap.size]? = some (.cells #[.slice none 0 0] 44 (0, 0)) := by rw [← hW3]; exact (World.putObj_heap_other (by omega)).trans hv2
    have hK3 : W3.heap[w.heap.size + 1]? = some (.deferred (some [])) := by rw [← hW3]; exact (World.putObj_heap_other (by omega)).trans hK2
    have hb3 : Below w.heap.size w W3 := hb2.grown hg3 hb2.size (fun k e => by cases e; omega)
    obtain ⟨hc3, hf3⟩ := kv_cell_of_box hv3
    clear hW3
    rw [hpe] at hend
    refine ⟨none, W3, hend, ?_⟩
    gi_wp2
    refine ⟨by simp, .inl ⟨_, _, rfl, run_takeDeferred hK3, ?_⟩⟩
    exact ⟨_, results_tmp rfl _ _ _, rfl, hb3.grown (kv_grownBy_putObj _ _ _) hb3.size (fun k e => by cases e; omega)⟩

set_option maxHeartbeats 1000000 in
theorem keysZeroN (F : Fence) (n : Nat) (hK : F.fn 428) (hro : F.round = none) (l : Nat) (ad : Addr) (mb : Option Nat) (W : World) (hbox : W.cell? ad = some (.map mb))
    (hm : ∀ r, mb = some r → ∃ cl, W.heap[r]? = some (.map #[] cl)) :
    CallsIn F n Tryz.prog 428 #[.func (.yield l) #[] #[], .pointer (some ad)] W fun e W' => (∃ v, e = .returned v) ∧ Below W.heap.size W W' := by
  have hr : ∃ it, (Instr.range 238 (.map mb)).run Tryz.prog W = .ok (.pointer (some ⟨W.heap.size, 0, none⟩)) (W.alloc it) ∧ ∀ ty, (Instr.next (.pointer (some ⟨W.heap.size, 0, none⟩)) false ty).run Tryz.prog (W.alloc it) = .ok (.tuple #[.bool false]) (W.alloc it) := by
    cases mb with
    | none => exact ⟨_, run_range_nilMap W 238 _ _ Tryz.underlying238, fun ty => run_next_done _ _ _ (.inl ⟨_, _, _, World.alloc_heap_new W _⟩)⟩
    | some r =>
      obtain ⟨cl, hb⟩ := hm r rfl
      refine ⟨_, run_range_map W 238 _ _ r _ _ Tryz.underlying238 hb, fun ty => run_next_done _ _ _ (.inr ⟨r, cl, cl, World.alloc_heap_new W _, cl, ?_⟩)⟩
      exact (Below.heap_alloc W _ r (Array.getElem?_eq_some_iff.1 hb).1).trans hb
  obtain ⟨it, hr1, hr2⟩ := hr
  refine callsIn_of_wp Tryz.func428 rfl hK ?_ hro
  simp only [Tryz.ntmps428, List.size_toArray, List.length_cons, List.length_nil, Nat.reduceAdd, Nat.reduceSub, Array.replicate_succ, Array.replicate_zero, List.push_toArray, List.append_toArray, List.nil_append, List.cons_append]
  gi_wp2_with (first
    | (gi_at_range; refine wpListIn_eq rfl (by simp) (by simp) (by simp) (v := .pointer (some ⟨W.heap.size, 0, none⟩)) (w' := W.alloc it) (by simp [execOp, Act.eval, hr1, Result.andThen]) ?_)
    | gi_in)
  go_frame
  refine wpIn_loop_rounds 1 ?_
  rw [roundsIn_succ]
  gi_wp2_with (first
    | (gi_at_next; refine wpListIn_eq rfl (by simp) (by simp) (by simp) (v := .tuple #[.bool false]) (w' := W.alloc it) (by simp [execOp, Act.eval, hr2, Result.andThen]) ?_)
    | gi_in)
  go_end0
  exact ⟨⟨_, rfl⟩, (Below.refl _ W).alloc (Nat.le_refl _) _⟩

set_option maxRecDepth 100000 in
set_option maxHeartbeats 2000000 in
theorem appendZeroN (F : Fence) (n : Nat) (hF : F.fn 427) (hK : F.fn 428) (hro : F.round = none) (hn : 2 ≤ n) (ad : Addr) (mb : Option Nat) (w : World) (hbox : w.cell? ad = some (.map mb))
    (hm : ∀ r, mb = some r → ∃ cl, w.heap[r]? = some (.map #[] cl)) (had : ad.block < w.heap.size) :
    CallsIn F n Tryz.prog 427 #[.slice none 0 0, .func (.func 428) #[] #[.pointer (some ad)]] w fun en w' => en = .returned (.slice none 0 0) ∧ Below w.heap.size w w' := by
  have h1 : 1 ≤ n := by omega
  refine callsIn_of_wp_marks Tryz.func427 rfl hF ?_ hro
  simp only [Tryz.ntmps427, List.size_toArray, List.length_cons, List.length_nil, Nat.reduceAdd, Nat.reduceSub, Array.replicate_succ, Array.replicate_zero, List.push_toArray, List.append_toArray, List.nil_append, List.cons_append]
  gi_wp2
  refine wpIn_rangeFunc ?_
  intro fn hfn
  rw [hro]
  obtain ⟨W0, hW0⟩ : ∃ W0, w.alloc (.cells #[.slice none 0 0] 407) = W0 := ⟨_, rfl⟩
  have hs0 : W0.heap.size = w.heap.size + 1 := by rw [← hW0]; simp
  have hv0 : W0.heap[w.heap.size]? = some (.cells #[.slice none 0 0] 407 (0, 0)) := by rw [← hW0]; exact World.alloc_heap_new w _
  have hb0 : Below w.heap.size w W0 := by rw [← hW0]; exact (Below.refl _ w).alloc (Nat.le_refl _) _
  rw [hW0]
  have hen := run_enterLoop_outer (P := Tryz.prog) (w := W0) fn #[Value.slice none 0 0, Value.func (Fn.func 428) #[] #[Value.pointer (some ad)], Value.pointer (some { block := w.heap.size, off := 0 }), undef, Value.slice none 0 0, undef, Value.func (Fn.func 428) #[] #[Value.pointer (some ad)], undef, undef, undef, undef, undef, undef] #[7]
  simp only [hs0] at hen
  refine ⟨(w.heap.size + 2), [{ target := .collected (w.heap.size + 1), args := #[] }], _, { target := .fn (.func 428) #[.pointer (some ad)], args := #[.func (.yield (w.heap.size + 2)) #[] #[]] }, _, 428,
    #[.func (.yield (w.heap.size + 2)) #[] #[]] ++ #[.pointer (some ad)], _, hen _ _, by simp [resolve, go_sem]; rfl, ?_, by simp [invoke, go_sem, Tryz.call428]; rfl, fun _ => h1, ?_⟩
  · intro f' hf'; simp [Target.leads] at hf'; subst hf'; exact hK
  clear hen
  generalize hrec : Loop.mk _ _ _ _ _ _ _ _ = r
  obtain ⟨W1, hW1⟩ : ∃ W1, (W0.alloc (.deferred (some []))).alloc (.loop r) = W1 := ⟨_, rfl⟩
  rw [hW1]
  have hold : ∀ k, k < W0.heap.size → W1.heap[k]? = W0.heap[k]? := fun k hk => by
    rw [← hW1]; exact (Below.heap_alloc _ _ k (by simp; omega)).trans (Below.heap_alloc _ _ k (by omega))
  have hb1 : Below w.heap.size w W1 := by rw [← hW1]; exact (hb0.alloc hb0.size _).alloc (by have := hb0.size; simp; omega) _
  have hs1 : W1.heap.size = (w.heap.size + 1) + 2 := by rw [← hW1]; simp [hs0]
  have hv1 : W1.heap[w.heap.size]? = some (.cells #[.slice none 0 0] 407 (0, 0)) := (hold w.heap.size (by omega)).trans hv0
  have hL1 : W1.heap[w.heap.size + 2]? = some (.loop r) := by rw [← hW1]; have := World.alloc_heap_new (W0.alloc (.deferred (some []))) (.loop r); rwa [World.size_alloc, hs0] at this
  have hK1 : W1.heap[w.heap.size + 1]? = some (.deferred (some [])) := by rw [← hW1, ← hs0]; exact (Below.heap_alloc _ _ _ (by simp)).trans (World.alloc_heap_new W0 _)
  clear hW1
  have hst : r.state ≠ .busy := by rw [← hrec]; simp
  have hpe : r.pending = none := by rw [← hrec]
  have hrange : (#[Value.func (.yield (w.heap.size + 2)) #[] #[]] ++ #[Value.pointer (some ad)] : Array Value) = #[.func (.yield (w.heap.size + 2)) #[] #[], .pointer (some ad)] := rfl
  rw [hrange]
  refine (keysZeroN F (n - 1) hK hro (w.heap.size + 2) ad mb W1 ((hb1.cell had).trans hbox) (fun r hr => ?_)).mono ?_
  · obtain ⟨cl, hc⟩ := hm r hr
    exact ⟨cl, (hb1.block r (Array.getElem?_eq_some_iff.1 hc).1).trans hc⟩
  · rintro en W2 ⟨⟨v0, rfl⟩, h2⟩
    have hv2 : W2.heap[w.heap.size]? = some (.cells #[.slice none 0 0] 407 (0, 0)) := (h2.block _ (by omega)).trans hv1
    have hL2 : W2.heap[w.heap.size + 2]? = some (.loop r) := (h2.block _ (by omega)).trans hL1
    have hK2 : W2.heap[w.heap.size + 1]? = some (.deferred (some [])) := (h2.block _ (by omega)).trans hK1
    have hb2 : Below w.heap.size w W2 := hb1.trans (h2.mono (by omega))
    have hend := run_endLoop (P := Tryz.prog) hL2 hst
    obtain ⟨W3, hW3⟩ : ∃ W3, W2.putObj (w.heap.size + 2) (.loop { r with state := .exhausted }) = W3 := ⟨_, rfl⟩
    rw [hW3] at hend
    have hg3 : W2.grownBy W3 (some (w.heap.size + 2)) := by rw [← hW3]; exact kv_grownBy_putObj _ _ _
    have hv3 : W3.heap[w.heap.size]? = some (.cells #[.slice none 0 0] 407 (0, 0)) := by rw [← hW3]; exact (World.putObj_heap_other (by omega)).trans hv2
    have hK3 : W3.heap[w.heap.size + 1]? = some (.deferred (some [])) := by rw [← hW3]; exact (World.putObj_heap_other (by omega)).trans hK2
    have hb3 : Below w.heap.size w W3 := hb2.grown hg3 hb2.size (fun k e => by cases e; omega)
    obtain ⟨hc3, hf3⟩ := kv_cell_of_box hv3
    clear hW3
    rw [hpe] at hend
    refine ⟨none, W3, hend, ?_⟩
    gi_wp2
    refine ⟨by simp, .inl ⟨_, _, rfl, run_takeDeferred hK3, ?_⟩⟩
    exact ⟨_, results_tmp rfl _ _ _, rfl, hb3.grown (kv_grownBy_putObj _ _ _) hb3.size (fun k e => by cases e; omega)⟩

set_option maxHeartbeats 1000000 in
theorem keysZeroE (F : Fence) (n : Nat) (hK : F.fn 456) (hro : F.round = none) (l : Nat) (ad : Addr) (mb : Option Nat) (W : World) (hbox : W.cell? ad = some (.map mb))
    (hm : ∀ r, mb = some r → ∃ cl, W.heap[r]? = some (.map #[] cl)) :
    CallsIn F n Tryz.prog 456 #[.func (.yield l) #[] #[], .pointer (some ad)] W fun e W' => (∃ v, e = .returned v) ∧ Below W.heap.size W W' := by
  have hr : ∃ it, (Instr.range 235 (.map mb)).run Tryz.prog W = .ok (.pointer (some ⟨W.heap.size, 0, none⟩)) (W.alloc it) ∧ ∀ ty, (Instr.next (.pointer (some ⟨W.heap.size, 0, none⟩)) false ty).run Tryz.prog (W.alloc it) = .ok (.tuple #[.bool false]) (W.alloc it) := by
    cases mb with
    | none => exact ⟨_, run_range_nilMap W 235 _ _ Tryz.underlying235, fun ty => run_next_done _ _ _ (.inl ⟨_, _, _, World.alloc_heap_new W _⟩)⟩
    | some r =>
      obtain ⟨cl, hb⟩ := hm r rfl
      refine ⟨_, run_range_map W 235 _ _ r _ _ Tryz.underlying235 hb, fun ty => run_next_done _ _ _ (.inr ⟨r, cl, cl, World.alloc_heap_new W _, cl, ?_⟩)⟩
      exact (Below.heap_alloc W _ r (Array.getElem?_eq_some_iff.1 hb).1).trans hb
  obtain ⟨it, hr1, hr2⟩ := hr
  refine callsIn_of_wp Tryz.func456 rfl hK ?_ hro
  simp only [Tryz.ntmps456, List.size_toArray, List.length_cons, List.length_nil, Nat.reduceAdd, Nat.reduceSub, Array.replicate_succ, Array.replicate_zero, List.push_toArray, List.append_toArray, List.nil_append, List.cons_append]
  gi_wp2_with (first
    | (gi_at_range; refine wpListIn_eq rfl (by simp) (by simp) (by simp) (v := .pointer (some ⟨W.heap.size, 0, none⟩)) (w' := W.alloc it) (by simp [execOp, Act.eval, hr1, Result.andThen]) ?_)
    | gi_in)
  go_frame
  refine wpIn_loop_rounds 1 ?_
  rw [roundsIn_succ]
  gi_wp2_with (first
    | (gi_at_next; refine wpListIn_eq rfl (by simp) (by simp) (by simp) (v := .tuple #[.bool false]) (w' := W.alloc it) (by simp [execOp, Act.eval, hr2, Result.andThen]) ?_)
    | gi_in)
  go_end0
  exact ⟨⟨_, rfl⟩, (Below.refl _ W).alloc (Nat.le_refl _) _⟩

set_option maxRecDepth 100000 in
set_option maxHeartbeats 2000000 in
theorem appendZeroE (F : Fence) (n : Nat) (hF : F.fn 481) (hK : F.fn 456) (hro : F.round = none) (hn : 2 ≤ n) (ad : Addr) (mb : Option Nat) (w : World) (hbox : w.cell? ad = some (.map mb))
    (hm : ∀ r, mb = some r → ∃ cl, w.heap[r]? = some (.map #[] cl)) (had : ad.block < w.heap.size) :
    CallsIn F n Tryz.prog 481 #[.slice none 0 0, .func (.func 456) #[] #[.pointer (some ad)]] w fun en w' => en = .returned (.slice none 0 0) ∧ Below w.heap.size w w' := by
  have h1 : 1 ≤ n := by omega
  refine callsIn_of_wp_marks Tryz.func481 rfl hF ?_ hro
  simp only [Tryz.ntmps481, List.size_toArray, List.length_cons, List.length_nil, Nat.reduceAdd, Nat.reduceSub, Array.replicate_succ, Array.replicate_zero, List.push_toArray, List.append_toArray, List.nil_append, List.cons_append]
  gi_wp2
  refine wpIn_rangeFunc ?_
  intro fn hfn
  rw [hro]
  obtain ⟨W0, hW0⟩ : ∃ W0, w.alloc (.cells #[.slice none 0 0] 447) = W0 := ⟨_, rfl⟩
  have hs0 : W0.heap.size = w.heap.size + 1 := by rw [← hW0]; simp
  have hv0 : W0.heap[w.heap.size]? = some (.cells #[.slice none 0 0] 447 (0, 0)) := by rw [← hW0]; exact World.alloc_heap_new w _
  have hb0 : Below w.heap.size w W0 := by rw [← hW0]; exact (Below.refl _ w).alloc (Nat.le_refl _) _
  rw [hW0]
  have hen := run_enterLoop_outer (P := Tryz.prog) (w := W0) fn #[Value.slice none 0 0, Value.func (Fn.func 456) #[] #[Value.pointer (some ad)], Value.pointer (some { block := w.heap.size, off := 0 }), undef, Value.slice none 0 0, undef, Value.func (Fn.func 456) #[] #[Value.pointer (some ad)], undef, undef, undef, undef, undef, undef] #[7]
  simp only [hs0] at hen
  refine ⟨(w.heap.size + 2), [{ target := .collected (w.heap.size + 1), args := #[] }], _, { target := .fn (.func 456) #[.pointer (some ad)], args := #[.func (.yield (w.heap.size + 2)) #[] #[]] }, _, 456,
    #[.func (.yield (w.heap.size + 2)) #[] #[]] ++ #[.pointer (some ad)], _, hen _ _, by simp [resolve, go_sem]; rfl, ?_, by simp [invoke, go_sem, Tryz.call456]; rfl, fun _ => h1, ?_⟩
  · intro f' hf'; simp [Target.leads] at hf'; subst hf'; exact hK
  clear hen
  generalize hrec : Loop.mk _ _ _ _ _ _ _ _ = r
  obtain ⟨W1, hW1⟩ : ∃ W1, (W0.alloc (.deferred (some []))).alloc (.loop r) = W1 := ⟨_, rfl⟩
  rw [hW1]
  have hold : ∀ k, k < W0.heap.size → W1.heap[k]? = W0.heap[k]? := fun k hk => by
    rw [← hW1]; exact (Below.heap_alloc _ _ k (by simp; omega)).trans (Below.heap_alloc _ _ k (by omega))
  have hb1 : Below w.heap.size w W1 := by rw [← hW1]; exact (hb0.alloc hb0.size _).alloc (by have := hb0.size; simp; omega) _
  have hs1 : W1.heap.size = (w.heap.size + 1) + 2 := by rw [← hW1]; simp [hs0]
  have hv1 : W1.heap[w.heap.size]? = some (.cells #[.slice none 0 0] 447 (0, 0)) := (hold w.heap.size (by omega)).trans hv0
  have hL1 : W1.heap[w.heap.size + 2]? = some (.loop r) := by rw [← hW1]; have := World.alloc_heap_new (W0.alloc (.deferred (some []))) (.loop r); rwa [World.size_alloc, hs0] at this
  have hK1 : W1.heap[w.heap.size + 1]? = some (.deferred (some [])) := by rw [← hW1, ← hs0]; exact (Below.heap_alloc _ _ _ (by simp)).trans (World.alloc_heap_new W0 _)
  clear hW1
  have hst : r.state ≠ .busy := by rw [← hrec]; simp
  have hpe : r.pending = none := by rw [← hrec]
  have hrange : (#[Value.func (.yield (w.heap.size + 2)) #[] #[]] ++ #[Value.pointer (some ad)] : Array Value) = #[.func (.yield (w.heap.size + 2)) #[] #[], .pointer (some ad)] := rfl
  rw [hrange]
  refine (keysZeroE F (n - 1) hK hro (w.heap.size + 2) ad mb W1 ((hb1.cell had).trans hbox) (fun r hr => ?_)).mono ?_
  · obtain ⟨cl, hc⟩ := hm r hr
    exact ⟨cl, (hb1.block r (Array.getElem?_eq_some_iff.1 hc).1).trans hc⟩
  · rintro en W2 ⟨⟨v0, rfl⟩, h2⟩
    have hv2 : W2.heap[w.heap.size]? = some (.cells #[.slice none 0 0] 447 (0, 0)) := (h2.block _ (by omega)).trans hv1
    have hL2 : W2.heap[w.heap.size + 2]? = some (.loop r) := (h2.block _ (by omega)).trans hL1
    have hK2 : W2.heap[w.heap.size + 1]? = some (.deferred (some [])) := (h2.block _ (by omega)).trans hK1
    have hb2 : Below w.heap.size w W2 := hb1.trans (h2.mono (by omega))
    have hend := run_endLoop (P := Tryz.prog) hL2 hst
    obtain ⟨W3, hW3⟩ : ∃ W3, W2.putObj (w.heap.size + 2) (.loop { r with state := .exhausted }) = W3 := ⟨_, rfl⟩
    rw [hW3] at hend
    have hg3 : W2.grownBy W3 (some (w.heap.size + 2)) := by rw [← hW3]; exact kv_grownBy_putObj _ _ _
    have hv3 : W3.heap[w.heap.size]? = some (.cells #[.slice none 0 0] 447 (0, 0)) := by rw [← hW3]; exact (World.putObj_heap_other (by omega)).trans hv2
    have hK3 : W3.heap[w.heap.size + 1]? = some (.deferred (some [])) := by rw [← hW3]; exact (World.putObj_heap_other (by omega)).trans hK2
    have hb3 : Below w.heap.size w W3 := hb2.grown hg3 hb2.size (fun k e => by cases e; omega)
    obtain ⟨hc3, hf3⟩ := kv_cell_of_box hv3
    clear hW3
    rw [hpe] at hend
    refine ⟨none, W3, hend, ?_⟩
    gi_wp2
    refine ⟨by simp, .inl ⟨_, _, rfl, run_takeDeferred hK3, ?_⟩⟩
    exact ⟨_, results_tmp rfl _ _ _, rfl, hb3.grown (kv_grownBy_putObj _ _ _) hb3.size (fun k e => by cases e; omega)⟩

end Go.Proofs.YtkkohgaaemgojaaGreatDoor
