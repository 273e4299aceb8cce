/- slices.AppendSeq over maps.Keys of a map of one node: the appended row. -/
import Derived.Test.YtkkohgaaemgojaaGreatDoorCSKeysN
import Derived.Maps.OwnIn
namespace Go.Proofs.YtkkohgaaemgojaaGreatDoor
open Go.Proofs Go.RowKit Go.ChangeMaps
theorem cell_three_at (w : World) (x y z : Value) (t : TypeId) (n : Nat) (hn : n = w.heap.size) : ∀ j u, [x, y, z][j]? = some u → (w.alloc (.cells #[x, y, z] t)).cell? ((⟨n, 0, none⟩ : Addr).add j) = some u := by
  subst hn
  intro j u hj
  have e : (⟨w.heap.size, 0, none⟩ : Addr).add j = ⟨w.heap.size, j, none⟩ := by unfold Addr.add; split <;> simp_all
  rw [e, World.cell?_alloc_at _ _ _ _ rfl]
  simpa using hj

/-- what stands between the rounds -/
structure KvAt (w0 : World) (t et : TypeId) (size : Nat) (Bs l D : Nat) (r : Loop) (cs : List Value) (W : World) : Prop where
  box : ∃ v, W.heap[Bs]? = some (.cells #[v] t (0, 0)) ∧ W.ownsRow w0.heap.size et size v 1 cs
  L : W.heap[l]? = some (.loop { r with state := .ready, pending := none })
  K : W.heap[D]? = some (.deferred (some []))
  below : Below w0.heap.size w0 W

theorem info232 : (Tryz.prog.info? 232).map (fun i => (i.zero, i.size, i.bytes)) = some (some (.agg #[.int .i64 0, .int .i64 0, .string ⟨#[]⟩]), 3, 32) := by kernel_rfl

set_option maxRecDepth 100000 in
set_option maxHeartbeats 2000000 in
theorem appendOneN (F : Fence) (n : Nat) (hF : F.fn 427) (hK0 : F.fn 428) (hro : F.round = none) (hn : 2 ≤ n) (ad : Addr) (m cl : Nat) (a b : Int) (s : ByteArray) (e : MapEntry) (hk : e.key = .agg #[.int .i64 a, .int .i64 b, .string s]) (w : World) (hbox : w.cell? ad = some (.map (some m)))
    (hm : w.heap[m]? = some (.map #[e] cl)) (hb : e.born < cl) (had : ad.block < w.heap.size) :
    CallsIn F n Tryz.prog 427 #[.slice none 0 0, .func (.func 428) #[] #[.pointer (some ad)]] w fun en w' => ∃ v, en = .returned v ∧ w'.ownsRow w.heap.size 232 3 v 1 [.int .i64 a, .int .i64 b, .string s] ∧ Below w.heap.size w w' := by
  have h1 : 1 ≤ n := by omega
  obtain ⟨i0, hi, hz0, hz1, hz2⟩ := info_parts info232
  refine callsIn_of_wp_marks Tryz.func427 rfl hF ?_ hro
  simp only [Tryz.ntmps427, List.size_toArray, List.length_cons, List.length_nil, Nat.reduceAdd, Nat.reduceSub, Array.replicate_succ, Array.replicate_zero, List.push_toArray, List.append_toArray, List.nil_append, List.cons_append]
  gi_wp2
  refine wpIn_rangeFunc ?_
  intro fn hfn
  rw [hro]
  obtain ⟨W0, hW0⟩ : ∃ W0, w.alloc (.cells #[.slice none 0 0] 407) = W0 := ⟨_, rfl⟩
  have hs0 : W0.heap.size = w.heap.size + 1 := by rw [← hW0]; simp
  have hv0 : W0.heap[w.heap.size]? = some (.cells #[.slice none 0 0] 407 (0, 0)) := by rw [← hW0]; exact World.alloc_heap_new w _
  have hb0 : Below w.heap.size w W0 := by rw [← hW0]; exact (Below.refl _ w).alloc (Nat.le_refl _) _
  rw [hW0]
  have hen := run_enterLoop_outer (P := Tryz.prog) (w := W0) fn #[Value.slice none 0 0, Value.func (Fn.func 428) #[] #[Value.pointer (some ad)], Value.pointer (some { block := w.heap.size, off := 0 }), undef, Value.slice none 0 0, undef, Value.func (Fn.func 428) #[] #[Value.pointer (some ad)], undef, undef, undef, undef, undef, undef] #[7]
  simp only [hs0] at hen
  refine ⟨(w.heap.size + 2), [{ target := .collected (w.heap.size + 1), args := #[] }], _, { target := .fn (.func 428) #[.pointer (some ad)], args := #[.func (.yield ((w.heap.size + 2))) #[] #[]] }, _, 428,
    #[.func (.yield ((w.heap.size + 2))) #[] #[]] ++ #[.pointer (some ad)], _, hen _ _, by simp [resolve, go_sem, Result.andThen]; rfl, ?_, by simp [invoke, go_sem, Tryz.call428, Result.andThen]; rfl, fun _ => h1, ?_⟩
  · intro f' hf'; simp [Target.leads] at hf'; subst hf'; exact hK0
  clear hen
  generalize hrec : Loop.mk _ _ _ _ _ _ _ _ = r
  obtain ⟨W1, hW1⟩ : ∃ W1, (W0.alloc (.deferred (some []))).alloc (.loop r) = W1 := ⟨_, rfl⟩
  rw [hW1]
  have hold : ∀ k, k < (w.heap.size + 1) → W1.heap[k]? = W0.heap[k]? := fun k hk => by
    rw [← hW1]; exact (Below.heap_alloc _ _ k (by simp; omega)).trans (Below.heap_alloc _ _ k (by omega))
  have hb1 : Below w.heap.size w W1 := by rw [← hW1]; exact (hb0.alloc hb0.size _).alloc (by have := hb0.size; simp; omega) _
  have hs1 : W1.heap.size = (w.heap.size + 1) + 2 := by rw [← hW1]; simp [hs0]
  have hv1 : W1.heap[w.heap.size]? = some (.cells #[.slice none 0 0] 407 (0, 0)) := (hold w.heap.size (by omega)).trans hv0
  have hL1 : W1.heap[(w.heap.size + 2)]? = some (.loop r) := by rw [← hW1]; have := World.alloc_heap_new (W0.alloc (.deferred (some []))) (.loop r); rwa [World.size_alloc, hs0] at this
  have hK1 : W1.heap[(w.heap.size + 1)]? = some (.deferred (some [])) := by rw [← hW1, ← hs0]; exact (Below.heap_alloc _ _ _ (by simp)).trans (World.alloc_heap_new W0 _)
  clear hW1
  have hml := (Array.getElem?_eq_some_iff.1 hm).1
  have hrange : (#[Value.func (.yield ((w.heap.size + 2))) #[] #[]] ++ #[Value.pointer (some ad)] : Array Value) = #[.func (.yield ((w.heap.size + 2))) #[] #[], .pointer (some ad)] := rfl
  rw [hrange]
  refine (keysOneN F (n - 1) hK0 hro (by omega) ((w.heap.size + 2)) ad m cl e a b s hk (KvAt w 407 232 3 w.heap.size ((w.heap.size + 2)) (w.heap.size + 1) r [.int .i64 a, .int .i64 b, .string s]) W1 ((hb1.cell had).trans hbox) ((hb1.block m hml).trans hm) hb ?_).mono ?_
  · intro W hbW
    have hvW : W.heap[w.heap.size]? = some (.cells #[.slice none 0 0] 407 (0, 0)) := (hbW.block _ (by omega)).trans hv1
    have hLW : W.heap[(w.heap.size + 2)]? = some (.loop r) := (hbW.block _ (by omega)).trans hL1
    have hKW : W.heap[(w.heap.size + 1)]? = some (.deferred (some [])) := (hbW.block _ (by omega)).trans hK1
    have hb1W : Below w.heap.size w W := hb1.trans (hbW.mono (by omega))
    clear hv1 hL1 hK1 hold hb1 hbW hs1
    have hst : r.state = .ready := by rw [← hrec]
    have hps : r.params = #[7] := by rw [← hrec]
    refine ⟨_, _, _, _, run_yield (P := Tryz.prog) (args := #[e.key]) hLW (by rw [hps]; rfl), roundIn_of_wpIn (by rw [← hrec]; exact hfn) ?_⟩
    obtain ⟨Wa, hWa⟩ : ∃ Wa, W.alloc (.cells #[.int .i64 a, .int .i64 b, .string s] 232) = Wa := ⟨_, rfl⟩
    have hLa : Wa.heap[(w.heap.size + 2)]? = some (.loop r) := by rw [← hWa]; exact (Below.heap_alloc _ _ _ (Array.getElem?_eq_some_iff.1 hLW).1).trans hLW
    have hva : Wa.heap[w.heap.size]? = some (.cells #[.slice none 0 0] 407 (0, 0)) := by rw [← hWa]; exact (Below.heap_alloc _ _ _ (Array.getElem?_eq_some_iff.1 hvW).1).trans hvW
    have hKa : Wa.heap[(w.heap.size + 1)]? = some (.deferred (some [])) := by rw [← hWa]; exact (Below.heap_alloc _ _ _ (Array.getElem?_eq_some_iff.1 hKW).1).trans hKW
    have hb1a : Below w.heap.size w Wa := by rw [← hWa]; exact hb1W.alloc hb1W.size _
    have hka : KeepsWalks W Wa := by rw [← hWa]; exact KeepsWalks.alloc _ _
    have hl : (w.heap.size + 2) < Wa.heap.size := (Array.getElem?_eq_some_iff.1 hLa).1
    have hBl : w.heap.size ≠ (w.heap.size + 2) := by omega
    have hDl : (w.heap.size + 1) ≠ (w.heap.size + 2) := by omega
    have hbr := run_beginRound (P := Tryz.prog) hLa hst
    obtain ⟨W2, hW2⟩ : ∃ W2, Wa.putObj ((w.heap.size + 2)) (.loop { r with state := .busy }) = W2 := ⟨_, rfl⟩
    rw [hW2] at hbr
    have hg2 : Wa.grownBy W2 (some ((w.heap.size + 2))) := by rw [← hW2]; exact kv_grownBy_putObj _ _ _
    have hk2 : KeepsWalks W W2 := hka.trans (by rw [← hW2]; exact KeepsWalks.putObj _ hLa rfl)
    have hv2 : W2.heap[w.heap.size]? = some (.cells #[.slice none 0 0] 407 (0, 0)) := by rw [← hW2]; exact (World.putObj_heap_other hBl).trans hva
    have hK2 : W2.heap[(w.heap.size + 1)]? = some (.deferred (some [])) := by rw [← hW2]; exact (World.putObj_heap_other hDl).trans hKa
    have hL2 : W2.heap[(w.heap.size + 2)]? = some (.loop { r with state := .busy }) := by rw [← hW2]; exact World.putObj_heap_same hl
    have hb2 : Below w.heap.size w W2 := hb1a.grown hg2 hb1a.size (fun k e => by cases e; omega)
    obtain ⟨hc2, hf2⟩ := kv_cell_of_box hv2
    have hBlt : w.heap.size < W2.heap.size := (Array.getElem?_eq_some_iff.1 hv2).1
    have hl2 : (w.heap.size + 2) < W2.heap.size := (Array.getElem?_eq_some_iff.1 hL2).1
    have hDlt : (w.heap.size + 1) < W2.heap.size := (Array.getElem?_eq_some_iff.1 hK2).1
    clear hW2
    have hqa : Wa.heap[W.heap.size]? = some (.cells #[.int .i64 a, .int .i64 b, .string s] 232 (0, 0)) := by rw [← hWa]; exact World.alloc_heap_new W _
    have hq : W2.heap[W.heap.size]? = some (.cells #[.int .i64 a, .int .i64 b, .string s] 232 (0, 0)) := (hg2.block W.heap.size (Array.getElem?_eq_some_iff.1 hqa).1 (fun e => by injection e with e; have := (Array.getElem?_eq_some_iff.1 hLW).1; omega)).trans hqa
    have hq0 : W2.cell? ⟨W.heap.size, 0, none⟩ = some (.int .i64 a) := by simp [World.cell?, hq]
    have hq1 : W2.cell? ⟨W.heap.size, 1, none⟩ = some (.int .i64 b) := by simp [World.cell?, hq]
    have hq2 : W2.cell? ⟨W.heap.size, 2, none⟩ = some (.string s) := by simp [World.cell?, hq]
    clear hqa hq
    have hasg : ∃ c, r.assign = c := ⟨_, rfl⟩
    rw [hk]
    subst hrec
    simp only [List.zip_toArray, List.zip_cons_cons, List.zip_nil_left, List.foldl_toArray, List.foldl_cons, List.foldl_nil, List.setIfInBounds_toArray, List.set_cons_succ, List.set_cons_zero]
    clear hst hps hasg hLW hvW hKW hrange hLa hva hKa hka
    gi_wp2_with (first
      | (gi_at_builtin; refine wpListIn_append_own _ rfl _ _ 407 rfl w.heap.size 232 i0 (.agg #[.int .i64 0, .int .i64 0, .string ⟨#[]⟩]) 3 32 Tryz.underlying407 hi hz0 hz1 hz2 rfl (by decide) (.slice none 0 0) 0 [] rfl (kv_ownsRow_nil _ _ _ _) ⟨W2.heap.size, 0, none⟩ 1 1 [.int .i64 a, .int .i64 b, .string s] rfl rfl (cell_three_at _ _ _ _ _ _ (by simp)) (by simp [Value.oneCell']) (by decide) (by decide) (by have := hb2.size; simp; omega) ?_; intro v' w3 hown' hg3 hnil3
         have hv3 : w3.heap[w.heap.size]? = some (.cells #[.slice none 0 0] 407 (0, 0)) := (hg3.block w.heap.size (by simp; omega) (by simp [Value.ownBlock])).trans ((Below.heap_alloc _ _ w.heap.size hBlt).trans hv2)
         obtain ⟨hc3, hf3⟩ := kv_cell_of_box hv3
         obtain ⟨g', cap', cur', rfl, hbase', hgb', hr1, hr2, hr3, hr4⟩ : ∃ g' cap' cur', v' = .slice (some ⟨g', 0, none⟩) 1 cap' ∧ w.heap.size ≤ g' ∧ w3.heap[g']? = some (.cells cur' 232 (0, 0)) ∧ 1 ≤ cap' ∧ cap' ≤ maxLen ∧ cur'.size = cap' * 3 ∧ cur'.toList.take (1 * 3) = [.int .i64 a, .int .i64 b, .string s] := by
           rcases hown'.2 with ⟨_, h0⟩ | h'
           · exact absurd h0 (by omega)
           · exact h'
         go_frame)
      | (rw [Oper.semAt_eq _ _ _ (fun c h => by cases h)]; go_simp; try go_bits))
    have hne24 : (407 : Nat) ≠ 232 := by decide
    have hg3' : (W2.alloc (.cells #[.int .i64 a, .int .i64 b, .string s] 232)).grownBy w3 none := hg3
    have hL3 := (hg3'.block (w.heap.size + 2) (by simp; omega) (by simp)).trans ((Below.heap_alloc _ _ (w.heap.size + 2) hl2).trans hL2)
    have hK3 : w3.heap[w.heap.size + 1]? = some (.deferred (some [])) := (hg3'.block (w.heap.size + 1) (by simp; omega) (by simp)).trans ((Below.heap_alloc _ _ (w.heap.size + 1) hDlt).trans hK2)
    obtain ⟨w4, hw4⟩ : ∃ w4, w3.setCell ⟨w.heap.size, 0, none⟩ (.slice (some ⟨g', 0, none⟩) 1 cap') = w4 := ⟨_, rfl⟩
    rw [hw4]
    have hg4 : w3.grownBy w4 (some w.heap.size) := by rw [← hw4]; exact kv_grownBy_setCell0 _ _ _
    have hv4 : w4.heap[w.heap.size]? = some (.cells #[.slice (some ⟨g', 0, none⟩) 1 cap'] 407 (0, 0)) := by rw [← hw4]; exact kv_heap_setCell_box _ hv3
    have hL4 := (hg4.block (w.heap.size + 2) (Array.getElem?_eq_some_iff.1 hL3).1 (fun e => by injection e with e; omega)).trans hL3
    have hK4 : w4.heap[w.heap.size + 1]? = some (.deferred (some [])) := (hg4.block (w.heap.size + 1) (Array.getElem?_eq_some_iff.1 hK3).1 (fun e => by injection e with e; omega)).trans hK3
    have hgB : g' ≠ w.heap.size := by
      rintro rfl
      rw [hv3] at hgb'
      injection hgb' with hgb'; injection hgb' with _ he; exact hne24 he
    have hgb4 : w4.heap[g']? = some (.cells cur' 232 (0, 0)) := (hg4.block g' (Array.getElem?_eq_some_iff.1 hgb').1 (fun e => by injection e with e; exact hgB e)).trans hgb'
    have hb3 : Below w.heap.size w w3 := (hb2.alloc hb2.size _).grown hg3' (by have := hb2.size; simp; omega) (fun k e => by cases e)
    have hb4 : Below w.heap.size w w4 := hb3.grown hg4 hb3.size (fun k e => by cases e; omega)
    have hk4 : KeepsWalks W w4 := ((hk2.trans (KeepsWalks.alloc _ _)).trans (KeepsWalks.of_grownBy hg3' (fun j o e _ => by cases e))).trans (by rw [← hw4]; exact KeepsWalks.setCell _ _ _)
    have hgL : g' ≠ w.heap.size + 2 := by
      rintro rfl
      rw [hL4] at hgb4
      cases hgb4
    clear hw4
    have hl4 := (Array.getElem?_eq_some_iff.1 hL4).1
    refine ⟨_, _, run_endRound none hL4, rfl, ⟨⟨_, (World.putObj_heap_other hBl).trans hv4, by simp, .inr ⟨g', cap', cur', rfl, hbase', (World.putObj_heap_other hgL).trans hgb4, hr1, hr2, hr3, hr4⟩⟩, World.putObj_heap_same hl4, (World.putObj_heap_other hDl).trans hK4, hb4.grown (kv_grownBy_putObj _ _ _) hb4.size (fun k e => by cases e; omega)⟩, hk4.trans (KeepsWalks.putObj _ hL4 rfl)⟩
  · rintro en W2 ⟨⟨v0, rfl⟩, h2⟩
    obtain ⟨v, hv, hrow⟩ := h2.box
    have hend := run_endLoop (P := Tryz.prog) h2.L (by simp)
    obtain ⟨W3, hW3⟩ : ∃ W3, W2.putObj (w.heap.size + 2) (.loop { { r with state := .ready, pending := none } with state := .exhausted }) = W3 := ⟨_, rfl⟩
    rw [hW3] at hend
    have hg3 : W2.grownBy W3 (some (w.heap.size + 2)) := by rw [← hW3]; exact kv_grownBy_putObj _ _ _
    have hv3 : W3.heap[w.heap.size]? = some (.cells #[v] 407 (0, 0)) := by rw [← hW3]; exact (World.putObj_heap_other (by omega)).trans hv
    have hK3 : W3.heap[w.heap.size + 1]? = some (.deferred (some [])) := by rw [← hW3]; exact (World.putObj_heap_other (by omega)).trans h2.K
    have hb3 : Below w.heap.size w W3 := h2.below.grown hg3 h2.below.size (fun k e => by cases e; omega)
    obtain ⟨hlen, hrow⟩ := hrow
    rcases hrow with ⟨_, h0⟩ | ⟨g, cap, cur, rfl, hbase, hgb, hr1, hr2, hr3, hr4⟩
    · exact absurd h0 (by omega)
    have hgL : g ≠ w.heap.size + 2 := by
      rintro rfl
      rw [h2.L] at hgb
      cases hgb
    have hgb3 : W3.heap[g]? = some (.cells cur 232 (0, 0)) := by rw [← hW3]; exact (World.putObj_heap_other hgL).trans hgb
    have hgK : g ≠ w.heap.size + 1 := by
      rintro rfl
      rw [hK3] at hgb3
      cases hgb3
    obtain ⟨hc3, hf3⟩ := kv_cell_of_box hv3
    clear hW3
    refine ⟨none, W3, hend, ?_⟩
    gi_wp2
    refine ⟨by simp, .inl ⟨_, _, rfl, run_takeDeferred hK3, ?_⟩⟩
    exact ⟨_, results_tmp rfl _ _ _, _, rfl, ⟨hlen, .inr ⟨g, cap, cur, rfl, hbase, (World.putObj_heap_other hgK).trans hgb3, hr1, hr2, hr3, hr4⟩⟩, hb3.grown (kv_grownBy_putObj _ _ _) hb3.size (fun k e => by cases e; omega)⟩
end Go.Proofs.YtkkohgaaemgojaaGreatDoor
