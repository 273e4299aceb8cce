/- A program that came in, as it lies in memory: what its reading says of the cells. -/
import Derived.Test.YtaceaifoajkgaaaGreatDoorLSMain
import Derived.ProofKit
import Derived.OpenShut
import Derived.Deep.Slices
import Derived.Lib.SmallJoins
namespace Go.Proofs.YtaceaifoajkgaaaGreatDoor
open Go.RowKit Go.Sites Go.ChangeShapes Go.WideShapes Go.Deep

theorem cells3 : Tryz.prog.cellsOf 3 = 1 := by kernel_rfl
theorem cells9 : Tryz.prog.cellsOf 9 = 1 := by kernel_rfl
theorem cells28 : Tryz.prog.cellsOf 28 = 1 := by kernel_rfl
theorem cells29 : Tryz.prog.cellsOf 29 = 1 := by kernel_rfl
theorem cells30 : Tryz.prog.cellsOf 30 = 1 := by kernel_rfl
theorem cells33 : Tryz.prog.cellsOf 33 = 1 := by kernel_rfl
theorem cells34 : Tryz.prog.cellsOf 34 = 2 := by kernel_rfl
theorem cells26 : Tryz.prog.cellsOf 26 = 3 := by kernel_rfl
theorem cells32 : Tryz.prog.cellsOf 32 = 6 := by kernel_rfl
theorem cells36 : Tryz.prog.cellsOf 36 = 5 := by kernel_rfl
theorem cells53 : Tryz.prog.cellsOf 53 = 5 := by kernel_rfl

set_option maxRecDepth 100000
section
variable {H : Type} {enc : TypeId × Value → H} {W : World}

/-- the reader at an argument -/
noncomputable abbrev rd (enc : TypeId × Value → H) (W : World) (n : Nat) (t : TypeId) (cs : List Value) : Option (DataW H × List MemPlace) := DataW.trod enc Tryz.prog W 0 (fun _ => true) true n t cs

theorem slice_in {t e : TypeId} {n : Nat} {c : Value} {x : DataW H × List MemPlace} (ht : Tryz.prog.underlying t = some (.slice e)) (he : 0 < Tryz.prog.cellsOf e) (h : rd enc W n t [c] = some x) :
    ∃ a len cap, c = .slice a len cap ∧ len ≤ 9223372036854775807 ∧ ∃ (m : Nat) (D : Nat → DataW H × List MemPlace), ∀ i, i < len → ∃ B O, a = some ⟨B, O, none⟩ ∧
      ∃ cs', cs'.length = Tryz.prog.cellsOf e ∧ (∀ j, j < Tryz.prog.cellsOf e → W.cell? ⟨B, O + (i * Tryz.prog.cellsOf e + j), none⟩ = cs'[j]?) ∧ rd enc W m e cs' = some (D i) := by
  rcases open_slice ht h with ⟨hc, _⟩ | ⟨a, len, cap, m, n', D, Pl, hc, _, hl, hm, hmm, _, hx⟩
  · injection hc with hc
    exact ⟨none, 0, 0, hc, by omega, 0, fun _ => (.nil, []), fun i hi => absurd hi (Nat.not_lt_zero _)⟩
  · injection hc with hc
    unfold maxLen at hm
    simp only [if_true] at hmm
    refine ⟨some a, len, cap, hc, by omega, n', fun i => (D i, Pl i), fun i hi => ?_⟩
    obtain ⟨b, o, s⟩ := a
    have hs : s = none := by
      obtain ⟨cs0, h1, _⟩ := hx 0 (by omega)
      obtain ⟨_, hlen, hcell⟩ := World.cells?_some h1
      have h2 := hcell 0 he
      have h3 : ∃ v, cs0[0]? = some v := ⟨cs0[0], List.getElem?_eq_getElem (by omega)⟩
      obtain ⟨v, hv⟩ := h3
      rw [hv] at h2
      have h4 := World.cell?_spot h2
      simpa [Addr.add] using h4
    subst hs
    obtain ⟨cs', h1, h2⟩ := hx i (by omega)
    obtain ⟨_, hlen, hcell⟩ := World.cells?_some h1
    refine ⟨b, o, rfl, cs', hlen, fun j hj => ?_, h2⟩
    have := hcell j hj
    rw [add_add, Go.WideShapes.add_plain] at this
    exact this

theorem ints_in {n : Nat} {c : Value} {x : DataW H × List MemPlace} (h : rd enc W n 33 [c] = some x) :
    ∃ a len cap, c = .slice a len cap ∧ len ≤ 9223372036854775807 ∧ ∃ E : Nat → Int, ∀ t, t < len → ∃ B O, a = some ⟨B, O, none⟩ ∧ W.cell? ⟨B, O + t, none⟩ = some (.int .i64 (E t)) := by
  obtain ⟨a, len, cap, hc, hl, m, D, hx⟩ := slice_in Tryz.underlying33 (by rw [cells3]; omega) h
  refine ⟨a, len, cap, hc, hl, ?_⟩
  have each : ∀ t, t < len → ∃ e : Int, ∃ B O, a = some ⟨B, O, none⟩ ∧ W.cell? ⟨B, O + t, none⟩ = some (.int .i64 e) := by
    intro t ht
    obtain ⟨B, O, ha, cs', hlen, hcell, h2⟩ := hx t ht
    obtain ⟨e, rfl, _, _⟩ := DataW.trod_int Tryz.underlying3 h2
    have h3 := hcell 0 (by rw [cells3]; omega)
    rw [cells3] at h3
    exact ⟨e, B, O, ha, by simpa using h3⟩
  obtain ⟨E, hE⟩ := choose_lt each
  exact ⟨E, hE⟩

theorem drop_take {cs : List Value} {k : Nat} {v : Value} (h : cs[k]? = some v) : (cs.drop k).take 1 = [v] := by
  have hk : k < cs.length := (List.getElem?_eq_some_iff.1 h).1
  rw [List.drop_eq_getElem_cons hk]
  have : cs[k] = v := (List.getElem?_eq_some_iff.1 h).2
  simp [this]

theorem blocks_in {n : Nat} {c : Value} {x : DataW H × List MemPlace} (h : rd enc W n 30 [c] = some x) :
    ∃ a bn bc LN E, c = .slice a bn bc ∧ BlocksAt W a bn LN E := by
  obtain ⟨a, bn, bc, hc, hl, m, D, hx⟩ := slice_in Tryz.underlying30 (by rw [cells36]; omega) h
  have each : ∀ b, b < bn → ∃ y : Nat × (Nat → Int), y.1 ≤ 9223372036854775807 ∧ ∃ BB BO LA LC, a = some ⟨BB, BO, none⟩ ∧ W.cell? ⟨BB, BO + b * 5, none⟩ = some (.slice LA y.1 LC) ∧
      (∀ t, t < y.1 → ∃ LB LO, LA = some ⟨LB, LO, none⟩ ∧ W.cell? ⟨LB, LO + t, none⟩ = some (.int .i64 (y.2 t))) ∧
      ∃ j1 j2 j3 j4, W.cell? ⟨BB, BO + b * 5 + 1, none⟩ = some (.int .i64 j1) ∧ W.cell? ⟨BB, BO + b * 5 + 2, none⟩ = some (.int .i64 j2) ∧ W.cell? ⟨BB, BO + b * 5 + 3, none⟩ = some (.int .i64 j3) ∧
        W.cell? ⟨BB, BO + b * 5 + 4, none⟩ = some (.int .i64 j4) := by
    intro b hb
    obtain ⟨BB0, BO0, ha, cs', hlen, hcell, h2⟩ := hx b hb
    simp only [cells36] at hlen hcell
    obtain ⟨xs, m', _, _, _, hxs, hf⟩ := DataW.trod_struct Tryz.underlying36 h2
    match cs', hlen with
    | [c0, c1, c2, c3, c4], _ =>
      have f0 : rd enc W m' 33 (([c0, c1, c2, c3, c4].drop 0).take (Tryz.prog.cellsOf 33)) = xs[0]? := hf 0 _ rfl
      have f1 : rd enc W m' 3 (([c0, c1, c2, c3, c4].drop 1).take (Tryz.prog.cellsOf 3)) = xs[1]? := hf 1 _ rfl
      have f2 : rd enc W m' 3 (([c0, c1, c2, c3, c4].drop 2).take (Tryz.prog.cellsOf 3)) = xs[2]? := hf 2 _ rfl
      have f3 : rd enc W m' 34 (([c0, c1, c2, c3, c4].drop 3).take (Tryz.prog.cellsOf 34)) = xs[3]? := hf 3 _ rfl
      simp only [cells33, cells3, cells34, List.drop_zero, List.drop_succ_cons, List.take_succ_cons, List.take_zero] at f0 f1 f2 f3
      have hxl : xs.length = 4 := hxs
      rw [List.getElem?_eq_getElem (by omega)] at f0 f1 f2 f3
      obtain ⟨LA, LN, LC, rfl, hln, E, hE⟩ := ints_in f0
      obtain ⟨j1, e1, _, _⟩ := DataW.trod_int Tryz.underlying3 f1
      obtain ⟨j2, e2, _, _⟩ := DataW.trod_int Tryz.underlying3 f2
      injection e1 with e1
      injection e2 with e2
      subst e1; subst e2
      obtain ⟨ys, m2, _, _, _, hyl, hel⟩ := DataW.trod_array Tryz.underlying34 f3
      have g0 : rd enc W m2 3 (([c3, c4].drop (0 * Tryz.prog.cellsOf 3)).take (Tryz.prog.cellsOf 3)) = ys[0]? := hel 0 (by omega)
      have g1 : rd enc W m2 3 (([c3, c4].drop (1 * Tryz.prog.cellsOf 3)).take (Tryz.prog.cellsOf 3)) = ys[1]? := hel 1 (by omega)
      simp only [cells3, Nat.zero_mul, Nat.one_mul, List.drop_zero, List.drop_succ_cons, List.take_succ_cons, List.take_zero] at g0 g1
      rw [List.getElem?_eq_getElem (by omega)] at g0 g1
      obtain ⟨j3, e3, _, _⟩ := DataW.trod_int Tryz.underlying3 g0
      obtain ⟨j4, e4, _, _⟩ := DataW.trod_int Tryz.underlying3 g1
      injection e3 with e3
      injection e4 with e4
      subst e3; subst e4
      have k0 := hcell 0 (by omega)
      have k1 := hcell 1 (by omega)
      have k2 := hcell 2 (by omega)
      have k3 := hcell 3 (by omega)
      have k4 := hcell 4 (by omega)
      have q0 : W.cell? ⟨BB0, BO0 + b * 5, none⟩ = some (.slice LA LN LC) := by simpa [Nat.add_assoc] using k0
      have q1 : W.cell? ⟨BB0, BO0 + b * 5 + 1, none⟩ = some (.int .i64 j1) := by simpa [Nat.add_assoc] using k1
      have q2 : W.cell? ⟨BB0, BO0 + b * 5 + 2, none⟩ = some (.int .i64 j2) := by simpa [Nat.add_assoc] using k2
      have q3 : W.cell? ⟨BB0, BO0 + b * 5 + 3, none⟩ = some (.int .i64 j3) := by simpa [Nat.add_assoc] using k3
      have q4 : W.cell? ⟨BB0, BO0 + b * 5 + 4, none⟩ = some (.int .i64 j4) := by simpa [Nat.add_assoc] using k4
      exact ⟨(LN, E), hln, BB0, BO0, LA, LC, ha, q0, hE, j1, j2, j3, j4, q1, q2, q3, q4⟩
  obtain ⟨Y, hY⟩ := choose_lt each
  exact ⟨a, bn, bc, fun b => (Y b).1, fun b => (Y b).2, hc, hl, fun b hb => (hY b hb).1, fun b hb => (hY b hb).2⟩

theorem ins_in {n : Nat} {c : Value} {x : DataW H × List MemPlace} (h : rd enc W n 29 [c] = some x) :
    ∃ a len cap, c = .slice a len cap ∧ len ≤ 9223372036854775807 ∧ ∃ Op : Nat → Int, ∀ k, k < len → ∃ B O, a = some ⟨B, O, none⟩ ∧ W.cell? ⟨B, O + k * 5, none⟩ = some (.int .i64 (Op k)) := by
  obtain ⟨a, len, cap, hc, hl, m, D, hx⟩ := slice_in Tryz.underlying29 (by rw [cells53]; omega) h
  refine ⟨a, len, cap, hc, hl, ?_⟩
  have each : ∀ k, k < len → ∃ e : Int, ∃ B O, a = some ⟨B, O, none⟩ ∧ W.cell? ⟨B, O + k * 5, none⟩ = some (.int .i64 e) := by
    intro k hk
    obtain ⟨BB0, BO0, ha, cs', hlen, hcell, h2⟩ := hx k hk
    simp only [cells53] at hlen hcell
    obtain ⟨xs, m', _, _, _, hxs, hf⟩ := DataW.trod_struct Tryz.underlying53 h2
    match cs', hlen with
    | [c0, c1, c2, c3, c4], _ =>
      have f0 : rd enc W m' 3 (([c0, c1, c2, c3, c4].drop 0).take (Tryz.prog.cellsOf 3)) = xs[0]? := hf 0 _ rfl
      simp only [cells3, List.drop_zero, List.take_succ_cons, List.take_zero] at f0
      have hxl : xs.length = 5 := hxs
      rw [List.getElem?_eq_getElem (by omega)] at f0
      obtain ⟨j1, e1, _, _⟩ := DataW.trod_int Tryz.underlying3 f0
      injection e1 with e1
      subst e1
      have k0 := hcell 0 (by omega)
      have q0 : W.cell? ⟨BB0, BO0 + k * 5, none⟩ = some (.int .i64 j1) := by simpa [Nat.add_assoc] using k0
      exact ⟨j1, BB0, BO0, ha, q0⟩
  obtain ⟨E, hE⟩ := choose_lt each
  exact ⟨E, hE⟩

theorem funs_in {n : Nat} {c : Value} {x : DataW H × List MemPlace} (h : rd enc W n 24 [c] = some x) :
    ∃ FA nf fc IN BN Op LN E, c = .slice FA nf fc ∧ FunsAt W FA nf IN BN Op LN E := by
  obtain ⟨a, nf, fc, hc, hl, m, D, hx⟩ := slice_in Tryz.underlying24 (by rw [cells32]; omega) h
  have each : ∀ i, i < nf → ∃ y : Nat × Nat × (Nat → Int) × (Nat → Nat) × (Nat → Nat → Int), y.1 ≤ 9223372036854775807 ∧
      ∃ FB FO c0 c1 c2 c3 IA IC BA BC, a = some ⟨FB, FO, none⟩ ∧ W.cell? ⟨FB, FO + i * 6, none⟩ = some c0 ∧ W.cell? ⟨FB, FO + i * 6 + 1, none⟩ = some c1 ∧
      W.cell? ⟨FB, FO + i * 6 + 2, none⟩ = some c2 ∧ W.cell? ⟨FB, FO + i * 6 + 3, none⟩ = some c3 ∧ W.cell? ⟨FB, FO + i * 6 + 4, none⟩ = some (.slice IA y.1 IC) ∧
      W.cell? ⟨FB, FO + i * 6 + 5, none⟩ = some (.slice BA y.2.1 BC) ∧ BlocksAt W BA y.2.1 y.2.2.2.1 y.2.2.2.2 ∧
      (∀ k, k < y.1 → ∃ IB IQ, IA = some ⟨IB, IQ, none⟩ ∧ W.cell? ⟨IB, IQ + k * 5, none⟩ = some (.int .i64 (y.2.2.1 k))) ∧
      (∃ s, c0 = .string s) ∧ (∃ a l c, c1 = .slice a l c) ∧ (∃ s, c2 = .string s) ∧ ∃ a l c, c3 = .slice a l c := by
    intro i hi
    obtain ⟨BB0, BO0, ha, cs', hlen, hcell, h2⟩ := hx i hi
    simp only [cells32] at hlen hcell
    obtain ⟨xs, m', _, _, _, hxs, hf⟩ := DataW.trod_struct Tryz.underlying32 h2
    match cs', hlen with
    | [c0, c1, c2, c3, c4, c5], _ =>
      have f0 : rd enc W m' 9 (([c0, c1, c2, c3, c4, c5].drop 0).take (Tryz.prog.cellsOf 9)) = xs[0]? := hf 0 _ rfl
      have f1 : rd enc W m' 28 (([c0, c1, c2, c3, c4, c5].drop 1).take (Tryz.prog.cellsOf 28)) = xs[1]? := hf 1 _ rfl
      have f2 : rd enc W m' 9 (([c0, c1, c2, c3, c4, c5].drop 2).take (Tryz.prog.cellsOf 9)) = xs[2]? := hf 2 _ rfl
      have f3 : rd enc W m' 28 (([c0, c1, c2, c3, c4, c5].drop 3).take (Tryz.prog.cellsOf 28)) = xs[3]? := hf 3 _ rfl
      have f4 : rd enc W m' 29 (([c0, c1, c2, c3, c4, c5].drop 4).take (Tryz.prog.cellsOf 29)) = xs[4]? := hf 4 _ rfl
      have f5 : rd enc W m' 30 (([c0, c1, c2, c3, c4, c5].drop 5).take (Tryz.prog.cellsOf 30)) = xs[5]? := hf 5 _ rfl
      simp only [cells9, cells28, cells29, cells30, List.drop_zero, List.drop_succ_cons, List.take_succ_cons, List.take_zero] at f0 f1 f2 f3 f4 f5
      have hxl : xs.length = 6 := hxs
      rw [List.getElem?_eq_getElem (by omega)] at f0 f1 f2 f3 f4 f5
      obtain ⟨n0, e0, _, _⟩ := DataW.trod_string Tryz.underlying9 f0
      obtain ⟨p0, p1, p2, e1, _⟩ := slice_in Tryz.underlying28 (by rw [cells9]; omega) f1
      obtain ⟨r0, e2, _, _⟩ := DataW.trod_string Tryz.underlying9 f2
      obtain ⟨q0, q1, q2, e3, _⟩ := slice_in Tryz.underlying28 (by rw [cells9]; omega) f3
      obtain ⟨IA, IN, IC, e4, hin, Op, hop⟩ := ins_in f4
      obtain ⟨BA, bn, BC, LN, E, e5, hb⟩ := blocks_in f5
      injection e0 with e0
      injection e2 with e2
      subst e0; subst e1; subst e2; subst e3; subst e4; subst e5
      have k0 := hcell 0 (by omega)
      have k1 := hcell 1 (by omega)
      have k2 := hcell 2 (by omega)
      have k3 := hcell 3 (by omega)
      have k4 := hcell 4 (by omega)
      have k5 := hcell 5 (by omega)
      have w0 : W.cell? ⟨BB0, BO0 + i * 6, none⟩ = some (.string n0) := by simpa [Nat.add_assoc] using k0
      have w1 : W.cell? ⟨BB0, BO0 + i * 6 + 1, none⟩ = some (.slice p0 p1 p2) := by simpa [Nat.add_assoc] using k1
      have w2 : W.cell? ⟨BB0, BO0 + i * 6 + 2, none⟩ = some (.string r0) := by simpa [Nat.add_assoc] using k2
      have w3 : W.cell? ⟨BB0, BO0 + i * 6 + 3, none⟩ = some (.slice q0 q1 q2) := by simpa [Nat.add_assoc] using k3
      have w4 : W.cell? ⟨BB0, BO0 + i * 6 + 4, none⟩ = some (.slice IA IN IC) := by simpa [Nat.add_assoc] using k4
      have w5 : W.cell? ⟨BB0, BO0 + i * 6 + 5, none⟩ = some (.slice BA bn BC) := by simpa [Nat.add_assoc] using k5
      exact ⟨(IN, bn, Op, LN, E), hin, BB0, BO0, _, _, _, _, IA, IC, BA, BC, ha, w0, w1, w2, w3, w4, w5, hb, hop, ⟨_, rfl⟩, ⟨_, _, _, rfl⟩, ⟨_, rfl⟩, ⟨_, _, _, rfl⟩⟩
  obtain ⟨Y, hY⟩ := choose_lt each
  exact ⟨a, nf, fc, fun i => (Y i).1, fun i => (Y i).2.1, fun i => (Y i).2.2.1, fun i => (Y i).2.2.2.1, fun i => (Y i).2.2.2.2, hc, hl, fun i hi => (hY i hi).1, fun i hi => (hY i hi).2⟩
end
end Go.Proofs.YtaceaifoajkgaaaGreatDoor
