/- A sum that came in is seven whole numbers. -/
import Derived.Test.YtkkohgaaemgojaaGreatDoorCSJoins
import Derived.ProofKit
import Derived.OpenShut
import Derived.Deep.Slices
import Derived.Lib.SmallJoins
namespace Go.Proofs.YtkkohgaaemgojaaGreatDoor
open Go.RowKit Go.ChangeShapes Go.WideShapes

theorem cells3 : Tryz.prog.cellsOf 3 = 1 := by kernel_rfl
theorem cells23 : Tryz.prog.cellsOf 23 = 7 := by kernel_rfl

theorem wf_wrap {n : Int} (h : (Lit.int .i64 n).wf = true) : wrap64 n = n ∧ -9223372036854775808 ≤ n ∧ n ≤ 9223372036854775807 := by
  simp only [Lit.wf, IntKind.min, IntKind.max, IntKind.signed, IntKind.bits, Bool.and_eq_true, decide_eq_true_eq, if_true] at h
  have e63 : (2 : Int) ^ (64 - 1) = 9223372036854775808 := by decide
  rw [e63] at h
  unfold wrap64
  omega

section
variable {H : Type} {enc : TypeId × Value → H} {W : World} {base : Nat} {sp : Nat → Bool} {held : Bool}
set_option maxRecDepth 100000 in
theorem open_sum {r : Reach} {b0 : Nat} {v : Value} {d : DataW H} {p : List MemPlace} (hv : Value.okWide Tryz.prog W r b0 23 v) (h : DataW.Trod enc Tryz.prog W base sp held 23 v d p) :
    ∃ a0 a1 a2 a3 a4 a5 a6 : Int, v = .agg #[.int .i64 a0, .int .i64 a1, .int .i64 a2, .int .i64 a3, .int .i64 a4, .int .i64 a5, .int .i64 a6] ∧ p = [] ∧
      ((Lit.int .i64 a0).wf = true ∧ (Lit.int .i64 a1).wf = true ∧ (Lit.int .i64 a2).wf = true ∧ (Lit.int .i64 a3).wf = true ∧ (Lit.int .i64 a4).wf = true ∧ (Lit.int .i64 a5).wf = true ∧ (Lit.int .i64 a6).wf = true) := by
  obtain ⟨cs, rfl, hsz⟩ := okWide_struct Tryz.underlying23 hv
  rw [cells23] at hsz
  obtain ⟨fuel, hf⟩ := h
  obtain ⟨xs, n, _, hx, _, hxl, hfs⟩ := DataW.trod_struct Tryz.underlying23 hf
  have hxl : xs.length = 7 := hxl
  obtain ⟨l⟩ := cs
  match l, hsz with
  | [c0, c1, c2, c3, c4, c5, c6], _ =>
    have one : ∀ (c : Value) (x : DataW H × List MemPlace), DataW.trod enc Tryz.prog W base sp held n 3 [c] = some x → ∃ a : Int, c = .int .i64 a ∧ x.2 = [] ∧ (Lit.int .i64 a).wf = true := by
      intro c x hq
      obtain ⟨a, e, hx, hw⟩ := DataW.trod_int Tryz.underlying3 hq
      injection e with e
      exact ⟨a, e, by rw [hx], hw⟩
    match xs, hxl with
    | [y0, y1, y2, y3, y4, y5, y6], _ =>
      have f0 := hfs 0 _ rfl
      have f1 := hfs 1 _ rfl
      have f2 := hfs 2 _ rfl
      have f3 := hfs 3 _ rfl
      have f4 := hfs 4 _ rfl
      have f5 := hfs 5 _ rfl
      have f6 := hfs 6 _ rfl
      simp only [Value.cells, cells3, List.drop_zero, List.drop_succ_cons, List.take_succ_cons, List.take_zero, List.getElem?_cons_zero, List.getElem?_cons_succ] at f0 f1 f2 f3 f4 f5 f6
      obtain ⟨a0, rfl, q0, w0⟩ := one _ _ f0
      obtain ⟨a1, rfl, q1, w1⟩ := one _ _ f1
      obtain ⟨a2, rfl, q2, w2⟩ := one _ _ f2
      obtain ⟨a3, rfl, q3, w3⟩ := one _ _ f3
      obtain ⟨a4, rfl, q4, w4⟩ := one _ _ f4
      obtain ⟨a5, rfl, q5, w5⟩ := one _ _ f5
      obtain ⟨a6, rfl, q6, w6⟩ := one _ _ f6
      refine ⟨a0, a1, a2, a3, a4, a5, a6, rfl, ?_, w0, w1, w2, w3, w4, w5, w6⟩
      simp only [Prod.mk.injEq] at hx
      rw [hx.2]
      simp [q0, q1, q2, q3, q4, q5, q6]
end
end Go.Proofs.YtkkohgaaemgojaaGreatDoor
