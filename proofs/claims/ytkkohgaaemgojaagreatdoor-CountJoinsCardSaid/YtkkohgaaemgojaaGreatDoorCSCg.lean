/- What the card asks of the program. -/
import Derived.Test.YtkkohgaaemgojaaGreatDoorCards
import Derived.SevenTiedAt
import Derived.KernelRfl
namespace Go.Proofs.YtkkohgaaemgojaaGreatDoor
open Go
set_option maxRecDepth 100000
theorem none_goes : Tryz.prog.funcs.any Func.goes = false := by kernel_rfl
theorem goes_of_none {P : Program} (h : P.funcs.any Func.goes = false) (f : FuncId) : P.goes f = false := by
  have h1 : ∀ g : FuncId, (P.funcs[g]?).any Func.goes = false := by
    intro g
    cases hg : P.funcs[g]? with
    | none => rfl
    | some fn =>
      rw [Array.any_eq_false] at h
      obtain ⟨hlt, e⟩ := Array.getElem?_eq_some_iff.1 hg
      have := h g hlt
      rw [e] at this
      simpa using this
  unfold Program.goes
  rw [h]
  have h2 : ((P.closure f).any fun g => (P.funcs[g]?).any Func.goes) = false := by
    rw [List.any_eq_false]
    intro g _
    rw [h1 g]
    simp
  rw [h2]
  simp
theorem goesBy_none {P : Program} (h : P.funcs.any Func.goes = false) (c : OpenClaim) (hs : c.start = .entering) : false = c.goesBy P := by
  unfold OpenClaim.goesBy Program.goesAt Program.goesFrom
  rw [hs]
  cases P.funcNamed c.func with
  | none => rfl
  | some f => simp [goes_of_none h f]
theorem joins_goes : false = Rows.countJoinsRow.goesBy Tryz.pinned.checked.prog := goesBy_none (P := Tryz.prog) none_goes _ rfl
theorem sums_goes : false = Rows.countSumsRow.goesBy Tryz.pinned.checked.prog := goesBy_none (P := Tryz.prog) none_goes _ rfl
end Go.Proofs.YtkkohgaaemgojaaGreatDoor
