/- The anchor holds in every world, and leaves what was there as it was. -/
import Derived.Test.YtkkohgaaemgojaaGreatDoorCSKd
import Derived.Below
namespace Go.Proofs.YtkkohgaaemgojaaGreatDoor
open Go Go.AE
set_option maxRecDepth 100000
theorem awake_any (w : World) : Calls Tryz.prog 5 #[] w fun e w' => e = .returned (.bool true) ∧ RowKit.Below w.heap.size w w' := by
  have hk := awakeK
  cases hs : (kev G2 3000).ev.call 5 [] ⟨fun _ => none, .nil, 0⟩ with
  | none => rw [hs] at hk; cases hk
  | some x =>
    rw [hs] at hk
    obtain ⟨out, h1⟩ := x
    have hout : out = .ret (.bool true) := by
      cases out with
      | ret v => cases v <;> first | (simp only at hk; subst hk; rfl) | cases hk
      | pan ch => cases hk
    subst hout
    refine (kev_closed fits2 (n := 2999) (f := 5) (args := []) (by kernel_rfl) (LR.nil _) hs w).mono fun e w' hh => ?_
    obtain ⟨⟨M', hO⟩, h1, h2, h3, h4, h5⟩ := hh
    refine ⟨?_, h1, h2, h3, h4, h5⟩
    cases hO with
    | ret hv => cases hv; rfl
#print axioms awake_any
end Go.Proofs.YtkkohgaaemgojaaGreatDoor
