/- count.both at the anchor's texts, taken whole. -/
import Derived.Test.YtkkohgaaemgojaaGreatDoorCSKb
import Derived.Test.YtkkohgaaemgojaaGreatDoorCSKc
namespace Go.Proofs.YtkkohgaaemgojaaGreatDoor
open Go Go.AE Go.Proofs
set_option maxRecDepth 100000

noncomputable def doneC : List Done := [⟨cs_args, cs_v, cs_bs⟩, ⟨cn_args, cn_v, cn_bs⟩, ⟨cx_args, cx_v, cx_bs⟩]
noncomputable def sp2 (f : FuncId) : Option (List Value → Hp → Option (Value × Hp)) := bif Nat.beq f 14 then some (doneSpec 8 doneC) else sp0 f
theorem sp2_ok : ∀ f s args h v h', sp2 f = some s → s args h = some (v, h') → h.next ≤ h'.next ∧ ∀ B, h'.next ≤ B → UponOK Tryz.prog B f args h (.ret v) h' := by
  intro f s args h v h' hf hs
  unfold sp2 at hf
  rcases bif_spec hf with ⟨hb, hf⟩ | ⟨_, hf⟩
  · have := Nat.eq_of_beq_eq_true hb; subst this
    injection hf with hf; subst hf
    refine doneSpec_ok (fun d hd => ?_) hs
    simp only [doneC, List.mem_cons, List.mem_nil_iff, or_false] at hd
    rcases hd with rfl | rfl | rfl
    · exact closed_upon fits1 Tryz.call14 (by kernel_rfl) (by kernel_rfl) csK
    · exact closed_upon fits1 Tryz.call14 (by kernel_rfl) (by kernel_rfl) cnK
    · exact closed_upon fits1 Tryz.call14 (by kernel_rfl) (by kernel_rfl) cxK
  · exact sp0_ok f s args h v h' hf hs
noncomputable def G2 : Tabs := withSpec G sp2
theorem fits2 : G2.Fits3 Tryz.prog := withSpec_fits fits sp2_ok
#print axioms fits2
end Go.Proofs.YtkkohgaaemgojaaGreatDoor
