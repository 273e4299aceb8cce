/- pipe.Base at the anchor's texts, taken whole. -/
import Derived.Test.YtkkohgaaemgojaaGreatDoorCSKa
namespace Go.Proofs.YtkkohgaaemgojaaGreatDoor
open Go Go.AE Go.Proofs
set_option maxRecDepth 100000

noncomputable def doneB : List Done := [⟨bs_args, bs_v, bs_bs⟩, ⟨bx_args, bx_v, bx_bs⟩]
theorem addL_ge (k n : Nat) (bs : List Ob) (g : Hp) : g.next ≤ (addL k n bs g).next := by rw [addL_next]; omega

theorem closed_upon {G : Tabs} (hG : G.Fits3 Tryz.prog) {f : FuncId} (hx : ∀ args w, (callFunc f args).run Tryz.prog w = .ok (.enter f args) w) {args : List Value} {l : List Nat} {bs : List Ob} {v : Value} (hsp : G.spec f = none) (ha : args.all scalarC = true)
    (hs : subOk 8 l bs v ((kev G 3000).ev.call f args ⟨fun _ => none, .nil, 0⟩) = true) (h : Hp) :
    h.next ≤ (addL h.next 8 bs h).next ∧ ∀ B, (addL h.next 8 bs h).next ≤ B → UponOK Tryz.prog B f args h (.ret (shiftV h.next 8 v)) (addL h.next 8 bs h) :=
  ⟨addL_ge _ _ _ _, fun B hB => CallsOK.upon hx ((closed_calls hG (n := 2999) hsp ha hs h).2 B (by rw [addL_next] at hB; exact hB))⟩

noncomputable def sp1 (f : FuncId) : Option (List Value → Hp → Option (Value × Hp)) := bif Nat.beq f 23 then some (doneSpec 8 doneB) else sp0 f
theorem sp1_ok : ∀ f s args h v h', sp1 f = some s → s args h = some (v, h') → h.next ≤ h'.next ∧ ∀ B, h'.next ≤ B → UponOK Tryz.prog B f args h (.ret v) h' := by
  intro f s args h v h' hf hs
  unfold sp1 at hf
  rcases bif_spec hf with ⟨hb, hf⟩ | ⟨_, hf⟩
  · have := Nat.eq_of_beq_eq_true hb; subst this
    injection hf with hf; subst hf
    refine doneSpec_ok (fun d hd => ?_) hs
    simp only [doneB, List.mem_cons, List.mem_nil_iff, or_false] at hd
    rcases hd with rfl | rfl
    · exact closed_upon fits0 Tryz.call23 (by kernel_rfl) (by kernel_rfl) bsK
    · exact closed_upon fits0 Tryz.call23 (by kernel_rfl) (by kernel_rfl) bxK
  · exact sp0_ok f s args h v h' hf hs
noncomputable def G1 : Tabs := withSpec G sp1
theorem fits1 : G1.Fits3 Tryz.prog := withSpec_fits fits sp1_ok
#print axioms fits1
end Go.Proofs.YtkkohgaaemgojaaGreatDoor
