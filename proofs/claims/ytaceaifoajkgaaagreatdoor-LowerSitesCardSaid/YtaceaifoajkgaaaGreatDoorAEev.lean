/- The evaluator: what it says of a call is what the call does. -/
import Derived.Test.YtaceaifoajkgaaaGreatDoorAEany
import Derived.LoopN
import Derived.Recover
namespace Go.AE

structure Tabs.Fits3 (G : Tabs) (P : Program) : Prop extends G.Fits2 P where
  fn : ∀ f fn, G.fn f = some fn → P.funcs[f]? = some fn ∧ ∀ args w, (callFunc f args).run P w = .ok (.enter f args) w
  ok : ∀ f fn c, G.fn f = some fn → fn.body = some c → codeOk G f c = true
  mixed : P.follows .mixedOrders = true
  spec : ∀ f s args h v h', G.spec f = some s → s args h = some (v, h') → h.next ≤ h'.next ∧ ∀ B, h'.next ≤ B → UponOK P B f args h (.ret v) h'

section
variable {G : Tabs} {P : Program}

/-- what is known of the code that fuel suffices for -/
def CodeP (G : Tabs) (P : Program) (r : Ev) : Prop := ∀ c e h x, r.code c e h = some x → codeOk G e.fn c = true →
  x.2.1.fn = e.fn ∧ h.next ≤ x.2.2.next ∧ ∀ B, x.2.2.next ≤ B → CodeOK P B c e h x.1 x.2.1 x.2.2

def LoopP (G : Tabs) (P : Program) (r : Ev) : Prop := ∀ b e h x, r.code (.loop b) e h = some x → codeOk G e.fn b = true → ∀ B, x.2.2.next ≤ B →
  ∃ k, ∀ (M : Mp) (a : Act) (w : World) (Q : Exit → Act → World → Prop), EnvR M e a → HR B M h w →
    (∀ M' a' w' x', Ext M h w M' x.2.2 w' → HR B M' x.2.2 w' → EndR M' x.1 x.2.1 a' → ExR M' x.1 x' → Q x' a' w') → Code.rounds P b Q k a w

theorem CodeOK.region {B : Nat} {id : Nat} {ops : Array Oper} {e : Env} {h : Hp} {x : Ex × Env × Hp} {r : Ev} (hG : G.Fits2 P) (hC : CallOK P r.call) (hall : (ops.toList.all fun o => o.op.operands.toList.all okOpd) = true)
    (hs : opsStep G r ops ops.toList e h = some x) : x.2.1.fn = e.fn ∧ h.next ≤ x.2.2.next ∧ (x.2.2.next ≤ B → CodeOK P B (.region id ops false) e h x.1 x.2.1 x.2.2) := by
  obtain ⟨ex, e', h'⟩ := x
  obtain ⟨f1, f2, f3⟩ := opsStep_sound (P := P) hG hC ops hall ops.size 0 ops.toList e h ex e' h' (by simp) (by simp) hs
  refine ⟨f1, f2, fun hB M a w Q he H hQ => wp_region ?_⟩
  have := f3 B hB M a w Q he H fun M' a' w' x' E H' V X => hQ M' a' w' x' E H' (V.toEnd _) X
  rw [List.range_eq_range']
  exact this

theorem ExR.normal_inv {M : Mp} {x' : Exit} (h : ExR M .normal x') : x' = .normal := by cases h; rfl

theorem codeStep_sound {r : Ev} (hG : G.Fits3 P) (hC : CallOK P r.call) (hR : CodeP G P r) (hL : LoopP G P r) : CodeP G P (Ev.step G r) ∧ LoopP G P (Ev.step G r) := by
  have loop : ∀ b e h x, codeStep G r (.loop b) e h = some x → codeOk G e.fn b = true → x.2.1.fn = e.fn ∧ h.next ≤ x.2.2.next ∧ ∀ B, x.2.2.next ≤ B →
      ∃ k, ∀ (M : Mp) (a : Act) (w : World) (Q : Exit → Act → World → Prop), EnvR M e a → HR B M h w →
        (∀ M' a' w' x', Ext M h w M' x.2.2 w' → HR B M' x.2.2 w' → EndR M' x.1 x.2.1 a' → ExR M' x.1 x' → Q x' a' w') → Code.rounds P b Q k a w := by
    intro b e h x hs hk
    simp only [codeStep] at hs
    obtain ⟨y, hy, hs⟩ := bind_some hs
    obtain ⟨f1, f2, f3⟩ := hR _ _ _ _ hy hk
    obtain ⟨ex, e1, h1⟩ := y
    simp only at f1 f2 f3
    cases ex with
    | normal =>
      simp only at hs
      have hk1 : codeOk G e1.fn b = true := by rw [f1]; exact hk
      obtain ⟨g1, g2, _⟩ := hR _ _ _ _ hs (by simpa [codeOk] using hk1)
      refine ⟨g1.trans f1, Nat.le_trans f2 g2, fun B hB => ?_⟩
      obtain ⟨k, hk2⟩ := hL _ _ _ _ hs hk1 B hB
      refine ⟨k + 1, fun M a w Q he H hQ => ?_⟩
      rw [rounds_succ]
      refine f3 B (Nat.le_trans g2 hB) M a w _ he H fun M1 a1 w1 x1 E1 H1 V1 X1 => ?_
      rw [X1.normal_inv]
      exact hk2 M1 a1 w1 Q V1 H1 fun M2 a2 w2 x2 E2 H2 V2 X2 => hQ M2 a2 w2 x2 (E1.trans E2) H2 V2 X2
    | exit id =>
      simp only at hs
      injection hs with hs; subst hs
      refine ⟨f1, f2, fun B hB => ⟨1, fun M a w Q he H hQ => ?_⟩⟩
      rw [rounds_succ]
      refine f3 B hB M a w _ he H fun M1 a1 w1 x1 E1 H1 V1 X1 => ?_
      have := hQ M1 a1 w1 x1 E1 H1 V1 X1
      cases X1; exact this
    | ret =>
      simp only at hs
      injection hs with hs; subst hs
      refine ⟨f1, f2, fun B hB => ⟨1, fun M a w Q he H hQ => ?_⟩⟩
      rw [rounds_succ]
      refine f3 B hB M a w _ he H fun M1 a1 w1 x1 E1 H1 V1 X1 => ?_
      have := hQ M1 a1 w1 x1 E1 H1 V1 X1
      cases X1; exact this
    | pan ch =>
      simp only at hs
      injection hs with hs; subst hs
      refine ⟨f1, f2, fun B hB => ⟨1, fun M a w Q he H hQ => ?_⟩⟩
      rw [rounds_succ]
      refine f3 B hB M a w _ he H fun M1 a1 w1 x1 E1 H1 V1 X1 => ?_
      have := hQ M1 a1 w1 x1 E1 H1 V1 X1
      cases X1; exact this
  refine ⟨fun c e h x hs hk => ?_, fun b e h x hs hk B hB => (loop b e h x hs hk).2.2 B hB⟩
  change codeStep G r c e h = some x at hs
  cases c with
  | skip =>
    injection hs with hs; subst hs
    exact ⟨rfl, Nat.le_refl _, fun B _ M a w Q he H hQ => wp_skip (hQ M a w .normal (Ext.refl _ _ _) H he .normal)⟩
  | label l =>
    injection hs with hs; subst hs
    exact ⟨rfl, Nat.le_refl _, fun B _ M a w Q he H hQ => wp_label (hQ M a w .normal (Ext.refl _ _ _) H he .normal)⟩
  | exit id =>
    injection hs with hs; subst hs
    exact ⟨rfl, Nat.le_refl _, fun B _ M a w Q he H hQ => wp_exit (hQ M a w (.exit id) (Ext.refl _ _ _) H he (.exit id))⟩
  | ret =>
    injection hs with hs; subst hs
    exact ⟨rfl, Nat.le_refl _, fun B _ M a w Q he H hQ => wp_ret (hQ M a w .ret (Ext.refl _ _ _) H he .ret)⟩
  | seq p q =>
    simp only [codeStep] at hs
    simp only [codeOk, Bool.and_eq_true] at hk
    obtain ⟨y, hy, hs⟩ := bind_some hs
    obtain ⟨f1, f2, f3⟩ := hR _ _ _ _ hy hk.1
    obtain ⟨ex, e1, h1⟩ := y
    simp only at f1 f2 f3
    cases ex with
    | normal =>
      simp only at hs
      obtain ⟨g1, g2, g3⟩ := hR _ _ _ _ hs (by rw [f1]; exact hk.2)
      refine ⟨g1.trans f1, Nat.le_trans f2 g2, fun B hB M a w Q he H hQ => wp_seq ?_⟩
      refine f3 B (Nat.le_trans g2 hB) M a w _ he H fun M1 a1 w1 x1 E1 H1 V1 X1 => ?_
      rw [X1.normal_inv]
      exact g3 B hB M1 a1 w1 Q V1 H1 fun M2 a2 w2 x2 E2 H2 V2 X2 => hQ M2 a2 w2 x2 (E1.trans E2) H2 V2 X2
    | _ =>
      simp only at hs
      injection hs with hs; subst hs
      refine ⟨f1, f2, fun B hB M a w Q he H hQ => wp_seq ?_⟩
      refine f3 B hB M a w _ he H fun M1 a1 w1 x1 E1 H1 V1 X1 => ?_
      have := hQ M1 a1 w1 x1 E1 H1 V1 X1
      cases X1; exact this
  | cond c p q =>
    simp only [codeStep] at hs
    simp only [codeOk, Bool.and_eq_true] at hk
    split at hs
    · rename_i t ht
      have hkt : codeOk G e.fn (if t then p else q) = true := by cases t; exact hk.2; exact hk.1.2
      obtain ⟨f1, f2, f3⟩ := hR _ _ _ _ hs hkt
      refine ⟨f1, f2, fun B hB M a w Q he H hQ => ?_⟩
      have hc := he.opd hk.1.1
      rw [ht] at hc
      exact wp_cond hc.bool_inv (f3 B hB M a w Q he H hQ)
    · cases hs
  | block id b =>
    simp only [codeStep] at hs
    simp only [codeOk] at hk
    obtain ⟨y, hy, hs⟩ := bind_some hs
    obtain ⟨f1, f2, f3⟩ := hR _ _ _ _ hy hk
    obtain ⟨ex, e1, h1⟩ := y
    simp only at f1 f2 f3
    cases ex with
    | exit id' =>
      simp only at hs
      split at hs
      · rename_i hid
        injection hs with hs; subst hs
        refine ⟨f1, f2, fun B hB M a w Q he H hQ => wp_block ?_⟩
        refine f3 B hB M a w _ he H fun M1 a1 w1 x1 E1 H1 V1 X1 => ?_
        have := hQ M1 a1 w1 .normal E1 H1 V1 .normal
        cases X1
        simp only [Exit.inBlock, hid, if_true]
        exact this
      · rename_i hid
        injection hs with hs; subst hs
        refine ⟨f1, f2, fun B hB M a w Q he H hQ => wp_block ?_⟩
        refine f3 B hB M a w _ he H fun M1 a1 w1 x1 E1 H1 V1 X1 => ?_
        have := hQ M1 a1 w1 x1 E1 H1 V1 X1
        cases X1
        simp only [Exit.inBlock, hid, if_false]
        exact this
    | _ =>
      simp only at hs
      injection hs with hs; subst hs
      refine ⟨f1, f2, fun B hB M a w Q he H hQ => wp_block ?_⟩
      refine f3 B hB M a w _ he H fun M1 a1 w1 x1 E1 H1 V1 X1 => ?_
      have := hQ M1 a1 w1 x1 E1 H1 V1 X1
      cases X1; exact this
  | loop b =>
    simp only [codeOk] at hk
    obtain ⟨f1, f2, f3⟩ := loop b e h x hs hk
    refine ⟨f1, f2, fun B hB M a w Q he H hQ => ?_⟩
    obtain ⟨k, hk2⟩ := f3 B hB
    exact wp_loop_rounds k (hk2 M a w Q he H hQ)
  | region id ops draw =>
    simp only [codeStep] at hs
    simp only [codeOk, Bool.and_eq_true] at hk
    cases draw with
    | false =>
      simp only [cond_false] at hs
      obtain ⟨f1, f2, f3⟩ := CodeOK.region (P := P) (B := x.2.2.next) (id := id) hG.toFits2 hC hk.1 hs
      exact ⟨f1, f2, fun B hB => (CodeOK.region (P := P) (B := B) (id := id) hG.toFits2 hC hk.1 hs).2.2 hB⟩
    | true =>
      simp only [cond_true] at hs
      obtain ⟨info, hi, hs⟩ := bind_some hs
      obtain ⟨y, hy, rfl⟩ := map_some hs
      rw [hi] at hk
      simp only [Bool.not_true, Bool.false_or] at hk
      obtain ⟨f1, f2, f3⟩ := drawStep_sound (P := P) hG.toFits2 hC hG.mixed hk.1 hk.2 hy id
      have h1 : (drawn G ops e y).1 = y.1 := by obtain ⟨ex, e1, h1⟩ := y; cases ex <;> rfl
      have h2 : (drawn G ops e y).2.2 = y.2.2 := by obtain ⟨ex, e1, h1⟩ := y; cases ex <;> rfl
      rw [h1, h2]
      exact ⟨f1, f2, f3⟩
  | _ => cases hs

end
end Go.AE
