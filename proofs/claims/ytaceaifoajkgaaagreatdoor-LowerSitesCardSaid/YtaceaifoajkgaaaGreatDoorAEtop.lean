/- The evaluator is right: the whole of it, by the fuel. -/
import Derived.Test.YtaceaifoajkgaaaGreatDoorAEdfr
namespace Go.AE
section
variable {G : Tabs} {P : Program}

theorem LR.two_app {M : Mp} {a b : List Value} {a' b' : Array Value} (h : LR M a a'.toList) (h' : LR M b b'.toList) : LR M (a ++ b) (a' ++ b').toList := by
  rw [Array.toList_append]; exact h.append h'

theorem dcall_sound {r : Ev} (hG : G.Fits3 P) (hD : DCodeP G P r) {f : FuncId} {args : List Value} {h h' : Hp} {rc rc' : Rc} (hs : dcall G r f args h rc = some (h', rc')) :
    h.next ≤ h'.next ∧ ∀ B, h'.next ≤ B → ∀ (M : Mp) (w : World) (args' : Array Value) (u : FrameMode), LR M args args'.toList → HR B M h w → RcR M rc u →
      (∃ fn c, P.funcs[f]? = some fn ∧ (∀ args w, (callFunc f args).run P w = .ok (.enter f args) w) ∧ fn.body = some c) ∧
      CallsD P f args' u w fun e u' w' => (∃ v, e = .returned v) ∧ ∃ M', Ext M h w M' h' w' ∧ HR B M' h' w' ∧ RcR M' rc' u' := by
  unfold dcall at hs
  obtain ⟨fn, hfn, hs⟩ := bind_some hs
  obtain ⟨c, hc, hs⟩ := bind_some hs
  obtain ⟨y, hy, hs⟩ := bind_some hs
  obtain ⟨hPf, hname⟩ := hG.fn f fn hfn
  obtain ⟨f1, f2, f3⟩ := hD _ _ _ _ _ hy (hG.ok f fn c hfn hc)
  obtain ⟨ex, e1, h1, rc1⟩ := y
  simp only at f1 f2 f3
  have key : (ex = .normal ∨ ex = .ret) → (bif e1.defers.isEmpty && fn.results.toList.isEmpty then some (h1, rc1) else none) = some (h', rc') → h.next ≤ h'.next ∧ ∀ B, h'.next ≤ B → ∀ (M : Mp) (w : World) (args' : Array Value) (u : FrameMode), LR M args args'.toList → HR B M h w → RcR M rc u →
      (∃ fn c, P.funcs[f]? = some fn ∧ (∀ args w, (callFunc f args).run P w = .ok (.enter f args) w) ∧ fn.body = some c) ∧
      CallsD P f args' u w fun e u' w' => (∃ v, e = .returned v) ∧ ∃ M', Ext M h w M' h' w' ∧ HR B M' h' w' ∧ RcR M' rc' u' := by
    intro hex hs
    obtain ⟨hcond, hs⟩ := bif_some hs
    injection hs with hs; injection hs with e2 e3; subst e2; subst e3
    simp only [Bool.and_eq_true, List.isEmpty_iff] at hcond
    refine ⟨f2, fun B hB M w args' u hl H hrc => ⟨⟨fn, c, hPf, hname, hc⟩, callsD_of_wpS hPf hc fun c₀ cs hu => ?_⟩⟩
    refine f3 B hB M _ w c₀ cs _ (EnvR.first hl) H (by rw [hu]; exact hrc) fun M' a' w' x' u' E H' V X R => ?_
    have fin : a'.defers = [] ∧ ∃ v, (results fn a'.tmps).run P w' = .ok v w' := by
      have hd : All2 (DR M') e1.defers a'.defers := by
        rcases hex with rfl | rfl
        · exact V.defers
        · exact V.defers
      rw [hcond.1] at hd
      refine ⟨hd.nil_left, ?_⟩
      have : fn.results = #[] := Array.ext' (by simpa using hcond.2)
      unfold results
      rw [this]
      simp
    rcases hex with rfl | rfl
    · cases X
      exact ⟨fin.1, u', rfl, fin.2.choose, fin.2.choose_spec, ⟨_, rfl⟩, M', E, H', R⟩
    · cases X
      exact ⟨fin.1, u', rfl, fin.2.choose, fin.2.choose_spec, ⟨_, rfl⟩, M', E, H', R⟩
  cases ex with
  | normal => exact key (.inl rfl) hs
  | ret => exact key (.inr rfl) hs
  | exit id => cases hs
  | pan ch => cases hs

def untaken : Rc → Rc
  | .taken => .nothing
  | x => x

theorem leave_sound {r : Ev} (hG : G.Fits3 P) (hD : DCodeP G P r) : ∀ (ds : List Deferred) (rc : Rc) (h : Hp) (x : Rc × Hp), rc ≠ .taken → leave G r ds rc h = some x →
    h.next ≤ x.2.next ∧ ∀ B, x.2.next ≤ B → ∀ (M : Mp) (w : World) (ds' : List Deferred) (u : FrameMode) (fn : Func) (tmps : Array Value) (R : Ending → World → Prop), All2 (DR M) ds ds' → HR B M h w → RcR M rc u →
      (∀ M' w' u', Ext M h w M' x.2 w' → HR B M' x.2 w' → RcR M' x.1 u' → Leaves P fn tmps R [] u' w') → Leaves P fn tmps R ds' u w := by
  intro ds
  induction ds with
  | nil =>
    intro rc h x _ hs
    injection hs with hs; subst hs
    refine ⟨Nat.le_refl _, fun B _ M w ds' u fn tmps R hd H hrc hQ => ?_⟩
    rw [hd.nil_left]
    exact hQ M w u (Ext.refl _ _ _) H hrc
  | cons d ds ih =>
    intro rc h x hnt hs
    simp only [leave] at hs
    split at hs
    · rename_i f c htg
      obtain ⟨⟨h1, rc1⟩, hy, hs⟩ := bind_some hs
      simp only at hs
      have hs' : leave G r ds (untaken rc1) h1 = some x := by
        cases rc1 <;> exact hs
      obtain ⟨g1, g2⟩ := ih (untaken rc1) h1 x (by cases rc1 <;> simp [untaken]) hs'
      obtain ⟨k1, k2⟩ := dcall_sound (P := P) hG hD hy
      refine ⟨Nat.le_trans k1 g1, fun B hB M w ds' u fn tmps R hd H hrc hQ => ?_⟩
      cases hd with
      | @cons _ d' _ ds' hdd hds =>
        obtain ⟨f2, c2, c2', t1, t2, t3, t4⟩ := hdd
        rw [htg] at t1
        injection t1 with t1 t1b
        injection t1 with t1
        subst t1; subst t1b
        have hl : LR M (d.args.toList ++ c.toList) (d'.args ++ c2').toList := LR.two_app t4 t3
        obtain ⟨⟨fn1, cb, b1, b2, b3⟩, hcd⟩ := k2 B (Nat.le_trans g1 hB) M w _ u hl H hrc
        have hu : u ≠ .run := by
          intro e; subst e
          cases rc with
          | nothing => cases hrc
          | avail v => obtain ⟨_, h1, _⟩ := hrc; cases h1
          | taken => exact hnt rfl
        obtain ⟨tg, ar⟩ := d'
        simp only at t2
        subst t2
        refine leaves_cons hu (f := f) (args := ar ++ c2') ?_ (hcd.mono fun e u' w' hh => ?_)
        · show (callFunc f (ar ++ c2')).run P w = _
          exact b2 _ _
        · obtain ⟨⟨v, rfl⟩, M', E, H', R'⟩ := hh
          have hset : RcR M' (untaken rc1) (settle u') := by
            cases rc1 with
            | nothing => have : u' = .returning := R'
                         subst this; rfl
            | avail v => obtain ⟨v', h1, h2⟩ := R'; subst h1; exact ⟨v', rfl, h2⟩
            | taken => obtain ⟨v', h1⟩ := R'; subst h1; rfl
          refine g2 B hB M' w' ds' (settle u') fn tmps R (DRs.mono E.le hds) H' hset fun M2 w2 u2 E2 H2 R2 => hQ M2 w2 u2 (E.trans E2) H2 R2
    · cases hs

theorem EndR.toP {M : Mp} {ex : Ex} {e : Env} {a : Act} (h : EndR M ex e a) : EnvP M e a := by
  cases ex with
  | pan ch => exact h
  | normal => exact EnvR.toP h
  | ret => exact EnvR.toP h
  | exit id => exact EnvR.toP h

theorem CallsOK.upon {B : Nat} {f : FuncId} {args : List Value} {h : Hp} {out : Out} {h1 : Hp} (hrun : ∀ args w, (callFunc f args).run P w = .ok (.enter f args) w)
    (hc : CallsOK P B f args h out h1) : UponOK P B f args h out h1 := by
  intro M w args' hl H o a K Q hk
  rw [hrun, Oper.upon_enter]
  refine (hc M w args' hl H).mono fun e w' hh => ?_
  obtain ⟨M', E, H', hO⟩ := hh
  have := hk M' w' e E H' hO
  cases e <;> exact this

theorem callStep_calls {r : Ev} (hG : G.Fits3 P) (hR : CodeP G P r) (hD : DCodeP G P r) {f : FuncId} {args : List Value} {h : Hp} {out : Out} {h1 : Hp} (hsp : G.spec f = none) (hs : callStep G r f args h = some (out, h1)) :
    (∃ fn c, P.funcs[f]? = some fn ∧ (∀ args w, (callFunc f args).run P w = .ok (.enter f args) w) ∧ fn.body = some c) ∧ h.next ≤ h1.next ∧ ∀ B, h1.next ≤ B → CallsOK P B f args h out h1 := by
    unfold callStep at hs
    rw [hsp] at hs
    simp only at hs
    · obtain ⟨fn, hfn, hs⟩ := bind_some hs
      obtain ⟨c, hc, hs⟩ := bind_some hs
      obtain ⟨y, hy, hs⟩ := bind_some hs
      obtain ⟨hPf, hname⟩ := hG.fn f fn hfn
      refine ⟨⟨fn, c, hPf, hname, hc⟩, ?_⟩
      obtain ⟨f1, f2, f3⟩ := hR _ _ _ _ hy (hG.ok f fn c hfn hc)
      obtain ⟨ex, e1, h2⟩ := y
      simp only at f1 f2 f3
      have good : (ex = .normal ∨ ex = .ret) → ((leave G r e1.defers .nothing h2).bind fun (rc, h) =>
          match rc with
          | .nothing => (resVals G e1 h fn.results.toList).map fun l => (Out.ret (resVal l), h)
          | _ => none) = some (out, h1) → h.next ≤ h1.next ∧ ∀ B, h1.next ≤ B → CallsOK P B f args h out h1 := by
        intro hex hs
        obtain ⟨⟨rc, h3⟩, hlv, hs⟩ := bind_some hs
        obtain ⟨g1, g2⟩ := leave_sound (P := P) hG hD _ _ _ _ (by simp) hlv
        simp only at hs
        split at hs
        · obtain ⟨l, hl, hs⟩ := map_some hs
          injection hs with e2 e3; subst e2; subst e3
          refine ⟨Nat.le_trans f2 g1, fun B hB M w args' hl' H => calls_of_wp_defers hPf hc ?_⟩
          refine f3 B (Nat.le_trans g1 hB) M _ w _ (EnvR.first hl') H fun M' a' w' x' E H' V X => ?_
          have VP := V.toP
          have fin : Leaves P fn a'.tmps (fun e w' => ∃ M', Ext M h w M' h3 w' ∧ HR B M' h3 w' ∧ OutR M' (.ret (resVal l)) e) a'.defers .returning w' := by
            refine g2 B hB M' w' _ _ fn _ _ VP.defers H' rfl fun M2 w2 u2 E2 H2 R2 => ?_
            have : u2 = .returning := R2
            subst this
            obtain ⟨v', k1, k2⟩ := results_sound (P := P) hG.toFits H2 (fun t v ht => (VP.vals t v ht).mono E2.le) hl
            exact ⟨v', k1, M2, E.trans E2, H2, .ret k2⟩
          rcases hex with rfl | rfl
          · cases X; exact fin
          · cases X; exact fin
        · cases hs
      cases ex with
      | normal => exact good (.inl rfl) hs
      | ret => exact good (.inr rfl) hs
      | exit id => cases hs
      | pan ch =>
        simp only at hs
        split at hs
        · rename_i v
          obtain ⟨⟨rc, h3⟩, hlv, hs⟩ := bind_some hs
          obtain ⟨g1, g2⟩ := leave_sound (P := P) hG hD _ _ _ _ (by simp) hlv
          simp only at hs
          -- the frame that ends by a panic
          have fin : ∀ (B : Nat), h3.next ≤ B → h1 = h3 → (∀ (M0 M' : Mp) (w0 w' : World) (u' : FrameMode) (a' : Act), Ext M0 h w0 M' h3 w' → HR B M' h3 w' → (∀ t v, e1.tmps.get t = some v → VR M' v (a'.tmps.getD t undef)) → RcR M' rc u' →
                Leaves P fn a'.tmps (fun e w' => ∃ M', Ext M0 h w0 M' h3 w' ∧ HR B M' h3 w' ∧ OutR M' out e) [] u' w') → CallsOK P B f args h out h3 := by
            intro B hB _ hend
            intro M w args' hl' H
            refine calls_of_wp_defers hPf hc ?_
            refine f3 B (Nat.le_trans g1 hB) M _ w _ (EnvR.first hl') H fun M' a' w' x' E H' V X => ?_
            have VP := V.toP
            cases X with
            | pan hch =>
              obtain ⟨en', rfl, hv, hr2, hg2⟩ := hch.one
              have hen : en' = { v := en'.v, recovered := false } := by
                obtain ⟨v1, r1, g3⟩ := en'
                simp only at hr2 hg2
                rw [← hr2, ← hg2]
              have hmode : RcR M' (.avail v) (.panicking [en']) := ⟨en'.v, by rw [← hen], hv⟩
              show Leaves P fn a'.tmps _ a'.defers (.panicking [en']) w'
              exact g2 B hB M' w' _ _ fn _ _ VP.defers H' hmode fun M2 w2 u2 E2 H2 R2 => hend M M2 w w2 u2 a' (E.trans E2) H2 (fun t v ht => (VP.vals t v ht).mono E2.le) R2
          split at hs
          · obtain ⟨l, hl, hs⟩ := map_some hs
            injection hs with e2 e3; subst e2; subst e3
            refine ⟨Nat.le_trans f2 g1, fun B hB => fin B hB rfl fun M0 M' w0 w' u' a' E H' hv hrc => ?_⟩
            have : u' = .returning := hrc
            subst this
            obtain ⟨v', k1, k2⟩ := results_sound (P := P) hG.toFits H' hv hl
            exact ⟨v', k1, M', E, H', .ret k2⟩
          · rename_i v2
            injection hs with hs; injection hs with e2 e3; subst e2; subst e3
            refine ⟨Nat.le_trans f2 g1, fun B hB => fin B hB rfl fun M0 M' w0 w' u' a' E H' hv hrc => ?_⟩
            obtain ⟨v', hm, hvv⟩ := hrc
            subst hm
            exact ⟨M', E, H', .pan (.cons ⟨hvv, rfl, rfl⟩ .nil)⟩
          · cases hs
        · cases hs

theorem callStep_sound {r : Ev} (hG : G.Fits3 P) (hR : CodeP G P r) (hD : DCodeP G P r) : CallOK P (Ev.step G r).call := by
  have main : ∀ f args h out h1, callStep G r f args h = some (out, h1) → h.next ≤ h1.next ∧ ∀ B, h1.next ≤ B → UponOK P B f args h out h1 := by
    intro f args h out h1 hs
    cases hsp : G.spec f with
    | some s =>
      unfold callStep at hs
      rw [hsp] at hs
      simp only at hs
      obtain ⟨⟨v, h2⟩, hv, hs⟩ := map_some hs
      injection hs with e1 e2; subst e1; subst e2
      exact hG.spec f s args h v h2 hsp hv
    | none =>
      obtain ⟨⟨fn, c, k1, k2, k3⟩, g1, g2⟩ := callStep_calls hG hR hD hsp hs
      exact ⟨g1, fun B hB => CallsOK.upon k2 (g2 B hB)⟩
  exact ⟨fun f args h out h1 hs => (main f args h out h1 hs).1, fun f args h out h1 hs => (main f args h out h1 hs).2⟩

theorem ev_sound (hG : G.Fits3 P) : ∀ n, CodeP G P (ev G n) ∧ LoopP G P (ev G n) ∧ CallOK P (ev G n).call ∧ DCodeP G P (ev G n) := by
  intro n
  induction n with
  | zero =>
    refine ⟨fun c e h x hs => ?_, fun b e h x hs => ?_, ⟨fun f args h out h1 hs => ?_, fun f args h out h1 hs => ?_⟩, fun c e h rc x hs => ?_⟩ <;> cases hs
  | succ n ih =>
    obtain ⟨h1, h2, h3, h4⟩ := ih
    obtain ⟨g1, g2⟩ := codeStep_sound hG h3 h1 h2
    exact ⟨g1, g2, callStep_sound hG h1 h4, dcodeStep_sound hG h3 h1 h4⟩

end
end Go.AE
