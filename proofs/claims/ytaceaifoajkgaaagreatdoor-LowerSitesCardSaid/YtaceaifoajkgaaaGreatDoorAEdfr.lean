/- Deferred calls, results, whole calls. -/
import Derived.Test.YtaceaifoajkgaaaGreatDoorAEev
namespace Go.AE
section
variable {G : Tabs} {P : Program}

/-- what may be recovered, in the mode of the frame that ends -/
def RcR (M : Mp) (rc : Rc) (u : FrameMode) : Prop :=
  match rc with
  | .nothing => u = .returning
  | .avail v => ∃ v', u = .panicking [{ v := v', recovered := false }] ∧ VR M v v'
  | .taken => ∃ v', u = .panicking [{ v := v', recovered := true }]

theorem RcR.mono {M M' : Mp} (hM : M.le M') {rc : Rc} {u : FrameMode} (h : RcR M rc u) : RcR M' rc u := by
  cases rc with
  | nothing => exact h
  | avail v => obtain ⟨v', h1, h2⟩ := h; exact ⟨v', h1, h2.mono hM⟩
  | taken => exact h

def DCodeOK (P : Program) (B : Nat) (c : Code) (e : Env) (h : Hp) (rc : Rc) (ex : Ex) (e' : Env) (h' : Hp) (rc' : Rc) : Prop :=
  ∀ (M : Mp) (a : Act) (w : World) (c₀ : Frame) (cs : List Frame) (Q : Exit → Act → List Frame → World → Prop), EnvR M e a → HR B M h w → RcR M rc c₀.mode →
    (∀ M' a' w' x' u', Ext M h w M' h' w' → HR B M' h' w' → EndR M' ex e' a' → ExR M' ex x' → RcR M' rc' u' → Q x' a' ({ c₀ with mode := u' } :: cs) w') → c.wpS P Q a (c₀ :: cs) w

def DCodeP (G : Tabs) (P : Program) (r : Ev) : Prop := ∀ c e h rc x, r.dcode c e h rc = some x → codeOk G e.fn c = true →
  x.2.1.fn = e.fn ∧ h.next ≤ x.2.2.1.next ∧ ∀ B, x.2.2.1.next ≤ B → DCodeOK P B c e h rc x.1 x.2.1 x.2.2.1 x.2.2.2

theorem recoverD_avail {c₀ : Frame} {cs : List Frame} {v : Value} (h : c₀.mode = .panicking [{ v := v, recovered := false }]) :
    recoverD (c₀ :: cs) = some (v, { c₀ with mode := .panicking [{ v := v, recovered := true }] } :: cs) := by
  simp [recoverD, h]
theorem recoverD_nothing {c₀ : Frame} {cs : List Frame} (h : c₀.mode = .returning) : recoverD (c₀ :: cs) = none := by
  simp [recoverD, h]
theorem recoverD_taken {c₀ : Frame} {cs : List Frame} {v : Value} (h : c₀.mode = .panicking [{ v := v, recovered := true }]) : recoverD (c₀ :: cs) = none := by
  simp [recoverD, h]

theorem recover_run {o : Oper} (hr : isRecover o = true) (a : Act) (w : World) : (execOp a.eval o).run P w = .ok .recover w := by
  unfold isRecover at hr
  split at hr
  · rename_i hop
    simp [execOp, hop, resolve, invoke, builtin]
  · cases hr

theorem with_mode (c₀ : Frame) : ({ c₀ with mode := c₀.mode } : Frame) = c₀ := rfl

theorem dOps_sound {r : Ev} (hG : G.Fits2 P) (hC : CallOK P r.call) (all : Array Oper) (hall : (all.toList.all fun o => o.op.operands.toList.all okOpd) = true) :
    ∀ (n i : Nat) (l : List Oper) (e : Env) (h : Hp) (rc : Rc) (x : Ex × Env × Hp × Rc), all.toList.drop i = l → l.length = n → dOps G r all l e h rc = some x →
      x.2.1.fn = e.fn ∧ h.next ≤ x.2.2.1.next ∧ ∀ B, x.2.2.1.next ≤ B → ∀ (M : Mp) (a : Act) (w : World) (c₀ : Frame) (cs : List Frame) (Q : Exit → Act → List Frame → World → Prop), EnvR M e a → HR B M h w → RcR M rc c₀.mode →
        (∀ M' a' w' x' u', Ext M h w M' x.2.2.1 w' → HR B M' x.2.2.1 w' → EnvR M' x.2.1 a' → ExR M' x.1 x' → RcR M' x.2.2.2 u' → Q x' a' ({ c₀ with mode := u' } :: cs) w') → wpOpsS P all Q (List.range' i n) a (c₀ :: cs) w := by
  intro n
  induction n with
  | zero =>
    intro i l e h rc x hl hn hs
    have : l = [] := List.eq_nil_of_length_eq_zero hn
    subst this
    simp only [dOps] at hs
    injection hs with hs; subst hs
    refine ⟨rfl, Nat.le_refl _, fun B _ M a w c₀ cs Q he H hrc hQ => ?_⟩
    exact hQ M a w .normal c₀.mode (Ext.refl _ _ _) H he .normal hrc
  | succ n ih =>
    intro i l e h rc x hl hn hs
    cases l with
    | nil => cases hn
    | cons o rest =>
      have hi : all[i]? = some o := by
        have : (all.toList.drop i)[0]? = some o := by rw [hl]; rfl
        rw [List.getElem?_drop] at this
        simpa using this
      have hrest : all.toList.drop (i + 1) = rest := by
        have := congrArg List.tail hl
        simpa [List.tail_drop] using this
      have hlen : rest.length = n := by simpa using hn
      have hom : o ∈ all.toList := by rw [Array.mem_toList_iff]; exact Array.mem_of_getElem? hi
      have hok := List.all_eq_true.1 hall o hom
      simp only [dOps] at hs
      cases hw : wantedA all e o with
      | false =>
        rw [hw] at hs
        simp only [cond_false] at hs
        obtain ⟨f1, f2, f3⟩ := ih (i + 1) rest _ h rc x hrest hlen hs
        refine ⟨by rw [f1, Env.fn_put], f2, fun B hB M a w c₀ cs Q he H hrc hQ => ?_⟩
        simp only [List.range'_succ, wpOpsS, hi]
        rw [wanted_eq he, hw]
        simp only [Bool.false_eq_true, if_false]
        exact f3 B hB M _ w c₀ cs Q (he.put _ (.undef M)) H hrc hQ
      | true =>
        rw [hw] at hs
        simp only [cond_true] at hs
        cases hr : isRecover o with
        | true =>
          rw [hr] at hs
          simp only [cond_true] at hs
          cases rc with
          | avail v =>
            simp only at hs
            obtain ⟨f1, f2, f3⟩ := ih (i + 1) rest _ h .taken x hrest hlen hs
            refine ⟨by rw [f1, Env.fn_put], f2, fun B hB M a w c₀ cs Q he H hrc hQ => ?_⟩
            obtain ⟨v', hm, hv⟩ := hrc
            simp only [List.range'_succ, wpOpsS, hi]
            rw [wanted_eq he, hw]
            simp only [if_true, recover_run hr, recoverD_avail hm]
            exact f3 B hB M _ w { c₀ with mode := .panicking [{ v := v', recovered := true }] } cs Q (he.put _ hv) H ⟨v', rfl⟩ hQ
          | nothing =>
            simp only at hs
            obtain ⟨f1, f2, f3⟩ := ih (i + 1) rest _ h .nothing x hrest hlen hs
            refine ⟨by rw [f1, Env.fn_put], f2, fun B hB M a w c₀ cs Q he H hrc hQ => ?_⟩
            simp only [List.range'_succ, wpOpsS, hi]
            rw [wanted_eq he, hw]
            simp only [if_true, recover_run hr, recoverD_nothing hrc]
            exact f3 B hB M _ w c₀ cs Q (he.put _ .nilIface) H hrc hQ
          | taken =>
            simp only at hs
            obtain ⟨f1, f2, f3⟩ := ih (i + 1) rest _ h .taken x hrest hlen hs
            refine ⟨by rw [f1, Env.fn_put], f2, fun B hB M a w c₀ cs Q he H hrc hQ => ?_⟩
            obtain ⟨v', hm⟩ := hrc
            simp only [List.range'_succ, wpOpsS, hi]
            rw [wanted_eq he, hw]
            simp only [if_true, recover_run hr, recoverD_taken hm]
            exact f3 B hB M _ w c₀ cs Q (he.put _ .nilIface) H ⟨v', hm⟩ hQ
        | false =>
          rw [hr] at hs
          simp only [cond_false] at hs
          obtain ⟨res, hres, hs⟩ := bind_some hs
          cases res with
          | pan v h1 => cases hs
          | dfr d => cases hs
          | val v h1 =>
            simp only at hs
            obtain ⟨f1, f2, f3⟩ := ih (i + 1) rest _ h1 rc x hrest hlen hs
            have mono : h.next ≤ h1.next := opStep_next hC.next hres
            refine ⟨by rw [f1, Env.fn_put], Nat.le_trans mono f2, fun B hB M a w c₀ cs Q he H hrc hQ => ?_⟩
            obtain ⟨_, g⟩ := opStep_sound (B := B) hG hC H (opsR_of he hok) hres
            have g' := g (Nat.le_trans f2 hB)
            simp only [List.range'_succ, wpOpsS, hi]
            rw [wanted_eq he, hw]
            simp only [if_true]
            have main := g' (fun a' w' => wpOpsS P all Q (List.range' (i + 1) n) a' (c₀ :: cs) w') (fun e a' w' => Q e a' (c₀ :: cs) w') fun M' v' w' E H' V =>
              f3 B hB M' _ w' c₀ cs Q ((he.mono E.le).put _ V) H' (hrc.mono E.le) fun M2 a2 w2 x2 u2 E2 H2 he2 hx2 hr2 => hQ M2 a2 w2 x2 u2 (E.trans E2) H2 he2 hx2 hr2
            unfold Oper.wp at main
            split
            · rename_i w' hrun
              rw [hrun] at main
              exact main.elim
            · exact main

theorem dcodeStep_sound {r : Ev} (hG : G.Fits3 P) (hC : CallOK P r.call) (hR : CodeP G P r) (hD : DCodeP G P r) : DCodeP G P (Ev.step G r) := by
  have plain : ∀ c e h rc x, ((r.code c e h).map fun (x, e, h) => (x, e, h, rc)) = some x → codeOk G e.fn c = true →
      x.2.1.fn = e.fn ∧ h.next ≤ x.2.2.1.next ∧ ∀ B, x.2.2.1.next ≤ B → DCodeOK P B c e h rc x.1 x.2.1 x.2.2.1 x.2.2.2 := by
    intro c e h rc x hs hk
    obtain ⟨⟨ex, e1, h1⟩, hy, hs⟩ := map_some hs
    subst hs
    obtain ⟨f1, f2, f3⟩ := hR _ _ _ _ hy hk
    refine ⟨f1, f2, fun B hB M a w c₀ cs Q he H hrc hQ => wpS_of_wp ?_⟩
    exact f3 B hB M a w _ he H fun M' a' w' x' E H' V X => hQ M' a' w' x' c₀.mode E H' V X (hrc.mono E.le)
  intro c e h rc x hs hk
  change dcodeStep G r c e h rc = some x at hs
  cases c with
  | seq p q =>
    simp only [dcodeStep] at hs
    simp only [codeOk, Bool.and_eq_true] at hk
    obtain ⟨y, hy, hs⟩ := bind_some hs
    obtain ⟨f1, f2, f3⟩ := hD _ _ _ _ _ hy hk.1
    obtain ⟨ex, e1, h1, rc1⟩ := y
    simp only at f1 f2 f3
    cases ex with
    | normal =>
      simp only at hs
      obtain ⟨g1, g2, g3⟩ := hD _ _ _ _ _ hs (by rw [f1]; exact hk.2)
      refine ⟨g1.trans f1, Nat.le_trans f2 g2, fun B hB M a w c₀ cs Q he H hrc hQ => wpS_seq ?_⟩
      refine f3 B (Nat.le_trans g2 hB) M a w c₀ cs _ he H hrc fun M1 a1 w1 x1 u1 E1 H1 V1 X1 R1 => ?_
      rw [X1.normal_inv]
      exact g3 B hB M1 a1 w1 { c₀ with mode := u1 } cs Q V1 H1 R1 fun M2 a2 w2 x2 u2 E2 H2 V2 X2 R2 => hQ M2 a2 w2 x2 u2 (E1.trans E2) H2 V2 X2 R2
    | _ =>
      simp only at hs
      injection hs with hs; subst hs
      refine ⟨f1, f2, fun B hB M a w c₀ cs Q he H hrc hQ => wpS_seq ?_⟩
      refine f3 B hB M a w c₀ cs _ he H hrc fun M1 a1 w1 x1 u1 E1 H1 V1 X1 R1 => ?_
      have := hQ M1 a1 w1 x1 u1 E1 H1 V1 X1 R1
      cases X1; exact this
  | cond c p q =>
    simp only [dcodeStep] at hs
    simp only [codeOk, Bool.and_eq_true] at hk
    split at hs
    · rename_i t ht
      have hkt : codeOk G e.fn (if t then p else q) = true := by cases t; exact hk.2; exact hk.1.2
      obtain ⟨f1, f2, f3⟩ := hD _ _ _ _ _ hs hkt
      refine ⟨f1, f2, fun B hB M a w c₀ cs Q he H hrc hQ => ?_⟩
      have hc := he.opd hk.1.1
      rw [ht] at hc
      exact wpS_cond hc.bool_inv (f3 B hB M a w c₀ cs Q he H hrc hQ)
    · cases hs
  | region id ops draw =>
    cases draw with
    | true => exact plain _ e h rc x hs hk
    | false =>
      simp only [dcodeStep] at hs
      cases hany : ops.toList.any isRecover with
      | false => rw [hany] at hs; exact plain _ e h rc x hs hk
      | true =>
        rw [hany] at hs
        simp only [cond_true] at hs
        simp only [codeOk, Bool.and_eq_true] at hk
        obtain ⟨f1, f2, f3⟩ := dOps_sound (P := P) hG.toFits2 hC ops hk.1 ops.size 0 ops.toList e h rc x (by simp) (by simp) hs
        refine ⟨f1, f2, fun B hB M a w c₀ cs Q he H hrc hQ => wpS_region ?_⟩
        have := f3 B hB M a w c₀ cs Q he H hrc fun M' a' w' x' u' E H' V X R => hQ M' a' w' x' u' E H' (V.toEnd _) X R
        rw [List.range_eq_range']
        exact this
  | _ => exact plain _ e h rc x hs hk

/- the first frame -/
theorem tmpsOf_get : ∀ (l : List Value) (i : Nat) (t : Tr Value) (k : Nat), (tmpsOf i l t).get k = if i ≤ k ∧ k < i + l.length then l[k - i]? else t.get k := by
  intro l
  induction l with
  | nil => intro i t k; simp only [tmpsOf, List.length_nil]; rw [if_neg (by omega)]
  | cons v l ih =>
    intro i t k
    simp only [tmpsOf]
    rw [ih, Tr.get_set, List.length_cons]
    by_cases h1 : k = i
    · subst h1
      rw [if_neg (by omega), if_pos rfl, if_pos (by omega)]
      simp
    · by_cases h2 : i + 1 ≤ k ∧ k < i + 1 + l.length
      · rw [if_pos h2, if_pos (by omega)]
        have : k - i = (k - (i + 1)) + 1 := by omega
        rw [this, List.getElem?_cons_succ]
      · rw [if_neg h2, if_neg h1, if_neg (by omega)]

theorem EnvR.first {M : Mp} {f : FuncId} {fn : Func} {args : List Value} {args' : Array Value} (hl : LR M args args'.toList) :
    EnvR M ⟨f, tmpsOf 0 args .nil, max fn.ntmps args.length, []⟩ { tmps := args' ++ Array.replicate (fn.ntmps - args'.size) undef, defers := [] } := by
  have hsz : args.length = args'.size := by simpa using hl.1
  refine ⟨fun t => ?_, ?_, .nil⟩
  · unfold Env.val
    simp only
    rw [tmpsOf_get]
    by_cases ht : t < args.length
    · rw [if_pos (by omega)]
      have := hl.2 t ht
      simp only [Nat.sub_zero, List.getElem?_eq_getElem ht, Option.getD_some]
      have ht' : t < args'.size := by omega
      have ht2 : t < args'.toList.length := by simpa using ht'
      simp only [List.getD_eq_getElem?_getD, List.getElem?_eq_getElem ht, List.getElem?_eq_getElem ht2, Option.getD_some] at this
      rw [Array.getD_eq_getD_getElem?, Array.getElem?_append_left ht', Array.getElem?_eq_getElem ht', Option.getD_some]
      simpa using this
    · rw [if_neg (by omega)]
      have h1 : ((Tr.nil : Tr Value).get t).getD undef = undef := rfl
      rw [h1]
      have h2 : (args' ++ Array.replicate (fn.ntmps - args'.size) undef).getD t undef = undef := by
        rw [Array.getD_eq_getD_getElem?, Array.getElem?_append_right (by omega), Array.getElem?_replicate]
        split <;> rfl
      rw [h2]
      exact .undef M
  · simp only [Array.size_append, Array.size_replicate]
    omega

/- results -/
def resOf (tmps : Array Value) : ResultVar → Sem Value
  | .tmp t => pure (tmps.getD t undef)
  | .cell a t => do loadVar t (← asAddr (tmps.getD a undef))
theorem resVals_sound (hG : G.Fits P) {B : Nat} {M : Mp} {h : Hp} {w : World} (H : HR B M h w) {e : Env} {tmps : Array Value} (hv : ∀ t v, e.tmps.get t = some v → VR M v (tmps.getD t undef)) :
    ∀ (rs : List ResultVar) (l : List Value), resVals G e h rs = some l →
      ∃ l', (rs.mapM (resOf tmps)).run P w = .ok l' w ∧ LR M l l' := by
  intro rs
  induction rs with
  | nil =>
    intro l hs
    injection hs with hs; subst hs
    exact ⟨[], by simp, .nil M⟩
  | cons x rs ih =>
    intro l hs
    cases x with
    | tmp t =>
      simp only [resVals] at hs
      obtain ⟨v, hv1, hs⟩ := bind_some hs
      obtain ⟨l1, hl1, rfl⟩ := map_some hs
      obtain ⟨l1', g1, g2⟩ := ih l1 hl1
      refine ⟨tmps.getD t undef :: l1', ?_, .cons (hv _ _ hv1) g2⟩
      simp only [List.mapM_cons, resOf, Sem.run_bind, Sem.run_pure, Result.andThen_ok, g1]
    | cell a t =>
      simp only [resVals] at hs
      obtain ⟨av, hv1, hs⟩ := bind_some hs
      obtain ⟨v, hv2, hs⟩ := bind_some hs
      obtain ⟨l1, hl1, rfl⟩ := map_some hs
      obtain ⟨l1', g1, g2⟩ := ih l1 hl1
      have hva := hv _ _ hv1
      have : ∃ b o, av = .pointer (some ⟨b, o, none⟩) := by
        unfold aLoad at hv2
        split at hv2
        · exact ⟨_, _, rfl⟩
        · cases hv2
      obtain ⟨b, o, rfl⟩ := this
      obtain ⟨b', o', p, hbo, hM, hva'⟩ := hva.ptr_inv
      injection hbo with hb1 ho1 _
      subst hb1; subst ho1
      obtain ⟨x', k1, k2⟩ := loadVar_sound (P := P) hG H hM (o := o) hv2
      refine ⟨x' :: l1', ?_, .cons k2 g2⟩
      have hra : (asAddr (Value.pointer (some ⟨p.b, o + p.sh, none⟩))).run P w = .ok ⟨p.b, o + p.sh, none⟩ w := rfl
      simp only [List.mapM_cons, resOf, Sem.run_bind, Sem.run_pure, Result.andThen_ok, hva', hra, k1, g1]

theorem results_sound (hG : G.Fits P) {B : Nat} {M : Mp} {h : Hp} {w : World} (H : HR B M h w) {e : Env} {tmps : Array Value} (hv : ∀ t v, e.tmps.get t = some v → VR M v (tmps.getD t undef))
    {fn : Func} {l : List Value} (hs : resVals G e h fn.results.toList = some l) : ∃ v', (results fn tmps).run P w = .ok v' w ∧ VR M (resVal l) v' := by
  obtain ⟨l', g1, g2⟩ := resVals_sound (P := P) hG H hv _ _ hs
  have hm : (fn.results.mapM (resOf tmps)).run P w = .ok l'.toArray w := by
    rw [Array.mapM_eq_mapM_toList]
    simp only [map_eq_pure_bind, Sem.run_bind, g1, Result.andThen_ok, Sem.run_pure]
  have hres : (results fn tmps).run P w = .ok (if h : l'.toArray.size = 1 then l'.toArray[0] else .tuple l'.toArray) w := by
    have he : results fn tmps = (fn.results.mapM (resOf tmps) >>= fun vs => pure (if h : vs.size = 1 then vs[0] else .tuple vs)) := rfl
    rw [he, Sem.run_bind, hm, Result.andThen_ok, Sem.run_pure]
  refine ⟨_, hres, ?_⟩
  cases l with
  | nil => rw [g2.nil_left]; exact .undef M
  | cons v l =>
    obtain ⟨v', r, rfl, hv', hr⟩ := g2.cases
    cases l with
    | nil => rw [hr.nil_left]; exact hv'
    | cons u l =>
      obtain ⟨u', r', rfl, hu', hr'⟩ := hr.cases
      exact g2.tuple

end
end Go.AE
