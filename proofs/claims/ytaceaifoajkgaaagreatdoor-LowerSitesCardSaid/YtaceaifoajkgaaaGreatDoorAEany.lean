/- The order drawn: any one leads to the same end. -/
import Derived.Test.YtaceaifoajkgaaaGreatDoorAEdraw
namespace Go.AE

theorem sStep_indep {G : Tabs} {e : Env} {o : Oper} (hr : reads o.op = false) (h h' : Hp) : sStep G e h o = sStep G e h' o := by
  unfold sStep
  cases hop : o.op <;> rw [hop] at hr <;> first | rfl | cases hr

theorem keepTmps_spec {ops : Array Oper} {tmps : Tr Value} : ∀ (l : List Tmp) (t : Nat) (v : Value), (keepTmps ops tmps l).get t = some v → tmps.get t = some v ∧ ∀ (k : Nat) (o : Oper), ops[k]? = some o → o.dst ≠ some t := by
  intro l
  induction l with
  | nil => intro t v h; cases h
  | cons u l ih =>
    intro t v h
    simp only [keepTmps] at h
    cases hb : ops.toList.any (dstIs u) with
    | true => rw [hb] at h; exact ih t v h
    | false =>
      rw [hb] at h
      simp only [cond_false] at h
      split at h
      · rename_i x hx
        rw [Tr.get_set] at h
        split at h
        · rename_i e; subst e
          injection h with h; subst h
          refine ⟨hx, fun k o ho hd => ?_⟩
          rw [List.any_eq_false] at hb
          have := hb o (by rw [Array.mem_toList_iff]; exact Array.mem_of_getElem? ho)
          unfold dstIs at this
          rw [hd] at this
          exact this (Nat.beq_refl t)
        · exact ih t v h
      · exact ih t v h

section
variable {G : Tabs} {P : Program} {r : Ev} {info : RegInfo} {ops : Array Oper} {S : Tc} {m : Nat} {M0 : Mp} {w0 : World} {B0 : Nat} {x : Ex × Env × Hp} {Q : Exit → Act → World → Prop}

abbrev lst (listed : Array Bool) (j : Nat) : Prop := listed.getD j false = true

structure Inv (G : Tabs) (ops : Array Oper) (S : Tc) (m : Nat) (M0 : Mp) (w0 : World) (t : Nat) (listed : Array Bool) (M : Mp) (a : Act) (w : World) : Prop where
  size : listed.size = ops.size
  closed : Closed ops (lst listed)
  lt : ∀ j, lst listed j → j < m
  tm : t ≤ m
  ft : Fires ops S t ∨ t = m
  effs : ∀ q, Fires ops S q → q < m → (lst listed q ↔ q < t)
  env : EnvX ops S (lst listed) M a
  hp : HpX G ops S m M0 w0 (lst listed) t M w

theorem lst_set {listed : Array Bool} {i : Nat} (hi : i < listed.size) : lst (listed.setIfInBounds i true) = fun j => lst listed j ∨ j = i := by
  funext j
  unfold lst
  apply propext
  simp only [Array.getD_eq_getD_getElem?, Array.getElem?_setIfInBounds]
  by_cases e : i = j
  · subst e; simp [hi]
  · rw [if_neg e]
    constructor
    · exact fun h => .inl h
    · rintro (h | h)
      · exact h
      · exact absurd h.symm e

theorem HpX.advance (T : Trace G r info ops S m) (hn : NextOK r) {X : Nat → Prop} {M : Mp} {w : World} : ∀ (d t : Nat), m - t = d → t ≤ m → HpX G ops S m M0 w0 X t M w →
    ∃ t', t ≤ t' ∧ t' ≤ m ∧ HpX G ops S m M0 w0 X t' M w ∧ (Fires ops S t' ∨ t' = m) ∧ ∀ q, t ≤ q → q < t' → ¬ Fires ops S q := by
  intro d
  induction d with
  | zero => intro t hd ht H; exact ⟨t, Nat.le_refl _, ht, H, .inr (by omega), fun q h1 h2 => by omega⟩
  | succ d ih =>
    intro t hd ht H
    by_cases hf : Fires ops S t
    · exact ⟨t, Nat.le_refl _, ht, H, .inl hf, fun q h1 h2 => by omega⟩
    · obtain ⟨t', h1, h2, h3, h4, h5⟩ := ih (t + 1) (by omega) (by omega) (H.past T hn (by omega) hf)
      refine ⟨t', by omega, h2, h3, h4, fun q hq1 hq2 => ?_⟩
      rcases Nat.lt_or_ge t q with h | h
      · exact h5 q h hq2
      · have : q = t := by omega
        subst this; exact hf

theorem HpX.toExt (T : Trace G r info ops S m) (hn : NextOK r) {X : Nat → Prop} {M : Mp} {w : World} (H : HpX G ops S m M0 w0 X m M w) : Ext M0 (S 0).2 w0 M (S m).2 w := by
  have E := H.ext
  refine ⟨E.le, T.next_le hn (Nat.zero_le _) (Nat.le_refl _), E.size, E.keep, E.touch, E.newb, fun id p hp h0 => ?_, E.held, E.os, E.out, E.tape⟩
  rcases H.dom id p hp with h | h | ⟨j, n, g1, g2, g3, g4, g5⟩
  · rw [h0] at h; cases h
  · exact h
  · omega

/-- going back over blocks made, what was there is there -/
theorem Trace.grow (T : Trace G r info ops S m) {i : Nat} : ∀ t, i ≤ t → t ≤ m → (∀ q, i ≤ q → q < t → ¬ Fires ops S q) → ∀ id o, (S i).2.get id = some o → (S t).2.get id = some o := by
  intro t
  induction t with
  | zero => intro h _ _ id o ho; have : i = 0 := by omega
            subst this; exact ho
  | succ t ih =>
    intro hit htm hno id o ho
    rcases Nat.lt_or_ge i (t + 1) with h | h
    · have h1 := ih (by omega) (by omega) (fun q h1 h2 => hno q h1 (by omega)) id o ho
      have hlt : t < ops.size := Nat.lt_of_lt_of_le htm T.le
      cases T.kind t ops[t] (by omega) (Array.getElem?_eq_getElem hlt) with
      | skip hw he hh => rw [hh]; exact h1
      | still hw hf hs he hh => rw [hh]; exact h1
      | eff hw hf' hs he => exact absurd ⟨_, Array.getElem?_eq_getElem hlt, hw, hf'⟩ (hno t (by omega) (by omega))
      | alloc hw hf' hs hnone he hh =>
        rw [hh, Hp.get_new, if_neg (fun e => by subst e; rw [hnone] at h1; cases h1)]
        exact h1
    · have : i = t + 1 := by omega
      subst this; exact ho

theorem Trace.wf_back (T : Trace G r info ops S m) {i : Nat} : ∀ t, i ≤ t → t ≤ m → (∀ q, i ≤ q → q < t → ¬ Fires ops S q) → (∀ id, (S t).2.next ≤ id → (S t).2.get id = none) → ∀ id, (S i).2.next ≤ id → (S i).2.get id = none := by
  intro t
  induction t with
  | zero => intro h _ _ hw; have : i = 0 := by omega
            subst this; exact hw
  | succ t ih =>
    intro hit htm hno hw
    rcases Nat.lt_or_ge i (t + 1) with h | h
    · refine ih (by omega) (by omega) (fun q h1 h2 => hno q h1 (by omega)) ?_
      have hlt : t < ops.size := Nat.lt_of_lt_of_le htm T.le
      cases T.kind t ops[t] (by omega) (Array.getElem?_eq_getElem hlt) with
      | skip hw' he hh => rw [hh] at hw; exact hw
      | still hw' hf hs he hh => rw [hh] at hw; exact hw
      | eff hw' hf' hs he => exact absurd ⟨_, Array.getElem?_eq_getElem hlt, hw', hf'⟩ (hno t (by omega) (by omega))
      | alloc hw' hf' hs hnone he hh =>
        intro id hid
        by_cases e : id = (S t).2.next
        · rw [e]; exact hnone
        · have := hw id (by rw [hh, Hp.next_new]; omega)
          rw [hh, Hp.get_new, if_neg e] at this
          exact this
    · have : i = t + 1 := by omega
      subst this; exact hw

structure Given (G : Tabs) (P : Program) (r : Ev) (info : RegInfo) (ops : Array Oper) (S : Tc) (m : Nat) (M0 : Mp) (w0 : World) (B0 : Nat) (x : Ex × Env × Hp) (Q : Exit → Act → World → Prop) : Prop where
  hG : G.Fits2 P
  hC : CallOK P r.call
  hall : (ops.toList.all fun o => o.op.operands.toList.all okOpd) = true
  hd : drawOk info ops = true
  T : Trace G r info ops S m
  En : Ends G r info ops S m x
  hB : x.2.2.next ≤ B0
  h0 : HR B0 M0 (S 0).2 w0
  hQ : ∀ M a w x', Ext M0 (S 0).2 w0 M x.2.2 w → HR B0 M x.2.2 w → EndR M x.1 (drawn G ops (S 0).1 x).2.1 a → ExR M x.1 x' → Q x' a w

theorem Given.le_B (g : Given G P r info ops S m M0 w0 B0 x Q) : (S m).2.next ≤ B0 := by
  rcases g.En with ⟨_, h⟩ | ⟨o, v, h, h1, h2, h3, h4, h5, e, h6⟩
  · have := g.hB; rw [h] at this; exact this
  · have hb := g.hB
    rw [h6] at hb
    have := eStep_next (res := .pan _ _) g.hC.next h4
    simp only [Res.next] at this
    simp only at hb
    omega

theorem Given.uniq (g : Given G P r info ops S m M0 w0 B0 x Q) : Uniq ops := fun i k o p ho hp hne => ((drawOk_spec g.hd).2 i k o p ho hp hne).dst

theorem Given.step (g : Given G P r info ops S m M0 w0 B0 x Q) {t : Nat} {listed : Array Bool} {M : Mp} {a : Act} {w : World} (V : Inv G ops S m M0 w0 t listed M a w) {i : Nat} (hr : i ∈ Region.ready .any ops listed)
    {K : Act → World → Prop} (hK : ∀ t' M' a' w', Inv G ops S m M0 w0 t' (listed.setIfInBounds i true) M' a' w' → K a' w') : wpOp P ops Q i K a w := by
  obtain ⟨hun, o, hi, hbef⟩ := mem_ready.1 hr
  obtain ⟨hedge, hpairs⟩ := drawOk_spec g.hd
  have T := g.T
  have hn : NextOK r := g.hC.next
  have hisz : i < ops.size := (Array.getElem?_eq_some_iff.1 hi).1
  have hil : i < listed.size := by rw [V.size]; exact hisz
  have hX : ¬ lst listed i := by
    unfold lst
    simp only [Array.getD_eq_getD_getElem?, Array.getElem?_eq_getElem hil, Option.getD_some] at hun ⊢
    rw [hun]; simp
  have below : ∀ k, Below ops k i → lst listed k := fun k hb => hb.closed V.closed fun o' e ho' he hb' => by
    rw [hi] at ho'; injection ho' with ho'; subst ho'; exact hbef e he hb'
  have above : ∀ k, Below ops i k → ¬ lst listed k := fun k hb hk => hX (hb.closed V.closed fun o' e ho' he hb' => V.closed k o' e hk ho' he hb')
  have him : i ≤ m := by
    rcases Nat.lt_or_ge m i with h | h
    · rcases g.En with ⟨h1, _⟩ | ⟨o', v, h', h1, h2, h3, h4, h5, e, h6⟩
      · omega
      · have := below m ((hpairs m i o' o h1 hi (by omega)).last h5 h)
        have := V.lt m this; omega
    · exact h
  -- what it looks at
  have vals : ∀ u, u ∈ looks ops o → VR M ((S i).1.val u) (a.tmps.getD u undef) := by
    intro u hu
    by_cases hk : ∃ (k : Nat) (p : Oper), ops[k]? = some p ∧ p.dst = some u
    · obtain ⟨k, p, hp, hd⟩ := hk
      have only : ∀ (q : Nat) (p' : Oper), ops[q]? = some p' → p'.dst = some u → q = k := fun q p' hq hd' => by
        rcases Nat.decEq q k with h | h
        · exact absurd hd (g.uniq q k p' p hq hp h u hd')
        · exact h
      have late : ¬ lst listed k → i ≤ k → VR M ((S i).1.val u) (a.tmps.getD u undef) := by
        intro hk hik
        rw [T.val_from (j := 0) i (Nat.zero_le _) him fun q p' _ hq hp' hd' => by have := only q p' hp' hd'; omega]
        exact V.env.un u fun q p' hq hp' hd' => hk (by rw [← only q p' hp' hd']; exact hq)
      rcases Nat.lt_or_ge k i with h | h
      · have hkX := below k (((hpairs i k o p hi hp (by omega)).look u hd hu).2 h)
        rw [T.val_from (j := k + 1) i h him fun q p' h1 h2 hp' hd' => by have := only q p' hp' hd'; omega]
        exact V.env.wr k p u hkX hp hd
      · refine late ?_ h
        by_cases e : k = i
        · rw [e]; exact hX
        · exact above k (((hpairs i k o p hi hp (fun h => e h.symm)).look u hd hu).1 (by omega))
    · have nok : ∀ (q : Nat) (p' : Oper), ops[q]? = some p' → p'.dst ≠ some u := fun q p' hp' hd' => hk ⟨q, p', hp', hd'⟩
      rw [T.val_from (j := 0) i (Nat.zero_le _) him fun q p' _ _ hp' => nok q p' hp']
      exact V.env.un u fun q p' _ hp' => nok q p' hp'
  have hok := List.all_eq_true.1 g.hall o (by rw [Array.mem_toList_iff]; exact Array.mem_of_getElem? hi)
  have hρ : OpsR M (S i).1 a o.op := by
    intro y hy
    have hy2 := List.all_eq_true.1 hok y (by simpa using hy)
    cases y with
    | tmp u =>
      refine vals u (List.mem_append_left _ (List.mem_filterMap.2 ⟨.tmp u, by simpa using hy, rfl⟩))
    | const v => exact plainC_VR hy2
    | global _ => cases hy2
    | func f => exact .func _ rfl (fun i hi => absurd hi (by simp)) rfl (fun i hi => absurd hi (by simp))
  have hwant : Region.wanted o (yielded ops a.tmps) = wantedA ops (S i).1 o := wanted_eq' ops o fun j wt d hg hd => vals d (List.mem_append_right _ (by rw [hg]; simp only; rw [hd]; simp))
  have closed' : Closed ops (fun j => lst listed j ∨ j = i) := by
    intro k o' e hk ho' he hb
    rcases hk with hk | hk
    · exact .inl (V.closed k o' e hk ho' he hb)
    · subst hk
      rw [hi] at ho'; injection ho' with ho'; subst ho'
      exact .inl (hbef e he hb)
  -- the next state, where the operation has no effect
  have calm : ∀ {M' : Mp} {v v' : Value} {w' : World}, i < m → ¬ Fires ops S i → M.le M' → VR M' v v' → (S (i + 1)).1 = Env.put (S i).1 o.dst v → HpX G ops S m M0 w0 (fun j => lst listed j ∨ j = i) t M' w' →
      Inv G ops S m M0 w0 t (listed.setIfInBounds i true) M' (a.put o.dst v') w' := by
    intro M' v v' w' him' hnf hM hv he hh
    have hs := lst_set (listed := listed) (i := i) hil
    refine ⟨by simp [V.size], by rw [hs]; exact closed', ?_, V.tm, V.ft, ?_, by rw [hs]; exact V.env.step T g.uniq hX hi him' hM hv he, by rw [hs]; exact hh⟩
    · rw [hs]; rintro j (hj | hj)
      · exact V.lt j hj
      · rw [hj]; exact him'
    · rw [hs]
      intro q hq hqm
      rw [← V.effs q hq hqm]
      constructor
      · rintro (h | h)
        · exact h
        · subst h; exact absurd hq hnf
      · exact fun h => .inl h
  -- an operation with an effect comes in its turn
  have turn : Fires ops S i → t = i := by
    intro hf
    rcases Nat.lt_or_ge t i with h | h
    · have hft : Fires ops S t := V.ft.resolve_right (by omega)
      obtain ⟨p, hp, _, hpe⟩ := hft
      obtain ⟨o', ho', _, hoe⟩ := hf
      rw [hi] at ho'; injection ho' with ho'; subst ho'
      have := below t (((hpairs i t o p hi hp (by omega)).eff hpe hoe).2 h)
      have := (V.effs t (V.ft.resolve_right (by omega)) (by omega)).1 this
      omega
    · rcases Nat.lt_or_ge i t with h2 | h2
      · have := V.tm
        exact absurd ((V.effs i hf (by omega)).2 h2) hX
      · omega
  unfold wpOp
  simp only [hi]
  rw [hwant]
  by_cases hlt : i < m
  · cases T.kind i o hlt hi with
    | skip hw he hh =>
      rw [hw]
      simp only [Bool.false_eq_true, if_false]
      refine hK t M _ w (calm hlt ?_ (Mp.le_refl M) (.undef M) he (V.hp.idle fun n ha => ?_))
      · rintro ⟨o', h1, h2, _⟩; rw [hi] at h1; injection h1 with h1; subst h1; rw [hw] at h2; cases h2
      · obtain ⟨o', h1, h2, _⟩ := ha; rw [hi] at h1; injection h1 with h1; subst h1; rw [hw] at h2; cases h2
    | @eff hw hf v hs he =>
      have hfi : Fires ops S i := ⟨o, hi, hw, hf⟩
      have hti := turn hfi
      subst hti
      rw [hw]
      simp only [if_true]
      left
      have hB1 : (S (t + 1)).2.next ≤ B0 := Nat.le_trans (T.next_le hn hlt (Nat.le_refl _)) g.le_B
      have H1 := V.hp.fresh T hn g.h0 V.tm hB1 fun j n hj ha htj => by
        rcases Nat.lt_or_ge t j with h | h
        · exact T.next_le hn h (Nat.le_of_lt hj)
        · have : j = t := by omega
          subst this; exact absurd hfi ha.not_fires
      obtain ⟨_, hop⟩ := eStep_sound g.hG g.hC H1 hρ hs
      refine hop (Nat.le_refl _) _ _ fun M' v' w' E H' Vv => ?_
      have hp1 := V.hp.effect T hn hlt hfi E H'
      obtain ⟨t', k1, k2, k3, k4, k5⟩ := hp1.advance T hn _ _ rfl hlt
      have hss := lst_set (listed := listed) (i := t) hil
      refine hK t' M' _ w' ⟨by simp [V.size], by rw [hss]; exact closed', ?_, k2, k4, ?_, by rw [hss]; exact V.env.step T g.uniq hX hi hlt E.le Vv he, by rw [hss]; exact k3⟩
      · rw [hss]; rintro j (hj | hj)
        · exact V.lt j hj
        · rw [hj]; exact hlt
      · rw [hss]
        intro q hq hqm
        constructor
        · rintro (h | h)
          · have := (V.effs q hq hqm).1 h; omega
          · omega
        · intro h
          rcases Nat.lt_or_ge q t with h2 | h2
          · exact .inl ((V.effs q hq hqm).2 h2)
          · rcases Nat.lt_or_ge t q with h3 | h3
            · exact absurd hq (k5 q h3 h)
            · exact .inr (by omega)
    | @still hw hf v hs he hh =>
      rw [hw]
      simp only [if_true]
      left
      have hnf : ¬ Fires ops S i := by rintro ⟨o', h1, _, h2⟩; rw [hi] at h1; injection h1 with h1; subst h1; rw [hf] at h2; cases h2
      have hst : Still G ops S i o v := ⟨hi, hw, hf, hs⟩
      -- a state of this world at which it answers so
      have key : ∃ h', HR 0 M h' w ∧ sStep G (S i).1 h' o = some v := by
        cases hrd : reads o.op with
        | false => exact ⟨(S t).2, V.hp.hr, by rw [sStep_indep hrd _ (S i).2]; exact hs⟩
        | true =>
          rcases Nat.lt_or_ge i t with h | h
          · by_cases hq : ∃ q, Fires ops S q ∧ i < q ∧ q < t
            · obtain ⟨q, hq1, hq2, hq3⟩ := hq
              have hall : ∀ q, Fires ops S q → i < q → q < t → q ∈ looseOf info i := by
                intro q hq1 hq2 hq3
                have hqX : lst listed q := (V.effs q hq1 (by have := V.tm; omega)).2 hq3
                obtain ⟨p, hp, _, hpe⟩ := hq1
                rcases (hpairs i q o p hi hp (by omega)).rd hpe hrd with h1 | h1
                · exact absurd hqX (above q (h1.1 hq2))
                · exact h1
              exact ⟨(S t).2, V.hp.hr, sameAt_val (T.behind t V.tm V.ft i o v h hst ⟨q, hq1, hq2, hq3, hall q hq1 hq2 hq3⟩ hall)⟩
            · have hno : ∀ q, i ≤ q → q < t → ¬ Fires ops S q := by
                intro q h1 h2 h3
                rcases Nat.lt_or_ge i q with h4 | h4
                · exact hq ⟨q, h3, h4, h2⟩
                · have : q = i := by omega
                  subst this; exact hnf h3
              exact ⟨(S i).2, V.hp.hr.sub (T.wf_back t (by omega) V.tm hno V.hp.hr.wf) (T.grow t (by omega) V.tm hno), hs⟩
          · have hne : t ≠ i := by
              intro e
              rcases V.ft with h1 | h1
              · rw [e] at h1; exact hnf h1
              · omega
            have hti : t < i := by omega
            have hft : Fires ops S t := V.ft.resolve_right (by omega)
            have hloose : t ∈ looseOf info i := by
              obtain ⟨p, hp, _, hpe⟩ := hft
              rcases (hpairs i t o p hi hp (by omega)).rd hpe hrd with h1 | h1
              · have h2 := below t (h1.2 hti)
                have := (V.effs t (V.ft.resolve_right (by omega)) (by omega)).1 h2
                omega
              · exact h1
            exact ⟨(S t).2, V.hp.hr, sameAt_val (T.ahead i o v hlt hst t hti hft hloose)⟩
      obtain ⟨h', H', hs'⟩ := key
      obtain ⟨v', g1, g2⟩ := sStep_sound (P := P) g.hG H' hρ hs'
      show o.upon P a K Q ((execOp a.eval o).run P w)
      rw [g1, Oper.upon_value]
      refine hK t M _ w (calm hlt hnf (Mp.le_refl M) g2 he (V.hp.idle fun n ha => ?_))
      have := ha.lt_next; rw [hh] at this; omega
    | @alloc hw hf n hs hnone he hh =>
      rw [hw]
      simp only [if_true]
      left
      have hnf : ¬ Fires ops S i := by rintro ⟨o', h1, _, h2⟩; rw [hi] at h1; injection h1 with h1; subst h1; rw [hf] at h2; cases h2
      have ha : Al G ops S i n := ⟨o, hi, hw, hf, hs, hnone, hh⟩
      obtain ⟨y, v', g1, g2, g3, _⟩ := nStep_sound (P := P) g.hG hρ hs w
      show o.upon P a K Q ((execOp a.eval o).run P w)
      rw [g1, Oper.upon_value]
      refine hK t _ _ _ (calm hlt hnf (Mp.le_upd (V.hp.no i n hlt ha hX)) (g3 _ _ (Mp.upd_same _ _ _)) he (V.hp.alloc T hn V.tm hlt ha hX g2))
  · have hme : i = m := by omega
    subst hme
    rcases g.En with ⟨h1, _⟩ | ⟨o', v, h', h1, h2, h3, h4, h5, e, h6⟩
    · omega
    · rw [hi] at h1; injection h1 with h1; subst h1
      have hfi : Fires ops S i := ⟨o, hi, h2, h3⟩
      have hti := turn hfi
      subst hti
      rw [h2]
      simp only [if_true]
      left
      have H1 := V.hp.fresh T hn g.h0 V.tm (Nat.le_refl B0) fun j n hj _ htj => by omega
      obtain ⟨_, hop⟩ := eStep_sound g.hG g.hC H1 hρ h4
      have hB := g.hB
      rw [h6] at hB
      refine hop hB _ _ fun M' v' w' E H' Vv => ?_
      have hQ := g.hQ M' a w' (.panic [{ v := v', recovered := false }])
      rw [h6] at hQ
      refine hQ ((V.hp.toExt T hn).trans E) H' ⟨fun u y hu => ?_, DRs.mono E.le V.env.defers⟩ (.pan (.cons ⟨Vv, rfl, rfl⟩ .nil))
      obtain ⟨k1, k2⟩ := keepTmps_spec _ _ _ hu
      have := V.env.un u fun k p _ hp => k2 k p hp
      unfold Env.val at this
      rw [k1] at this
      exact this.mono E.le

theorem count_lt {f g : Nat → Bool} {i : Nat} : ∀ (l : List Nat), i ∈ l → (∀ j, g j = true → f j = true) → f i = true → g i = false → l.countP g < l.countP f := by
  intro l
  induction l with
  | nil => intro h; cases h
  | cons a l ih =>
    intro hi hgf hf hg
    have hle : l.countP g ≤ l.countP f := List.countP_mono_left fun j _ => hgf j
    rw [List.countP_cons, List.countP_cons]
    by_cases e : a = i
    · subst e
      rw [hf, hg]
      simp only [if_true, Bool.false_eq_true, if_false]
      omega
    · have hi' : i ∈ l := by
        rcases List.mem_cons.1 hi with h | h
        · exact absurd h.symm e
        · exact h
      have := ih hi' hgf hf hg
      cases hga : g a with
      | false => simp only [Bool.false_eq_true, if_false]; split <;> omega
      | true => rw [hgf a hga]; simp only [if_true]; omega

/-- while one is left, the first of them is ready -/
theorem all_listed (hedge : ∀ i o e, ops[i]? = some o → e ∈ o.after → Region.binds .any e = true → e.on < i) {listed : Array Bool} (hs : listed.size = ops.size) (hr : Region.ready .any ops listed = []) : ∀ i, i < ops.size → lst listed i := by
  intro i
  induction i using Nat.strongRecOn with
  | _ i ih =>
    intro hi
    by_cases h : lst listed i
    · exact h
    · exfalso
      have : i ∈ Region.ready .any ops listed := by
        rw [mem_ready]
        have hil : i < listed.size := by omega
        refine ⟨?_, ops[i], Array.getElem?_eq_getElem hi, fun e he hb => ?_⟩
        · unfold lst at h
          simp only [Array.getD_eq_getD_getElem?, Array.getElem?_eq_getElem hil, Option.getD_some] at h ⊢
          simpa using h
        · have := hedge i _ e (Array.getElem?_eq_getElem hi) he hb
          exact ih _ this (by omega)
      rw [hr] at this; cases this

theorem Given.done (g : Given G P r info ops S m M0 w0 B0 x Q) {t : Nat} {listed : Array Bool} {M : Mp} {a : Act} {w : World} (V : Inv G ops S m M0 w0 t listed M a w) (hr : Region.ready .any ops listed = []) : Q .normal a w := by
  have T := g.T
  have hn : NextOK r := g.hC.next
  have hall := all_listed (drawOk_spec g.hd).1 V.size hr
  rcases g.En with ⟨h1, h2⟩ | ⟨o', v, h', h1, _⟩
  · have htm : t = m := by
      rcases V.ft with h | h
      · rcases Nat.lt_or_ge t m with h3 | h3
        · have := (V.effs t h h3).1 (hall t (by omega)); omega
        · have := V.tm; omega
      · exact h
    subst htm
    have hQ := g.hQ M a w .normal
    rw [h2] at hQ
    refine hQ (V.hp.toExt T hn) (V.hp.fresh T hn g.h0 V.tm (Nat.le_refl B0) fun j n hj _ htj => by omega) ⟨fun u => ?_, ?_, ?_⟩ .normal
    · show VR M ((S t).1.val u) _
      by_cases hk : ∃ (k : Nat) (p : Oper), ops[k]? = some p ∧ p.dst = some u
      · obtain ⟨k, p, hp, hd⟩ := hk
        have hks : k < ops.size := (Array.getElem?_eq_some_iff.1 hp).1
        rw [T.val_from (j := k + 1) t (by omega) (Nat.le_refl _) fun q p' hq _ hp' hd' => g.uniq q k p' p hp' hp (by omega) u hd' hd]
        exact V.env.wr k p u (hall k hks) hp hd
      · rw [T.val_from (j := 0) t (Nat.zero_le _) (Nat.le_refl _) fun q p' _ _ hp' hd' => hk ⟨q, p', hp', hd'⟩]
        exact V.env.un u fun q p' _ hp' hd' => hk ⟨q, p', hp', hd'⟩
    · show a.tmps.size = (S t).1.n
      rw [(T.same (Nat.le_refl _)).1]; exact V.env.size
    · show All2 (DR M) (S t).1.defers a.defers
      rw [(T.same (Nat.le_refl _)).2.1]; exact V.env.defers
  · have hms : m < ops.size := (Array.getElem?_eq_some_iff.1 h1).1
    have := V.lt m (hall m hms); omega

theorem Given.run (g : Given G P r info ops S m M0 w0 B0 x Q) : ∀ (fuel t : Nat) (listed : Array Bool) (M : Mp) (a : Act) (w : World), Inv G ops S m M0 w0 t listed M a w →
    (List.range ops.size).countP (fun j => !listed.getD j false) ≤ fuel → wpAny P .any ops Q fuel listed a w := by
  intro fuel
  induction fuel with
  | zero =>
    intro t listed M a w V hc
    have hr : Region.ready .any ops listed = [] := by
      cases h : Region.ready .any ops listed with
      | nil => rfl
      | cons i rest =>
        exfalso
        have hi : i ∈ Region.ready .any ops listed := by rw [h]; exact List.mem_cons_self
        obtain ⟨hun, o, ho, _⟩ := mem_ready.1 hi
        have hisz : i < ops.size := (Array.getElem?_eq_some_iff.1 ho).1
        have h0 : (List.range ops.size).countP (fun j => !listed.getD j false) = 0 := by omega
        rw [List.countP_eq_zero] at h0
        have := h0 i (List.mem_range.2 hisz)
        have hil : i < listed.size := by rw [V.size]; exact hisz
        simp only [Array.getD_eq_getD_getElem?, Array.getElem?_eq_getElem hil, Option.getD_some] at hun this
        rw [hun] at this; simp at this
    exact ⟨hr, g.done V hr⟩
  | succ fuel ih =>
    intro t listed M a w V hc
    refine ⟨fun hr => g.done V hr, fun i hi => g.step V hi fun t' M' a' w' V' => ih t' _ M' a' w' V' ?_⟩
    obtain ⟨hun, o, ho, _⟩ := mem_ready.1 hi
    have hisz : i < ops.size := (Array.getElem?_eq_some_iff.1 ho).1
    have hil : i < listed.size := by rw [V.size]; exact hisz
    have : (List.range ops.size).countP (fun j => !(listed.setIfInBounds i true).getD j false) < (List.range ops.size).countP (fun j => !listed.getD j false) := by
      refine count_lt (i := i) _ (List.mem_range.2 hisz) (fun j hj => ?_) ?_ ?_
      · by_cases e : i = j
        · subst e; simp [hil] at hj
        · rw [getD_set_ne false e] at hj; exact hj
      · simp only [Array.getD_eq_getD_getElem?, Array.getElem?_eq_getElem hil, Option.getD_some] at hun ⊢
        rw [hun]; rfl
      · simp [hil]
    omega

end

section
variable {G : Tabs} {P : Program} {r : Ev} {info : RegInfo} {ops : Array Oper}

/-- a region whose order is drawn -/
theorem drawStep_sound (hG : G.Fits2 P) (hC : CallOK P r.call) (hm : P.follows .mixedOrders = true) (hall : (ops.toList.all fun o => o.op.operands.toList.all okOpd) = true) (hd : drawOk info ops = true)
    {e : Env} {h : Hp} {x : Ex × Env × Hp} (hs : drawStep G r info ops ops.toList 0 e h [] [] = some x) (id : Nat) :
    (drawn G ops e x).2.1.fn = e.fn ∧ h.next ≤ x.2.2.next ∧ ∀ B, x.2.2.next ≤ B → CodeOK P B (.region id ops true) e h x.1 (drawn G ops e x).2.1 x.2.2 := by
  obtain ⟨S, m, hS, T, En⟩ := drawStep_ends hs
  have hn : NextOK r := hC.next
  have h0m := T.next_le hn (Nat.zero_le m) (Nat.le_refl m)
  have hS1 : (S 0).1 = e := by rw [hS]
  have hS2 : (S 0).2 = h := by rw [hS]
  rw [hS2] at h0m
  refine ⟨?_, ?_, fun B hB M a w Q he H hQ => ?_⟩
  · rcases En with ⟨_, h2⟩ | ⟨o', v, h', _, _, _, _, _, e', h6⟩
    · rw [h2]; simp only [drawn]; rw [(T.same (Nat.le_refl _)).2.2, hS1]
    · rw [h6]; rfl
  · rcases En with ⟨_, h2⟩ | ⟨o', v, h', _, _, _, h4, _, e', h6⟩
    · rw [h2]; exact h0m
    · rw [h6]
      have := eStep_next (res := .pan _ _) hC.next h4
      exact Nat.le_trans h0m this
  · refine wp_region_any hm ?_
    have hX0 : lst (Array.replicate ops.size false) = fun _ => False := by
      funext j
      unfold lst
      apply propext
      simp only [Array.getD_eq_getD_getElem?, Array.getElem?_replicate]
      split <;> simp
    have H' : HR B M (S 0).2 { w with drawn := w.drawn + 1 } := by rw [hS2]; exact H.drawn _
    have g : Given G P r info ops S m M { w with drawn := w.drawn + 1 } B x Q := by
      refine ⟨hG, hC, hall, hd, T, En, hB, H', fun M' a' w' x' E H2 V X => ?_⟩
      rw [hS2] at E
      rw [hS1] at V
      exact hQ M' a' w' x' ((Ext.drawn M h w _).trans E) H2 V X
    have hp0 : HpX G ops S m M { w with drawn := w.drawn + 1 } (fun _ => False) 0 M { w with drawn := w.drawn + 1 } := by
      refine ⟨H'.zero, ⟨Mp.le_refl M, Nat.le_refl _, fun _ _ _ => rfl, fun _ h _ => h, (fun _ _ h h' => by rw [h'] at h; cases h), fun _ _ _ => rfl, rfl, rfl, rfl⟩, fun id p hp => .inl hp, fun i n hi ha _ => ?_, fun i n _ _ _ h => by omega, fun i n _ _ h => h.elim⟩
      cases hmm : M (S i).2.next with
      | none => rfl
      | some p =>
        have h1 := T.next_le hn (Nat.zero_le i) (Nat.le_of_lt hi)
        have h2 := ha.lt_next
        have h3 := T.next_le hn (i := i + 1) (j := m) hi (Nat.le_refl _)
        have h4 := g.le_B
        rcases H'.fresh _ _ hmm with h | h <;> omega
    obtain ⟨t', _, k2, k3, k4, k5⟩ := hp0.advance T hn _ 0 rfl (Nat.zero_le _)
    refine g.run ops.size t' _ M a _ ⟨by simp, by rw [hX0]; exact fun _ _ _ h => h.elim, by rw [hX0]; exact fun _ h => h.elim, k2, k4, ?_, ?_, by rw [hX0]; exact k3⟩ ?_
    · rw [hX0]
      intro q hq hqm
      exact ⟨fun h => h.elim, fun h => k5 q (Nat.zero_le _) h hq⟩
    · rw [hX0]
      refine ⟨fun _ _ _ h => h.elim, fun u _ => by rw [hS1]; exact he.vals u, by rw [hS1]; exact he.size, by rw [hS1]; exact he.defers⟩
    · have := List.countP_le_length (p := fun j => !(Array.replicate ops.size false).getD j false) (l := List.range ops.size)
      simpa using this

end
end Go.AE
