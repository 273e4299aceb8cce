/- What the evaluator went through in a region whose order is drawn. -/
import Derived.Test.YtaceaifoajkgaaaGreatDoorAEord
namespace Go.AE

theorem lBeq_eq {f : Value → Value → Bool} (hf : ∀ x y, f x y = true → x = y) : ∀ (l r : List Value), lBeq f l r = true → l = r
  | [], [], _ => rfl
  | a :: l, b :: r, h => by
    simp only [lBeq, Bool.and_eq_true] at h
    rw [hf _ _ h.1, lBeq_eq hf l r h.2]
  | [], _ :: _, h => by cases h
  | _ :: _, [], h => by cases h

theorem vBeq_eq : ∀ (n : Nat) (x y : Value), vBeq n x y = true → x = y := by
  intro n
  induction n with
  | zero => intro x y h; cases h
  | succ n ih =>
    intro x y h
    unfold vBeq at h
    split at h
    · rw [eq_of_beq h]
    · simp only [Bool.and_eq_true, decide_eq_true_eq] at h; rw [h.1, h.2]
    · rw [bytesEq_true h]
    · rw [of_decide_eq_true h]
    · simp only [Bool.and_eq_true, decide_eq_true_eq] at h; rw [h.1.1, Nat.eq_of_beq_eq_true h.1.2, Nat.eq_of_beq_eq_true h.2]
    · rw [of_decide_eq_true h]
    · rfl
    · rfl
    · simp only [Bool.and_eq_true] at h; rw [Nat.eq_of_beq_eq_true h.1, ih _ _ h.2]
    · rw [Array.ext' (lBeq_eq ih _ _ h)]
    · rw [Array.ext' (lBeq_eq ih _ _ h)]
    · cases h

section
variable {G : Tabs} {r : Ev} {info : RegInfo} {ops : Array Oper} {e0 : Env} {h0 : Hp}

theorem sameAt_val {o : Oper} {e : Env} {v : Value} {h : Hp} (hs : sameAt G o e v h = true) : sStep G e h o = some v := by
  unfold sameAt at hs
  split at hs
  · rename_i v' hv'
    rw [hv', vBeq_eq _ _ _ hs]
  · cases hs

noncomputable def one1 (G : Tabs) (r : Ev) (ops : Array Oper) (i : Nat) (s : Env × Hp) : Env × Hp :=
  match ops[i]? with
  | none => s
  | some o =>
    bif wantedA ops s.1 o then
      bif isEff o.op then
        match eStep G r s.1 s.2 o with
        | some (.val v h) => (Env.put s.1 o.dst v, h)
        | _ => s
      else
        match sStep G s.1 s.2 o with
        | some v => (Env.put s.1 o.dst v, s.2)
        | none => match nStep G s.1 o with
          | some n => (Env.put s.1 o.dst (n.to s.2.next), s.2.new n.ob)
          | none => s
    else (Env.put s.1 o.dst undef, s.2)

noncomputable def st (G : Tabs) (r : Ev) (ops : Array Oper) (e0 : Env) (h0 : Hp) : Nat → Env × Hp
  | 0 => (e0, h0)
  | i + 1 => one1 G r ops i (st G r ops e0 h0 i)

abbrev Tc := Nat → Env × Hp

/-- what one operation was -/
inductive Kind (G : Tabs) (r : Ev) (ops : Array Oper) (S : Tc) (i : Nat) (o : Oper) : Prop
  | skip (hw : wantedA ops (S i).1 o = false) (he : (S (i + 1)).1 = Env.put (S i).1 o.dst undef) (hh : (S (i + 1)).2 = (S i).2)
  | eff (hw : wantedA ops (S i).1 o = true) (hf : isEff o.op = true) {v : Value} (hs : eStep G r (S i).1 (S i).2 o = some (.val v (S (i + 1)).2)) (he : (S (i + 1)).1 = Env.put (S i).1 o.dst v)
  | still (hw : wantedA ops (S i).1 o = true) (hf : isEff o.op = false) {v : Value} (hs : sStep G (S i).1 (S i).2 o = some v) (he : (S (i + 1)).1 = Env.put (S i).1 o.dst v) (hh : (S (i + 1)).2 = (S i).2)
  | alloc (hw : wantedA ops (S i).1 o = true) (hf : isEff o.op = false) {n : New} (hs : nStep G (S i).1 o = some n) (hn : (S i).2.get (S i).2.next = none) (he : (S (i + 1)).1 = Env.put (S i).1 o.dst (n.to (S i).2.next)) (hh : (S (i + 1)).2 = (S i).2.new n.ob)

def Fires (ops : Array Oper) (S : Tc) (i : Nat) : Prop := ∃ o, ops[i]? = some o ∧ wantedA ops (S i).1 o = true ∧ isEff o.op = true

/-- a reading operation that was looked at -/
def Still (G : Tabs) (ops : Array Oper) (S : Tc) (i : Nat) (o : Oper) (v : Value) : Prop :=
  ops[i]? = some o ∧ wantedA ops (S i).1 o = true ∧ isEff o.op = false ∧ sStep G (S i).1 (S i).2 o = some v

def Behind (G : Tabs) (info : RegInfo) (ops : Array Oper) (S : Tc) (t : Nat) : Prop :=
  ∀ i o v, i < t → Still G ops S i o v → (∃ q, Fires ops S q ∧ i < q ∧ q < t ∧ q ∈ looseOf info i) → (∀ q, Fires ops S q → i < q → q < t → q ∈ looseOf info i) → sameAt G o (S i).1 v (S t).2 = true

structure Trace (G : Tabs) (r : Ev) (info : RegInfo) (ops : Array Oper) (S : Tc) (m : Nat) : Prop where
  le : m ≤ ops.size
  kind : ∀ i o, i < m → ops[i]? = some o → Kind G r ops S i o
  ahead : ∀ i o v, i < m → Still G ops S i o v → ∀ t, t < i → Fires ops S t → t ∈ looseOf info i → sameAt G o (S i).1 v (S t).2 = true
  behind : ∀ t, t ≤ m → (Fires ops S t ∨ t = m) → Behind G info ops S t

def Ends (G : Tabs) (r : Ev) (info : RegInfo) (ops : Array Oper) (S : Tc) (m : Nat) (x : Ex × Env × Hp) : Prop :=
  (m = ops.size ∧ x = (.normal, (S m).1, (S m).2)) ∨
  (∃ o v h, ops[m]? = some o ∧ wantedA ops (S m).1 o = true ∧ isEff o.op = true ∧ eStep G r (S m).1 (S m).2 o = some (.pan v h) ∧ m ∈ info.last ∧ ∃ e, x = (.pan [{ v, recovered := false }], e, h))

theorem drawStep_trace : ∀ (n i : Nat) (l : List Oper) (hist : List (Nat × Hp)) (pend : List Pend) (x : Ex × Env × Hp), ops.toList.drop i = l → l.length = n →
    (∀ k o, k < i → ops[k]? = some o → Kind G r ops (st G r ops e0 h0) k o) →
    (∀ k o v, k < i → Still G ops (st G r ops e0 h0) k o v → ∀ t, t < k → Fires ops (st G r ops e0 h0) t → t ∈ looseOf info k → sameAt G o (st G r ops e0 h0 k).1 v (st G r ops e0 h0 t).2 = true) →
    (∀ t, t < i → Fires ops (st G r ops e0 h0) t → Behind G info ops (st G r ops e0 h0) t) →
    (∀ q, q ∈ hist ↔ q.1 < i ∧ Fires ops (st G r ops e0 h0) q.1 ∧ q.2 = (st G r ops e0 h0 q.1).2) →
    (∀ k o v, k < i → Still G ops (st G r ops e0 h0) k o v → looseOf info k ≠ [] → (⟨k, o, (st G r ops e0 h0 k).1, v⟩ : Pend) ∈ pend) →
    drawStep G r info ops l i (st G r ops e0 h0 i).1 (st G r ops e0 h0 i).2 hist pend = some x →
    ∃ m, Trace G r info ops (st G r ops e0 h0) m ∧ Ends G r info ops (st G r ops e0 h0) m x := by
  generalize hS : st G r ops e0 h0 = S
  have hone : ∀ i, S (i + 1) = one1 G r ops i (S i) := by intro i; subst hS; rfl
  intro n
  have stood : ∀ i (hist : List (Nat × Hp)) (pend : List Pend), (∀ q, q ∈ hist ↔ q.1 < i ∧ Fires ops S q.1 ∧ q.2 = (S q.1).2) →
      (∀ k o v, k < i → Still G ops S k o v → looseOf info k ≠ [] → (⟨k, o, (S k).1, v⟩ : Pend) ∈ pend) →
      pend.all (stands G info hist (S i).2) = true → Behind G info ops S i := by
    intro i hist pend hh hp hall k o v hk hst ⟨q, hq, h1, h2, h3⟩ hloose
    have hne : looseOf info k ≠ [] := fun e => by rw [e] at h3; cases h3
    have := List.all_eq_true.1 hall _ (hp k o v hk hst hne)
    unfold stands at this
    simp only [Bool.or_eq_true, Bool.not_eq_true', List.any_eq_false, Bool.and_eq_true, decide_eq_true_eq, List.contains_eq_mem] at this
    rcases this with (h | h) | h
    · exact absurd ⟨h1, h3⟩ (h (q, (S q).2) ((hh _).2 ⟨h2, hq, rfl⟩))
    · rw [List.any_eq_true] at h
      obtain ⟨q', g1, g2⟩ := h
      simp only [Bool.and_eq_true, decide_eq_true_eq, Bool.not_eq_true', decide_eq_false_iff_not] at g2
      obtain ⟨k1, k2, _⟩ := (hh q').1 g1
      exact absurd (hloose q'.1 k2 g2.1 k1) g2.2
    · exact h
  induction n with
  | zero =>
    intro i l hist pend x hl hn hk ha hb hh hp hs
    have : l = [] := List.eq_nil_of_length_eq_zero hn
    subst this
    have hsz : ops.size ≤ i := by simpa using hl
    simp only [drawStep] at hs
    cases hc : pend.all (stands G info hist (S i).2) with
    | false => rw [hc] at hs; cases hs
    | true =>
      rw [hc] at hs
      injection hs with hs
      subst hs
      have hB := stood _ _ _ hh hp hc
      have e : ∀ j, ops.size ≤ j → S j = S ops.size := by
        intro j hj
        induction j with
        | zero => have : ops.size = 0 := by omega
                  rw [this]
        | succ j ih =>
          rcases Nat.lt_or_ge j ops.size with h | h
          · have : ops.size = j + 1 := by omega
            rw [this]
          · rw [hone j]
            unfold one1
            rw [Array.getElem?_eq_none h]
            exact ih h
      refine ⟨ops.size, ⟨Nat.le_refl _, fun k o hk' ho => hk k o (by omega) ho, fun k o v hk' => ha k o v (by omega), fun t ht hf => ?_⟩, .inl ⟨rfl, by rw [e i hsz]⟩⟩
      rcases Nat.lt_or_ge t i with h | h
      · rcases hf with hf | hf
        · exact hb t h hf
        · subst hf
          intro k o v hk' hst hq hall
          have := hB k o v (by omega) hst (by obtain ⟨q, g1, g2, g3, g4⟩ := hq; exact ⟨q, g1, g2, by omega, g4⟩) (fun q g1 g2 g3 => hall q g1 g2 (by
            have := (Array.getElem?_eq_some_iff.1 g1.choose_spec.1).1
            omega))
          rw [e i hsz] at this
          exact this
      · have : t = i := by omega
        subst this
        exact hB
  | succ n ih =>
    intro i l hist pend x hl hn hk ha hb hh hp hs
    cases l with
    | nil => cases hn
    | cons o rest =>
      have hi : ops[i]? = some o := by
        have : (ops.toList.drop i)[0]? = some o := by rw [hl]; rfl
        rw [List.getElem?_drop] at this
        simpa using this
      have hlt : i < ops.size := (Array.getElem?_eq_some_iff.1 hi).1
      have hrest : ops.toList.drop (i + 1) = rest := by
        have := congrArg List.tail hl
        simpa [List.tail_drop] using this
      have hlen : rest.length = n := by simpa using hn
      have hstep := hone i
      unfold one1 at hstep
      rw [hi] at hstep
      simp only at hstep
      have go : ∀ (hist' : List (Nat × Hp)) (pend' : List Pend), Kind G r ops S i o →
          (∀ v, Still G ops S i o v → ∀ t, t < i → Fires ops S t → t ∈ looseOf info i → sameAt G o (S i).1 v (S t).2 = true) →
          (Fires ops S i → Behind G info ops S i) →
          (∀ q, q ∈ hist' ↔ q.1 < i + 1 ∧ Fires ops S q.1 ∧ q.2 = (S q.1).2) →
          (∀ k o v, k < i + 1 → Still G ops S k o v → looseOf info k ≠ [] → (⟨k, o, (S k).1, v⟩ : Pend) ∈ pend') →
          drawStep G r info ops rest (i + 1) (S (i + 1)).1 (S (i + 1)).2 hist' pend' = some x → ∃ m, Trace G r info ops S m ∧ Ends G r info ops S m x := by
        intro hist' pend' hkind hah hbe hh' hp' hs'
        refine ih (i + 1) rest hist' pend' x hrest hlen ?_ ?_ ?_ hh' hp' hs'
        · intro k o' hk' ho'
          rcases Nat.lt_or_ge k i with h | h
          · exact hk k o' h ho'
          · have : k = i := by omega
            subst this
            rw [hi] at ho'; injection ho' with ho'; subst ho'; exact hkind
        · intro k o' v hk' hst
          rcases Nat.lt_or_ge k i with h | h
          · exact ha k o' v h hst
          · have : k = i := by omega
            subst this
            have := hst.1
            rw [hi] at this; injection this with this; subst this
            exact hah v hst
        · intro t ht hf
          rcases Nat.lt_or_ge t i with h | h
          · exact hb t h hf
          · have : t = i := by omega
            subst this
            exact hbe hf
      have nofire : ¬ Fires ops S i → ∀ q : Nat × Hp, q ∈ hist ↔ q.1 < i + 1 ∧ Fires ops S q.1 ∧ q.2 = (S q.1).2 := by
        intro hnf q
        rw [hh q]
        constructor
        · rintro ⟨g1, g2, g3⟩; exact ⟨by omega, g2, g3⟩
        · rintro ⟨g1, g2, g3⟩
          refine ⟨?_, g2, g3⟩
          rcases Nat.lt_or_ge q.1 i with h | h
          · exact h
          · have : q.1 = i := by omega
            rw [this] at g2; exact absurd g2 hnf
      have nostill : (∀ v, Still G ops S i o v → looseOf info i = []) → ∀ k o' v, k < i + 1 → Still G ops S k o' v → looseOf info k ≠ [] → (⟨k, o', (S k).1, v⟩ : Pend) ∈ pend := by
        intro hns k o' v hk' hst hne
        rcases Nat.lt_or_ge k i with h | h
        · exact hp k o' v h hst hne
        · have : k = i := by omega
          subst this
          have := hst.1
          rw [hi] at this; injection this with this; subst this
          exact absurd (hns v hst) hne
      simp only [drawStep] at hs
      cases hw : wantedA ops (S i).1 o with
      | false =>
        rw [hw] at hs hstep
        simp only [cond_false] at hs hstep
        have hnf : ¬ Fires ops S i := by rintro ⟨o', g1, g2, _⟩; rw [hi] at g1; injection g1 with g1; subst g1; rw [hw] at g2; cases g2
        refine go hist pend (.skip hw (by rw [hstep]) (by rw [hstep])) (fun v hst => ?_) (fun hf => absurd hf hnf) (nofire hnf) (nostill fun v hst => ?_) (by rw [hstep]; exact hs)
        · have := hst.2.1; rw [hw] at this; cases this
        · have := hst.2.1; rw [hw] at this; cases this
      | true =>
        rw [hw] at hs hstep
        simp only [cond_true] at hs hstep
        cases hf : isEff o.op with
        | true =>
          rw [hf] at hs hstep
          simp only [cond_true] at hs hstep
          have hfire : Fires ops S i := ⟨o, hi, hw, hf⟩
          cases hc : pend.all (stands G info hist (S i).2) with
          | false => rw [hc] at hs; cases hs
          | true =>
            rw [hc] at hs
            simp only [cond_true] at hs
            have hB := stood _ _ _ hh hp hc
            obtain ⟨res, hres, hs⟩ := bind_some hs
            rw [hres] at hstep
            cases res with
            | val v h' =>
              simp only at hs hstep
              refine go ((i, (S i).2) :: hist) pend (.eff hw hf (v := v) (by rw [hres, hstep]) (by rw [hstep])) (fun v hst => ?_) (fun _ => hB) (fun q => ?_) (nostill fun v hst => ?_) (by rw [hstep]; exact hs)
              · have := hst.2.2.1; rw [hf] at this; cases this
              · rw [List.mem_cons, hh q]
                constructor
                · rintro (g | ⟨g1, g2, g3⟩)
                  · subst g; exact ⟨by simp, hfire, rfl⟩
                  · exact ⟨by omega, g2, g3⟩
                · rintro ⟨g1, g2, g3⟩
                  rcases Nat.lt_or_ge q.1 i with h | h
                  · exact .inr ⟨h, g2, g3⟩
                  · have : q.1 = i := by omega
                    left
                    obtain ⟨q1, q2⟩ := q
                    simp only at this g3
                    subst this; rw [g3]
              · have := hst.2.2.1; rw [hf] at this; cases this
            | pan v h' =>
              simp only at hs
              cases hlast : info.last.contains i with
              | false => rw [hlast] at hs; cases hs
              | true =>
                rw [hlast] at hs
                injection hs with hs
                refine ⟨i, ⟨Nat.le_of_lt hlt, hk, ha, fun t ht hft => ?_⟩, .inr ⟨o, v, h', hi, hw, hf, hres, by simpa using hlast, _, hs.symm⟩⟩
                rcases Nat.lt_or_ge t i with h | h
                · rcases hft with hft | hft
                  · exact hb t h hft
                  · omega
                · have : t = i := by omega
                  subst this; exact hB
            | dfr d => cases hs
        | false =>
          rw [hf] at hs hstep
          simp only [cond_false] at hs hstep
          have hnf : ¬ Fires ops S i := by rintro ⟨o', g1, g2, g3⟩; rw [hi] at g1; injection g1 with g1; subst g1; rw [hf] at g3; cases g3
          cases hss : sStep G (S i).1 (S i).2 o with
          | some v =>
            rw [hss] at hs hstep
            simp only at hs hstep
            have hk1 : Kind G r ops S i o := .still hw hf hss (by rw [hstep]) (by rw [hstep])
            have huniq : ∀ v', Still G ops S i o v' → v' = v := by
              intro v' hst; have := hst.2.2.2; rw [hss] at this; injection this with this; exact this.symm
            split at hs
            · rename_i hl0
              refine go hist pend hk1 (fun v' hst t _ _ ht => ?_) (fun hf => absurd hf hnf) (nofire hnf) (nostill fun _ _ => hl0) (by rw [hstep]; exact hs)
              rw [hl0] at ht; cases ht
            · rename_i l0 hl0
              obtain ⟨hall, hs⟩ := bif_some hs
              refine go hist (⟨i, o, (S i).1, v⟩ :: pend) hk1 (fun v' hst t ht hft hin => ?_) (fun hf => absurd hf hnf) (nofire hnf) (fun k o' v' hk' hst hne => ?_) (by rw [hstep]; exact hs)
              · have := List.all_eq_true.1 hall (t, (S t).2) ((hh _).2 ⟨ht, hft, rfl⟩)
                simp only [Bool.or_eq_true, Bool.not_eq_true', List.contains_eq_mem, decide_eq_false_iff_not] at this
                rw [huniq v' hst]
                exact this.resolve_left fun h => h hin
              · rcases Nat.lt_or_ge k i with h | h
                · exact List.mem_cons_of_mem _ (hp k o' v' h hst hne)
                · have : k = i := by omega
                  subst this
                  have := hst.1
                  rw [hi] at this; injection this with this; subst this
                  rw [huniq v' hst]; exact List.mem_cons_self
          | none =>
            rw [hss] at hs hstep
            simp only at hs hstep
            obtain ⟨nn, hnn, hs⟩ := bind_some hs
            rw [hnn] at hstep
            simp only at hstep
            split at hs
            · cases hs
            · rename_i hnone
              refine go hist pend (.alloc hw hf hnn hnone (by rw [hstep]) (by rw [hstep])) (fun v' hst => ?_) (fun hf => absurd hf hnf) (nofire hnf) (nostill fun v' hst => ?_) (by rw [hstep]; exact hs)
              · have := hst.2.2.2; rw [hss] at this; cases this
              · have := hst.2.2.2; rw [hss] at this; cases this

theorem drawStep_ends {x : Ex × Env × Hp} (hs : drawStep G r info ops ops.toList 0 e0 h0 [] [] = some x) :
    ∃ S m, S 0 = (e0, h0) ∧ Trace G r info ops S m ∧ Ends G r info ops S m x := by
  obtain ⟨m, h1, h2⟩ := drawStep_trace (G := G) (r := r) (info := info) (ops := ops) (e0 := e0) (h0 := h0) ops.size 0 ops.toList [] [] x (by simp) (by simp)
    (fun k o hk => absurd hk (by omega)) (fun k o v hk => absurd hk (by omega)) (fun t ht => absurd ht (by omega)) (fun q => by simp) (fun k o v hk => absurd hk (by omega)) hs
  exact ⟨_, m, rfl, h1, h2⟩

end
end Go.AE
