/- A region whose order is drawn ends, in every order, as the evaluator says. -/
import Derived.Test.YtaceaifoajkgaaaGreatDoorAEtrace
namespace Go.AE

structure Ext0 (M : Mp) (h : Hp) (w : World) (M' : Mp) (h' : Hp) (w' : World) : Prop where
  le : M.le M'
  size : w.heap.size ≤ w'.heap.size
  keep : ∀ b, b < w.heap.size → ¬ may M h b → w'.heap[b]? = w.heap[b]?
  touch : ∀ b, may M' h' b → b < w.heap.size → may M h b
  newb : ∀ id p, M' id = some p → M id = none → w.heap.size ≤ p.b ∨ may M h p.b
  held : ∀ id, M id = none → id < h.next → h'.get id = h.get id
  os : w'.os = w.os
  out : w'.output = w.output
  tape : w'.tape = w.tape

theorem HR.zero {B : Nat} {M : Mp} {h : Hp} {w : World} (H : HR B M h w) : HR 0 M h w := ⟨H.wf, H.inHeap, fun _ _ _ => .inr (Nat.zero_le _), H.one, H.ob⟩

/-- a smaller state of the same world -/
theorem HR.sub {B : Nat} {M : Mp} {h h' : Hp} {w : World} (H : HR B M h w) (hw : ∀ id, h'.next ≤ id → h'.get id = none) (hs : ∀ id o, h'.get id = some o → h.get id = some o) : HR 0 M h' w :=
  ⟨hw, H.inHeap, fun _ _ _ => .inr (Nat.zero_le _), fun i j p q o o' hi hj gi gj => H.one i j p q o o' hi hj (hs _ _ gi) (hs _ _ gj), fun id p o hp hg => H.ob id p o hp (hs _ _ hg)⟩

theorem HR.name0 {M : Mp} {h : Hp} {w : World} (H : HR 0 M h w) (hn : M h.next = none) (o : Ob) : HR 0 M (h.new o) w := by
  have key : ∀ i p, M i = some p → i ≠ h.next := fun i p hp e => by subst e; rw [hn] at hp; cases hp
  refine ⟨Hp.wf_new H.wf o, H.inHeap, fun _ _ _ => .inr (Nat.zero_le _), ?_, ?_⟩
  · intro i j p q oi oj hi hj gi gj li lj hb
    rw [Hp.get_new, if_neg (key _ _ hi)] at gi
    rw [Hp.get_new, if_neg (key _ _ hj)] at gj
    exact H.one i j p q oi oj hi hj gi gj li lj hb
  · intro i p oo hp hg hl
    rw [Hp.get_new, if_neg (key _ _ hp)] at hg
    exact H.ob i p oo hp hg hl

theorem HR.wake {M : Mp} {h : Hp} {w : World} (H : HR 0 M h w) {p : Pl} {o : Ob} {x : Obj} (hM : M h.next = some p) (hx : w.heap[p.b]? = some x) (ho : OR M o p x) (own : ∀ id q, M id = some q → q.b = p.b → id = h.next) : HR 0 M (h.new o) w := by
  refine ⟨Hp.wf_new H.wf o, H.inHeap, fun _ _ _ => .inr (Nat.zero_le _), ?_, ?_⟩
  · intro i j pi pj oi oj hi hj gi gj li lj hb
    by_cases ei : i = h.next
    · subst ei
      rw [hM] at hi; injection hi with hi; subst hi
      exact (own j pj hj hb.symm).symm
    · by_cases ej : j = h.next
      · subst ej
        rw [hM] at hj; injection hj with hj; subst hj
        exact own i pi hi hb
      · rw [Hp.get_new, if_neg ei] at gi
        rw [Hp.get_new, if_neg ej] at gj
        exact H.one i j pi pj oi oj hi hj gi gj li lj hb
  · intro i q oo hq hg hl
    rw [Hp.get_new] at hg
    split at hg
    · rename_i e; subst e
      injection hg with hg; subst hg
      rw [hM] at hq; injection hq with hq; subst hq
      exact ⟨x, hx, ho⟩
    · exact H.ob i q oo hq hg hl

theorem Env.val_put_ne (e : Env) (d : Option Tmp) (t : Nat) (v : Value) (h : d ≠ some t) : (Env.put e d v).val t = e.val t := by
  cases d with
  | none => rfl
  | some d =>
    by_cases hd : d < e.n
    · rw [Env.val_put _ _ _ _ hd, if_neg (fun e => h (by rw [e]))]
    · simp only [Env.put, if_neg hd]

theorem Act.getD_put_ne (a : Act) (d : Option Tmp) (t : Nat) (v : Value) (h : d ≠ some t) : (a.put d v).tmps.getD t undef = a.tmps.getD t undef := by
  cases d with
  | none => rfl
  | some d =>
    have : d ≠ t := fun e => h (by rw [e])
    simp only [Act.put, Array.getD_eq_getD_getElem?, Array.getElem?_setIfInBounds, if_neg this]

section
variable {G : Tabs} {P : Program} {r : Ev} {info : RegInfo} {ops : Array Oper} {S : Tc} {m : Nat}

abbrev NextOK (r : Ev) : Prop := ∀ f args (h : Hp) out (h1 : Hp), r.call f args h = some (out, h1) → h.next ≤ h1.next

/-- operation i made a block -/
def Al (G : Tabs) (ops : Array Oper) (S : Tc) (i : Nat) (n : New) : Prop :=
  ∃ o, ops[i]? = some o ∧ wantedA ops (S i).1 o = true ∧ isEff o.op = false ∧ nStep G (S i).1 o = some n ∧ (S i).2.get (S i).2.next = none ∧ (S (i + 1)).2 = (S i).2.new n.ob

theorem Trace.step_next (T : Trace G r info ops S m) (hn : NextOK r) {i : Nat} (hi : i < m) : (S i).2.next ≤ (S (i + 1)).2.next := by
  have hlt : i < ops.size := Nat.lt_of_lt_of_le hi T.le
  obtain h := T.kind i ops[i] hi (Array.getElem?_eq_getElem hlt)
  cases h with
  | skip hw he hh => rw [hh]; exact Nat.le_refl _
  | eff hw hf hs he => exact eStep_next (res := .val _ _) hn hs
  | still hw hf hs he hh => rw [hh]; exact Nat.le_refl _
  | alloc hw hf hs hn' he hh => rw [hh, Hp.next_new]; omega

theorem Trace.next_le (T : Trace G r info ops S m) (hn : NextOK r) {i j : Nat} (hij : i ≤ j) (hj : j ≤ m) : (S i).2.next ≤ (S j).2.next := by
  induction j with
  | zero => have : i = 0 := by omega
            subst this; exact Nat.le_refl _
  | succ j ih =>
    rcases Nat.lt_or_ge i (j + 1) with h | h
    · exact Nat.le_trans (ih (by omega) (by omega)) (T.step_next hn (by omega))
    · have : i = j + 1 := by omega
      subst this; exact Nat.le_refl _

theorem Kind.put {i : Nat} {o : Oper} (h : Kind G r ops S i o) : ∃ v, (S (i + 1)).1 = Env.put (S i).1 o.dst v := by
  cases h with
  | skip hw he hh => exact ⟨_, he⟩
  | eff hw hf hs he => exact ⟨_, he⟩
  | still hw hf hs he hh => exact ⟨_, he⟩
  | alloc hw hf hs hn' he hh => exact ⟨_, he⟩

theorem Trace.same (T : Trace G r info ops S m) {i : Nat} (hi : i ≤ m) : (S i).1.n = (S 0).1.n ∧ (S i).1.defers = (S 0).1.defers ∧ (S i).1.fn = (S 0).1.fn := by
  induction i with
  | zero => exact ⟨rfl, rfl, rfl⟩
  | succ i ih =>
    have hlt : i < ops.size := Nat.lt_of_lt_of_le hi T.le
    obtain ⟨v, hv⟩ := (T.kind i ops[i] (by omega) (Array.getElem?_eq_getElem hlt)).put
    obtain ⟨h1, h2, h3⟩ := ih (by omega)
    rw [hv]
    exact ⟨by rw [Env.n_put, h1], by rw [Env.defers_put, h2], by rw [Env.fn_put, h3]⟩

theorem Trace.val_from (T : Trace G r info ops S m) {j t : Nat} : ∀ i, j ≤ i → i ≤ m → (∀ k o, j ≤ k → k < i → ops[k]? = some o → o.dst ≠ some t) → (S i).1.val t = (S j).1.val t := by
  intro i
  induction i with
  | zero => intro h _ _; have : j = 0 := by omega
            subst this; rfl
  | succ i ih =>
    intro hij hi hno
    rcases Nat.lt_or_ge j (i + 1) with h | h
    · have hlt : i < ops.size := Nat.lt_of_lt_of_le hi T.le
      obtain ⟨v, hv⟩ := (T.kind i ops[i] (by omega) (Array.getElem?_eq_getElem hlt)).put
      rw [hv, Env.val_put_ne _ _ _ _ (hno i _ (by omega) (by omega) (Array.getElem?_eq_getElem hlt))]
      exact ih (by omega) (by omega) fun k o h1 h2 => hno k o h1 (by omega)
    · have : j = i + 1 := by omega
      subst this; rfl

theorem Al.lt_next {i : Nat} {n : New} (h : Al G ops S i n) : (S i).2.next < (S (i + 1)).2.next := by
  obtain ⟨o, _, _, _, _, _, hh⟩ := h
  rw [hh, Hp.next_new]; omega

theorem Al.not_fires {i : Nat} {n : New} (h : Al G ops S i n) : ¬ Fires ops S i := by
  rintro ⟨o', g1, _, g3⟩
  obtain ⟨o, h1, _, h3, _⟩ := h
  rw [h1] at g1; injection g1 with g1; subst g1
  rw [h3] at g3; cases g3

/-- the temporaries -/
structure EnvX (ops : Array Oper) (S : Tc) (X : Nat → Prop) (M : Mp) (a : Act) : Prop where
  wr : ∀ k o d, X k → ops[k]? = some o → o.dst = some d → VR M ((S (k + 1)).1.val d) (a.tmps.getD d undef)
  un : ∀ t, (∀ k o, X k → ops[k]? = some o → o.dst ≠ some t) → VR M ((S 0).1.val t) (a.tmps.getD t undef)
  size : a.tmps.size = (S 0).1.n
  defers : All2 (DR M) (S 0).1.defers a.defers

theorem DR.mono {M M' : Mp} (hM : M.le M') {d d' : Deferred} (h : DR M d d') : DR M' d d' := by
  obtain ⟨f, c, c', h1, h2, h3, h4⟩ := h
  exact ⟨f, c, c', h1, h2, h3.mono hM, h4.mono hM⟩
theorem DRs.mono {M M' : Mp} (hM : M.le M') {l l' : List Deferred} (h : All2 (DR M) l l') : All2 (DR M') l l' := by
  induction h with
  | nil => exact .nil
  | cons h _ ih => exact .cons (h.mono hM) ih

theorem EnvX.mono {X : Nat → Prop} {M M' : Mp} {a : Act} (E : EnvX ops S X M a) (hM : M.le M') : EnvX ops S X M' a :=
  ⟨fun k o d h1 h2 h3 => (E.wr k o d h1 h2 h3).mono hM, fun t h => (E.un t h).mono hM, E.size, DRs.mono hM E.defers⟩

abbrev Uniq (ops : Array Oper) : Prop := ∀ (i k : Nat) (o p : Oper), ops[i]? = some o → ops[k]? = some p → i ≠ k → ∀ d, o.dst = some d → p.dst ≠ some d

theorem EnvX.step (T : Trace G r info ops S m) (U : Uniq ops) {X : Nat → Prop} {M M' : Mp} {a : Act} (E : EnvX ops S X M a) {i : Nat} {o : Oper} (hX : ¬ X i) (hi : ops[i]? = some o) (him : i < m) (hM : M.le M') {v v' : Value}
    (hv : VR M' v v') (he : (S (i + 1)).1 = Env.put (S i).1 o.dst v) : EnvX ops S (fun j => X j ∨ j = i) M' (a.put o.dst v') := by
  refine ⟨?_, ?_, ?_, ?_⟩
  · intro k p d hk hp hd
    by_cases hki : k = i
    · subst hki
      rw [hi] at hp; injection hp with hp; subst hp
      rw [he]
      by_cases hdn : d < (S k).1.n
      · rw [hd, Env.val_put _ _ _ _ hdn, if_pos rfl, Act.getD_put _ _ _ _ (by rw [E.size, ← (T.same (Nat.le_of_lt him)).1]; exact hdn), if_pos rfl]
        exact hv
      · have h1 : Env.put (S k).1 (some d) v = (S k).1 := by simp only [Env.put, if_neg hdn]
        have h2 : a.put (some d) v' = a := by
          have : a.tmps.setIfInBounds d v' = a.tmps := Array.setIfInBounds_eq_of_size_le (by rw [E.size, ← (T.same (Nat.le_of_lt him)).1]; exact Nat.le_of_not_lt hdn)
          simp only [Act.put, this]
        rw [hd, h1, h2]
        rw [T.val_from (j := 0) k (Nat.zero_le _) (Nat.le_of_lt him) fun q p _ hq hp => U k q o p hi hp (by omega) d hd]
        refine (E.un d fun q p hq hp => ?_).mono hM
        have hne : k ≠ q := fun e => hX (by rw [e]; exact hq)
        exact U k q o p hi hp hne d hd
    · have hXk : X k := hk.resolve_right hki
      rw [Act.getD_put_ne _ _ _ _ (U k i p o hp hi hki d hd)]
      exact (E.wr k p d hXk hp hd).mono hM
  · intro t ht
    rw [Act.getD_put_ne _ _ _ _ (ht i o (.inr rfl) hi)]
    exact (E.un t fun k p hk hp => ht k p (.inl hk) hp).mono hM
  · rw [← E.size]
    cases o.dst with
    | none => rfl
    | some d => simp [Act.put]
  · have : (a.put o.dst v').defers = a.defers := by cases o.dst <;> rfl
    rw [this]
    exact DRs.mono hM E.defers

/-- the memory, at a time where the next operation with an effect is t -/
structure HpX (G : Tabs) (ops : Array Oper) (S : Tc) (m : Nat) (M0 : Mp) (w0 : World) (X : Nat → Prop) (t : Nat) (M : Mp) (w : World) : Prop where
  hr : HR 0 M (S t).2 w
  ext : Ext0 M0 (S 0).2 w0 M (S t).2 w
  dom : ∀ id p, M id = some p → M0 id = some p ∨ ((S 0).2.next ≤ id ∧ id < (S t).2.next) ∨ ∃ i n, i < m ∧ Al G ops S i n ∧ X i ∧ t ≤ i ∧ id = (S i).2.next
  no : ∀ i n, i < m → Al G ops S i n → ¬ X i → M (S i).2.next = none
  ob : ∀ i n, i < m → Al G ops S i n → ¬ X i → i < t → (S t).2.get (S i).2.next = some n.ob
  pend : ∀ i n, i < m → Al G ops S i n → X i → t ≤ i → ∃ b x, M (S i).2.next = some ⟨b, 0, .rw⟩ ∧ w0.heap.size ≤ b ∧ w.heap[b]? = some x ∧ OR M n.ob ⟨b, 0, .rw⟩ x ∧ ∀ id q, M id = some q → q.b = b → id = (S i).2.next

variable {M0 : Mp} {w0 : World} {X : Nat → Prop} {t : Nat} {M : Mp} {w : World}

theorem HpX.idle (H : HpX G ops S m M0 w0 X t M w) {i : Nat} (hi : ∀ n, ¬ Al G ops S i n) : HpX G ops S m M0 w0 (fun j => X j ∨ j = i) t M w := by
  refine ⟨H.hr, H.ext, fun id p hp => ?_, fun j n hj ha hx => H.no j n hj ha fun h => hx (.inl h), fun j n hj ha hx => H.ob j n hj ha fun h => hx (.inl h), fun j n hj ha hx ht => ?_⟩
  · rcases H.dom id p hp with h | h | ⟨j, n, h1, h2, h3, h4⟩
    · exact .inl h
    · exact .inr (.inl h)
    · exact .inr (.inr ⟨j, n, h1, h2, .inl h3, h4⟩)
  · rcases hx with hx | hx
    · exact H.pend j n hj ha hx ht
    · subst hx; exact absurd ha (hi n)

theorem Al.id_ne (T : Trace G r info ops S m) (hn : NextOK r) {i j : Nat} {n n' : New} (hi : i < m) (hj : j < m) (ai : Al G ops S i n) (aj : Al G ops S j n') (hne : i ≠ j) : (S i).2.next ≠ (S j).2.next := by
  rcases Nat.lt_or_ge i j with h | h
  · have := ai.lt_next
    have := T.next_le hn (i := i + 1) (j := j) h (by omega)
    omega
  · have := aj.lt_next
    have := T.next_le hn (i := j + 1) (j := i) (by omega) (by omega)
    omega

theorem HpX.alloc (T : Trace G r info ops S m) (hn : NextOK r) (H : HpX G ops S m M0 w0 X t M w) (htm : t ≤ m) {i : Nat} {n : New} (hi : i < m) (ha : Al G ops S i n) (hX : ¬ X i) {x : Obj}
    (hx : ∀ M', M.le M' → OR M' n.ob ⟨w.heap.size, 0, .rw⟩ x) : HpX G ops S m M0 w0 (fun j => X j ∨ j = i) t (M.upd (S i).2.next ⟨w.heap.size, 0, .rw⟩) (w.alloc x) := by
  have hM := H.no i n hi ha hX
  have hle : M.le (M.upd (S i).2.next ⟨w.heap.size, 0, .rw⟩) := Mp.le_upd hM
  have h0i := T.next_le hn (Nat.zero_le i) (Nat.le_of_lt hi)
  refine ⟨?_, ?_, ?_, ?_, ?_, ?_⟩
  · refine H.hr.fill hM (.inr (Nat.zero_le _)) fun o ho _ => ?_
    rcases Nat.lt_or_ge i t with h | h
    · rw [H.ob i n hi ha hX h] at ho
      injection ho with ho; subst ho
      exact hx _ hle
    · rw [H.hr.wf _ (T.next_le hn h (Nat.le_of_lt hi))] at ho; cases ho
  · have E := H.ext
    refine ⟨E.le.trans hle, ?_, ?_, ?_, ?_, E.held, E.os, E.out, E.tape⟩
    · have := E.size
      unfold World.alloc; simp; omega
    · intro b hb hm
      rw [← E.keep b hb hm]
      have : b < w.heap.size := Nat.lt_of_lt_of_le hb E.size
      simp only [World.alloc]
      rw [Array.getElem?_push_lt this, Array.getElem?_eq_getElem this]
    · intro b hm hb
      obtain ⟨id, p, o, hp, hg, hl, hpb, hk⟩ := hm
      unfold Mp.upd at hp
      split at hp
      · injection hp with hp; subst hp
        have := E.size
        simp only at hpb; omega
      · exact E.touch b ⟨id, p, o, hp, hg, hl, hpb, hk⟩ hb
    · intro id p hp h0
      unfold Mp.upd at hp
      split at hp
      · injection hp with hp; subst hp
        exact .inl E.size
      · exact E.newb id p hp h0
  · intro id p hp
    unfold Mp.upd at hp
    split at hp
    · rename_i e
      rcases Nat.lt_or_ge i t with h | h
      · have := ha.lt_next
        have := T.next_le hn (i := i + 1) (j := t) h htm
        exact .inr (.inl ⟨by omega, by omega⟩)
      · exact .inr (.inr ⟨i, n, hi, ha, .inr rfl, h, e⟩)
    · rcases H.dom id p hp with h | h | ⟨j, n, h1, h2, h3, h4⟩
      · exact .inl h
      · exact .inr (.inl h)
      · exact .inr (.inr ⟨j, n, h1, h2, .inl h3, h4⟩)
  · intro j n' hj ha' hx'
    have hne : j ≠ i := fun e => hx' (.inr e)
    unfold Mp.upd
    rw [if_neg (Al.id_ne T hn hj hi ha' ha hne)]
    exact H.no j n' hj ha' fun h => hx' (.inl h)
  · intro j n' hj ha' hx' ht
    exact H.ob j n' hj ha' (fun h => hx' (.inl h)) ht
  · intro j n' hj ha' hx' ht
    by_cases e : j = i
    · subst e
      obtain ⟨o1, a1, a2, a3, a4, _⟩ := ha
      obtain ⟨o2, b1, b2, b3, b4, _⟩ := ha'
      rw [a1] at b1; injection b1 with b1; subst b1
      rw [a4] at b4; injection b4 with b4; subst b4
      refine ⟨w.heap.size, x, Mp.upd_same _ _ _, H.ext.size, by unfold World.alloc; simp, hx _ hle, fun id q hq hqb => ?_⟩
      unfold Mp.upd at hq
      split at hq
      · rename_i e; exact e
      · have := H.hr.inHeap _ _ hq; omega
    · obtain ⟨b, y, g1, g2, g3, g4, g5⟩ := H.pend j n' hj ha' (hx'.resolve_right e) ht
      have hne := Al.id_ne T hn hj hi ha' ha e
      have hb : b < w.heap.size := H.hr.inHeap _ _ g1
      refine ⟨b, y, hle _ _ g1, g2, ?_, g4.mono hle, fun id q hq hqb => ?_⟩
      · simp only [World.alloc]
        rw [Array.getElem?_push_lt hb]
        rw [Array.getElem?_eq_getElem hb] at g3
        exact g3
      · unfold Mp.upd at hq
        split at hq
        · injection hq with hq; subst hq
          simp only at hqb; omega
        · exact g5 id q hq hqb

theorem HpX.fresh (T : Trace G r info ops S m) (hn : NextOK r) (H : HpX G ops S m M0 w0 X t M w) {B0 B1 : Nat} (h0 : HR B0 M0 (S 0).2 w0) (htm : t ≤ m) (hB : B1 ≤ B0)
    (h1 : ∀ i n, i < m → Al G ops S i n → t ≤ i → B1 ≤ (S i).2.next) : HR B1 M (S t).2 w := by
  refine ⟨H.hr.wf, H.hr.inHeap, fun id p hp => ?_, H.hr.one, H.hr.ob⟩
  have h0t := T.next_le hn (Nat.zero_le t) htm
  rcases H.dom id p hp with h | h | ⟨j, n, g1, g2, g3, g4, g5⟩
  · rcases h0.fresh _ _ h with h | h
    · left; omega
    · right; omega
  · exact .inl h.2
  · right; rw [g5]; exact h1 j n g1 g2 g4

/-- an operation with an effect -/
theorem HpX.effect (T : Trace G r info ops S m) (hn : NextOK r) (H : HpX G ops S m M0 w0 X t M w) (htm : t < m) (hf : Fires ops S t) {M' : Mp} {w' : World} {B1 : Nat}
    (E : Ext M (S t).2 w M' (S (t + 1)).2 w') (H' : HR B1 M' (S (t + 1)).2 w') : HpX G ops S m M0 w0 (fun j => X j ∨ j = t) (t + 1) M' w' := by
  have h0t := T.next_le hn (Nat.zero_le t) (Nat.le_of_lt htm)
  have nal : ∀ n, ¬ Al G ops S t n := fun n ha => ha.not_fires hf
  have above : ∀ j n, j < m → Al G ops S j n → t ≤ j → t + 1 ≤ j := by
    intro j n _ ha hj
    rcases Nat.lt_or_ge t j with h | h
    · exact h
    · have : j = t := by omega
      subst this; exact absurd ha (nal n)
  have un : ∀ j n, j < m → Al G ops S j n → ¬ X j → M' (S j).2.next = none := by
    intro j n hj ha hx
    have h1 := H.no j n hj ha hx
    cases hm : M' (S j).2.next with
    | none => rfl
    | some q =>
      have hr := E.range _ _ hm h1
      rcases Nat.lt_or_ge j t with h | h
      · have := ha.lt_next
        have := T.next_le hn (i := j + 1) (j := t) h (Nat.le_of_lt htm)
        omega
      · have := T.next_le hn (i := t + 1) (j := j) (above j n hj ha h) (Nat.le_of_lt hj)
        omega
  refine ⟨H'.zero, ?_, ?_, ?_, ?_, ?_⟩
  · have E0 := H.ext
    refine ⟨E0.le.trans E.le, Nat.le_trans E0.size E.size, ?_, ?_, ?_, ?_, E.os.trans E0.os, E.out.trans E0.out, E.tape.trans E0.tape⟩
    · intro b hb hm
      rw [E.keep b (Nat.lt_of_lt_of_le hb E0.size) (fun hm' => hm (E0.touch b hm' hb)), E0.keep b hb hm]
    · intro b hm hb
      exact E0.touch b (E.touch b hm (Nat.lt_of_lt_of_le hb E0.size)) hb
    · intro id p hp h0
      cases hm : M id with
      | some q =>
        have := E.le _ _ hm
        rw [hp] at this; injection this with this; subst this
        exact E0.newb id _ hm h0
      | none =>
        rcases E.newb id p hp hm with hs | hs
        · exact .inl (Nat.le_trans E0.size hs)
        · rcases Nat.lt_or_ge p.b w0.heap.size with hl | hl
          · exact .inr (E0.touch _ hs hl)
          · exact .inl hl
    · intro id h0 hlt
      have hm : M id = none := by
        cases hm : M id with
        | none => rfl
        | some q =>
          rcases H.dom id q hm with h | h | ⟨j, n, g1, g2, g3, g4, g5⟩
          · rw [h0] at h; cases h
          · omega
          · have := T.next_le hn (i := 0) (j := j) (Nat.zero_le _) (Nat.le_of_lt g1); omega
      rw [E.held id hm (by omega), E0.held id h0 hlt]
  · intro id p hp
    cases hm : M id with
    | some q =>
      have := E.le _ _ hm
      rw [hp] at this; injection this with this; subst this
      rcases H.dom id _ hm with h | h | ⟨j, n, g1, g2, g3, g4, g5⟩
      · exact .inl h
      · have := E.next
        exact .inr (.inl ⟨h.1, by omega⟩)
      · exact .inr (.inr ⟨j, n, g1, g2, .inl g3, above j n g1 g2 g4, g5⟩)
    | none =>
      have := E.range id p hp hm
      exact .inr (.inl ⟨by omega, this.2⟩)
  · exact fun j n hj ha hx => un j n hj ha fun h => hx (.inl h)
  · intro j n hj ha hx ht
    have hX : ¬ X j := fun h => hx (.inl h)
    have hjt : j < t := by
      rcases Nat.lt_or_ge j t with h | h
      · exact h
      · have := above j n hj ha h; omega
    have := ha.lt_next
    have := T.next_le hn (i := j + 1) (j := t) hjt (Nat.le_of_lt htm)
    rw [E.held _ (H.no j n hj ha hX) (by omega)]
    exact H.ob j n hj ha hX hjt
  · intro j n hj ha hx ht
    have hX : X j := hx.resolve_right (by omega)
    obtain ⟨b, y, g1, g2, g3, g4, g5⟩ := H.pend j n hj ha hX (by omega)
    have hb : b < w.heap.size := H.hr.inHeap _ _ g1
    have notmay : ¬ may M (S t).2 b := by
      rintro ⟨id, p, o, hp, hg, hl, hpb, hk⟩
      have := g5 id p hp hpb
      subst this
      rw [H.hr.wf _ (T.next_le hn (i := t) (j := j) (by omega) (Nat.le_of_lt hj))] at hg
      cases hg
    refine ⟨b, y, E.le _ _ g1, g2, by rw [E.keep b hb notmay]; exact g3, g4.mono E.le, fun id q hq hqb => ?_⟩
    cases hm : M id with
    | some q' =>
      have := E.le _ _ hm
      rw [hq] at this; injection this with this; subst this
      exact g5 id q hm hqb
    | none =>
      rcases E.newb id q hq hm with h | h
      · omega
      · rw [hqb] at h; exact absurd h notmay

/-- past an operation without an effect -/
theorem HpX.past (T : Trace G r info ops S m) (hn : NextOK r) (H : HpX G ops S m M0 w0 X t M w) (htm : t < m) (hf : ¬ Fires ops S t) : HpX G ops S m M0 w0 X (t + 1) M w := by
  have hlt : t < ops.size := Nat.lt_of_lt_of_le htm T.le
  have h0t := T.next_le hn (Nat.zero_le t) (Nat.le_of_lt htm)
  have idle : (S (t + 1)).2 = (S t).2 → HpX G ops S m M0 w0 X (t + 1) M w := by
    intro hh
    have nal : ∀ n, ¬ Al G ops S t n := fun n ha => by have := ha.lt_next; rw [hh] at this; omega
    have above : ∀ j n, Al G ops S j n → t ≤ j → t + 1 ≤ j := by
      intro j n ha hj
      rcases Nat.lt_or_ge t j with h | h
      · exact h
      · have : j = t := by omega
        subst this; exact absurd ha (nal n)
    refine ⟨by rw [hh]; exact H.hr, by rw [hh]; exact H.ext, fun id p hp => ?_, H.no, fun j n hj ha hx ht => ?_, fun j n hj ha hx ht => H.pend j n hj ha hx (by omega)⟩
    · rw [hh]
      rcases H.dom id p hp with h | h | ⟨j, n, g1, g2, g3, g4, g5⟩
      · exact .inl h
      · exact .inr (.inl h)
      · exact .inr (.inr ⟨j, n, g1, g2, g3, above j n g2 g4, g5⟩)
    · rw [hh]
      refine H.ob j n hj ha hx ?_
      rcases Nat.lt_or_ge j t with h | h
      · exact h
      · have := above j n ha h; omega
  cases T.kind t ops[t] htm (Array.getElem?_eq_getElem hlt) with
  | skip hw he hh => exact idle hh
  | still hw hf hs he hh => exact idle hh
  | eff hw hf' hs he => exact absurd ⟨_, Array.getElem?_eq_getElem hlt, hw, hf'⟩ hf
  | @alloc hw hf' n hs hnone he hh =>
    have ha : Al G ops S t n := ⟨_, Array.getElem?_eq_getElem hlt, hw, hf', hs, hnone, hh⟩
    have uniq : ∀ n', Al G ops S t n' → n' = n := by
      rintro n' ⟨o2, b1, b2, b3, b4, _⟩
      rw [Array.getElem?_eq_getElem hlt] at b1; injection b1 with b1; subst b1
      rw [hs] at b4; injection b4 with b4; exact b4.symm
    have hheld : ∀ id, M0 id = none → id < (S 0).2.next → (S (t + 1)).2.get id = (S 0).2.get id := by
      intro id h0 hl
      rw [hh, Hp.get_new, if_neg (by omega)]
      exact H.ext.held id h0 hl
    have hdom : ∀ id p, M id = some p → M0 id = some p ∨ ((S 0).2.next ≤ id ∧ id < (S (t + 1)).2.next) ∨ ∃ i n, i < m ∧ Al G ops S i n ∧ X i ∧ t + 1 ≤ i ∧ id = (S i).2.next := by
      intro id p hp
      rw [hh, Hp.next_new]
      rcases H.dom id p hp with h | h | ⟨j, n', g1, g2, g3, g4, g5⟩
      · exact .inl h
      · exact .inr (.inl ⟨h.1, by omega⟩)
      · rcases Nat.lt_or_ge t j with h | h
        · exact .inr (.inr ⟨j, n', g1, g2, g3, h, g5⟩)
        · have : j = t := by omega
          subst this
          exact .inr (.inl ⟨by omega, by omega⟩)
    have hob : ∀ j n', j < m → Al G ops S j n' → ¬ X j → j < t + 1 → (S (t + 1)).2.get (S j).2.next = some n'.ob := by
      intro j n' hj ha' hx ht
      by_cases e : j = t
      · subst e
        rw [hh, Hp.get_new, if_pos rfl, uniq n' ha']
      · have hlt2 := ha'.lt_next
        have := T.next_le hn (i := j + 1) (j := t) (by omega) (Nat.le_of_lt htm)
        rw [hh, Hp.get_new, if_neg (by omega)]
        exact H.ob j n' hj ha' hx (by omega)
    have E0 := H.ext
    by_cases hX : X t
    · obtain ⟨b, y, g1, g2, g3, g4, g5⟩ := H.pend t n htm ha hX (Nat.le_refl _)
      refine ⟨by rw [hh]; exact H.hr.wake g1 g3 g4 g5, ⟨E0.le, E0.size, E0.keep, ?_, E0.newb, hheld, E0.os, E0.out, E0.tape⟩, hdom, H.no, hob, fun j n' hj ha' hx ht => H.pend j n' hj ha' hx (by omega)⟩
      rintro b' ⟨id, p, o, hp, hg, hl, hpb, hk⟩ hb'
      rw [hh, Hp.get_new] at hg
      split at hg
      · rename_i e; subst e
        rw [g1] at hp; injection hp with hp; subst hp
        simp only at hpb; omega
      · exact E0.touch b' ⟨id, p, o, hp, hg, hl, hpb, hk⟩ hb'
    · have g1 := H.no t n htm ha hX
      refine ⟨by rw [hh]; exact H.hr.name0 g1 _, ⟨E0.le, E0.size, E0.keep, ?_, E0.newb, hheld, E0.os, E0.out, E0.tape⟩, hdom, H.no, hob, fun j n' hj ha' hx ht => H.pend j n' hj ha' hx (by omega)⟩
      rintro b' ⟨id, p, o, hp, hg, hl, hpb, hk⟩ hb'
      rw [hh, Hp.get_new] at hg
      split at hg
      · rename_i e; subst e; rw [g1] at hp; cases hp
      · exact E0.touch b' ⟨id, p, o, hp, hg, hl, hpb, hk⟩ hb'

end
end Go.AE
