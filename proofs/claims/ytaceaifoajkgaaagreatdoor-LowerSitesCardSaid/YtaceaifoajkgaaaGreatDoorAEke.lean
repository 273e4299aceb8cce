/- A twin of the evaluator for the kernel, fifth part: calls, the fuel, and that the twin is right. -/
import Derived.Test.YtaceaifoajkgaaaGreatDoorAEkd
namespace Go.AE
noncomputable section

structure KF where
  code : K
  body : Code
  fn : Func
  ntmps : Nat
  res : Option (List Pa)

def resP : List ResultVar → Option (List Pa)
  | [] => some []
  | .tmp t :: r => (resP r).map (path t :: ·)
  | _ => none

section
variable (G : Tabs)

def kfn (f : FuncId) : Option KF :=
  match G.fn f with
  | some fn => match fn.body with
    | some c => some ⟨kc G f c, c, fn, fn.ntmps, resP fn.results.toList⟩
    | none => none
  | none => none

def forceA (t : Tr Value) (k : Nat → Tr Value → Tr Value) (i : Nat) : Tr Value :=
  Tr.rec (motive := fun _ => (Nat → Tr Value → Tr Value) → Nat → Tr Value) (fun k i => k i .nil) (fun l v r _ _ k i => k i (.node l v r)) t k i
theorem forceA_eq (t : Tr Value) (k : Nat → Tr Value → Tr Value) (i : Nat) : forceA t k i = k i t := by cases t <;> rfl
def tmpsK (l : List Value) : Nat → Tr Value → Tr Value :=
  List.rec (motive := fun _ => Nat → Tr Value → Tr Value) (fun _ t => t) (fun v _ ih i t => forceA (setV (path i) v t) ih (Nat.succ i)) l
theorem tmpsK_eq : ∀ (l : List Value) (i : Nat) (t : Tr Value), tmpsK l i t = tmpsOf i l t
  | [], _, _ => rfl
  | v :: l, i, t => by
    show forceA (setV (path i) v t) (tmpsK l) (i + 1) = tmpsOf (i + 1) l (t.set i v)
    rw [forceA_eq, setV_path, tmpsK_eq l]

def maxK (a b : Nat) : Nat := Bool.rec a b (Nat.ble a b)
theorem maxK_eq (a b : Nat) : maxK a b = max a b := by
  unfold maxK
  cases h : Nat.ble a b with
  | true => have := Nat.le_of_ble_eq_true h; exact (Nat.max_eq_right this).symm
  | false =>
    have : ¬ a ≤ b := fun h2 => by rw [Nat.ble_eq_true_of_le h2] at h; cases h
    exact (Nat.max_eq_left (Nat.le_of_lt (Nat.lt_of_not_le this))).symm

def valsP (l : List Pa) (tm : Tr Value) : Option (List Value) :=
  List.rec (motive := fun _ => Tr Value → Option (List Value)) (fun _ => some []) (fun p _ ih tm => Option.rec (motive := fun _ => Option (List Value) → Option (List Value)) (fun _ => none) (fun v x => Option.rec (motive := fun _ => Value → Option (List Value)) (fun _ => none) (fun l v => some (v :: l)) x v) (getV p tm) (ih tm)) l tm
theorem valsP_eq (e : Env) (h : Hp) : ∀ (l : List ResultVar) (ps : List Pa), resP l = some ps → valsP ps e.tmps = resVals G e h l
  | [], ps, hp => by injection hp with hp; subst hp; rfl
  | .tmp t :: l, ps, hp => by
    obtain ⟨qs, hq, rfl⟩ := map_some hp
    have ih := valsP_eq e h l qs hq
    show (Option.rec (motive := fun _ => Option (List Value) → Option (List Value)) (fun _ => none) (fun v x => Option.rec (motive := fun _ => Value → Option (List Value)) (fun _ => none) (fun l v => some (v :: l)) x v) (getV (path t) e.tmps) (valsP qs e.tmps) : Option (List Value)) = _
    rw [getV_path, ih]
    simp only [resVals]
    cases e.tmps.get t with
    | none => rfl
    | some v => cases resVals G e h l <;> rfl
  | .cell a t :: l, ps, hp => by cases hp

def oneK (l : List Value) : Value := List.rec (.tuple #[]) (fun v r _ => List.rec (motive := fun _ => Value → Value) (fun v => v) (fun w r _ v => .tuple ⟨v :: w :: r⟩) r v) l
theorem oneK_eq (l : List Value) : oneK l = resVal l := by
  match l with
  | [] => rfl
  | [v] => rfl
  | v :: w :: r => rfl

/-- what comes behind the body of a function -/
def tailC (r : Ev) (fn : Func) (x : Ex × Env × Hp) : Option (Out × Hp) :=
    match x with
    | (.normal, e, h) | (.ret, e, h) => (leave G r e.defers .nothing h).bind fun (rc, h) =>
      match rc with
      | .nothing => (resVals G e h fn.results.toList).map fun l => (.ret (resVal l), h)
      | _ => none
    | (.pan ch, e, h) =>
      match ch with
      | [⟨v, false, false⟩] => (leave G r e.defers (.avail v) h).bind fun (rc, h) =>
        match rc with
        | .nothing => (resVals G e h fn.results.toList).map fun l => (.ret (resVal l), h)
        | .avail v => some (.pan [⟨v, false, false⟩], h)
        | .taken => none
      | _ => none
    | _ => none

def retK (l : Option (List Value)) (h : Hp) : Option (Out × Hp) := Option.rec (motive := fun _ => Hp → Option (Out × Hp)) (fun _ => none) (fun l h => some (.ret (oneK l), h)) l h
abbrev Ft := KE → FuncId → Func → Nat → List Deferred → Tr Value → Hp → Option (Out × Hp)
def finS : Ft := fun r f fn n ds tm h => tailC G r.ev fn (.normal, ⟨f, tm, n, ds⟩, h)
def finP (ps : List Pa) : Ft := fun _ _ _ _ _ tm h => retK (valsP ps tm) h
def finK (res : Option (List Pa)) (ds : List Deferred) : Ft :=
  List.rec (motive := fun _ => Option (List Pa) → Ft) (fun res => Option.rec (motive := fun _ => Ft) (finS G) finP res) (fun _ _ _ _ => finS G) ds res
def finR (x : KR) (r : KE) (f : FuncId) (fn : Func) (res : Option (List Pa)) : Option (Out × Hp) :=
  KR.rec (motive := fun _ => KE → FuncId → Func → Option (List Pa) → Option (Out × Hp)) (fun _ _ _ _ => none) (fun n ds tm h r f fn res => finK G res ds r f fn n ds tm h) (fun _ _ _ _ _ _ _ _ _ => none)
    (fun n ds tm h r f fn res => finK G res ds r f fn n ds tm h) (fun ch e h r _ fn _ => tailC G r.ev fn (.pan ch, e, h)) x r f fn res
def body1 (k : KF) (r : KE) (f : FuncId) (args : List Value) (h : Hp) (n : Nat) : Option (Out × Hp) :=
  finR G (runK G k.code r f n [] (tmpsK args 0 .nil) h) r f k.fn k.res
def bodyN (n : Nat) (k : KF) (r : KE) (f : FuncId) (args : List Value) (h : Hp) : Option (Out × Hp) :=
  Nat.rec (motive := fun _ => KF → KE → FuncId → List Value → Hp → Option (Out × Hp)) (fun k r f args h => body1 G k r f args h 0) (fun m _ k r f args h => body1 G k r f args h (Nat.succ m)) n k r f args h
theorem bodyN_eq (n : Nat) (k : KF) (r : KE) (f : FuncId) (args : List Value) (h : Hp) : bodyN G n k r f args h = body1 G k r f args h n := by cases n <;> rfl
def bodyK (r : KE) (f : FuncId) (args : List Value) (h : Hp) (k : KF) : Option (Out × Hp) := bodyN G (maxK k.ntmps (lenR args)) k r f args h

def retV (x : Option (Value × Hp)) : Option (Out × Hp) := Option.rec none (fun vh => Prod.rec (fun v h => some (.ret v, h)) vh) x
def callK (r : KE) (f : FuncId) (args : List Value) (h : Hp) : Option (Out × Hp) :=
  Option.rec (motive := fun _ => KE → FuncId → List Value → Hp → Option (Out × Hp))
    (fun r f args h => Option.rec (motive := fun _ => KE → FuncId → List Value → Hp → Option (Out × Hp)) (fun _ _ _ _ => none) (fun k r f args h => bodyK G r f args h k) (kfn G f) r f args h)
    (fun s _ _ args h => retV (s args h)) (G.spec f) r f args h

theorem tailC_norm (r : Ev) (fn : Func) (f : FuncId) (n : Nat) (tm : Tr Value) (h : Hp) : tailC G r fn (.normal, ⟨f, tm, n, []⟩, h) = (resVals G ⟨f, tm, n, []⟩ h fn.results.toList).map fun l => (.ret (resVal l), h) := rfl
theorem tailC_ret (r : Ev) (fn : Func) (e : Env) (h : Hp) : tailC G r fn (.ret, e, h) = tailC G r fn (.normal, e, h) := rfl

theorem resVals_env (f : FuncId) (tm : Tr Value) (n : Nat) (ds : List Deferred) (h : Hp) : ∀ l : List ResultVar, resVals G ⟨f, tm, n, ds⟩ h l = resVals G ⟨f, tm, n, []⟩ h l
  | [] => rfl
  | .tmp t :: r => by simp only [resVals, resVals_env f tm n ds h r]
  | .cell a t :: r => by simp only [resVals, resVals_env f tm n ds h r]

theorem finK_ok {r : KE} {f : FuncId} {fn : Func} {n : Nat} {ds : List Deferred} {tm : Tr Value} {h : Hp} {y : Out × Hp}
    (hs : finK G (resP fn.results.toList) ds r f fn n ds tm h = some y) : tailC G r.ev fn (.normal, ⟨f, tm, n, ds⟩, h) = some y := by
  cases ds with
  | cons d ds => exact hs
  | nil =>
    have hs : (Option.rec (motive := fun _ => Ft) (finS G) finP (resP fn.results.toList) : Ft) r f fn n [] tm h = some y := hs
    cases hp : resP fn.results.toList with
    | none => rw [hp] at hs; exact hs
    | some ps =>
      rw [hp] at hs
      have hs : retK (valsP ps tm) h = some y := hs
      have e1 := valsP_eq G ⟨f, tm, n, []⟩ h fn.results.toList ps hp
      rw [e1] at hs
      rw [tailC_norm]
      cases hv : resVals G ⟨f, tm, n, []⟩ h fn.results.toList with
      | none => rw [hv] at hs; cases hs
      | some l => rw [hv] at hs; rw [Option.map_some, ← oneK_eq]; exact hs

/-- code by the twin, in the evaluator's form -/
def codeK (r : KE) (c : Code) (e : Env) (h : Hp) : Option (Ex × Env × Hp) := (runK G (kc G e.fn c) r e.fn e.n e.defers e.tmps h).to e.fn

theorem callK_ok {r : KE} {f : FuncId} {args : List Value} {h : Hp} {y : Out × Hp} (hs : callK G r f args h = some y) : callStep G ⟨codeK G r, r.ev.call, r.ev.dcode⟩ f args h = some y := by
  unfold callK at hs
  unfold callStep
  cases hsp : G.spec f with
  | some s =>
    rw [hsp] at hs
    have hs : retV (s args h) = some y := hs
    simp only
    cases hv : s args h with
    | none => rw [hv] at hs; cases hs
    | some vh => rw [hv] at hs; exact hs
  | none =>
    rw [hsp] at hs
    have hs : (Option.rec (motive := fun _ => KE → FuncId → List Value → Hp → Option (Out × Hp)) (fun _ _ _ _ => none) (fun k r f args h => bodyK G r f args h k) (kfn G f) r f args h : Option (Out × Hp)) = some y := hs
    simp only
    unfold kfn at hs
    cases hfn : G.fn f with
    | none => rw [hfn] at hs; cases hs
    | some fn =>
      rw [hfn] at hs
      simp only at hs
      rw [Option.bind_some]
      cases hb : fn.body with
      | none => rw [hb] at hs; cases hs
      | some c =>
        rw [hb] at hs
        simp only at hs
        rw [Option.bind_some]
        have hs : bodyK G r f args h ⟨kc G f c, c, fn, fn.ntmps, resP fn.results.toList⟩ = some y := hs
        unfold bodyK at hs
        rw [bodyN_eq, maxK_eq, lenR_eq] at hs
        unfold body1 at hs
        rw [tmpsK_eq] at hs
        simp only at hs
        show (codeK G r c ⟨f, tmpsOf 0 args .nil, max fn.ntmps args.length, []⟩ h).bind (tailC G ⟨codeK G r, r.ev.call, r.ev.dcode⟩ fn) = some y
        have htail : ∀ x, tailC G ⟨codeK G r, r.ev.call, r.ev.dcode⟩ fn x = tailC G r.ev fn x := by
          have hl : ∀ ds rc h, leave G ⟨codeK G r, r.ev.call, r.ev.dcode⟩ ds rc h = leave G r.ev ds rc h := by
            intro ds
            induction ds with
            | nil => intro rc h; rfl
            | cons d ds ih => intro rc h; simp only [leave, ih]; rfl
          intro x
          obtain ⟨ex, e, h⟩ := x
          cases ex <;> simp only [tailC, hl]
        show ((runK G (kc G f c) r f (max fn.ntmps args.length) [] (tmpsOf 0 args Tr.nil) h).to f).bind (tailC G ⟨codeK G r, r.ev.call, r.ev.dcode⟩ fn) = some y
        generalize hq : runK G (kc G f c) r f (max fn.ntmps args.length) [] (tmpsOf 0 args Tr.nil) h = q at hs
        cases q with
        | fail => cases hs
        | norm n ds tm h1 =>
          show tailC G ⟨codeK G r, r.ev.call, r.ev.dcode⟩ fn (.normal, ⟨f, tm, n, ds⟩, h1) = some y
          rw [htail]
          exact finK_ok G hs
        | ex id n ds tm h1 => cases hs
        | ret n ds tm h1 =>
          show tailC G ⟨codeK G r, r.ev.call, r.ev.dcode⟩ fn (.ret, ⟨f, tm, n, ds⟩, h1) = some y
          rw [htail, tailC_ret]
          exact finK_ok G hs
        | pan ch e h1 =>
          show tailC G ⟨codeK G r, r.ev.call, r.ev.dcode⟩ fn (.pan ch, e, h1) = some y
          rw [htail]
          exact hs

def kstep (r : KE) : KE := ⟨⟨codeK G r, callK G r, dcodeStep G r.ev⟩, fun k => runK G k r⟩
def kbot : KE := ⟨Ev.bot, fun _ _ _ _ _ _ => .fail⟩
def kev (n : Nat) : KE := Nat.rec kbot (fun _ r => kstep G r) n
end

section
variable {G : Tabs} {P : Program}

/-- what is known of code that is run by the twin -/
def RunP (G : Tabs) (P : Program) (fn : FuncId) (c : Code) (f : Nat → List Deferred → Tr Value → Hp → KR) : Prop :=
  ∀ n ds tm h x, (f n ds tm h).to fn = some x → codeOk G fn c = true →
    x.2.1.fn = fn ∧ h.next ≤ x.2.2.next ∧ ∀ B, x.2.2.next ≤ B → CodeOK P B c ⟨fn, tm, n, ds⟩ h x.1 x.2.1 x.2.2
def RoundP (G : Tabs) (P : Program) (fn : FuncId) (b : Code) (f : Nat → List Deferred → Tr Value → Hp → KR) : Prop :=
  ∀ n ds tm h x, (f n ds tm h).to fn = some x → codeOk G fn b = true →
    x.2.1.fn = fn ∧ h.next ≤ x.2.2.next ∧ ∀ B, x.2.2.next ≤ B →
    ∃ k, ∀ (M : Mp) (a : Act) (w : World) (Q : Exit → Act → World → Prop), EnvR M ⟨fn, tm, n, ds⟩ a → HR B M h w →
      (∀ M' a' w' x', Ext M h w M' x.2.2 w' → HR B M' x.2.2 w' → EndR M' x.1 x.2.1 a' → ExR M' x.1 x' → Q x' a' w') → Code.rounds P b Q k a w

structure GoodK (G : Tabs) (P : Program) (r : KE) : Prop where
  run : ∀ fn c, RunP G P fn c (r.run (kc G fn c) fn)
  loop : ∀ fn b, RoundP G P fn b (r.run (kc G fn (.loop b)) fn)
  call : CallOK P r.ev.call
  code : CodeP G P r.ev
  dcode : DCodeP G P r.ev
  loopE : LoopP G P r.ev

theorem RunP.seq {fn : FuncId} {p q : Code} {fa fb : KE → FuncId → Nat → List Deferred → Tr Value → Hp → KR} {r : KE} (ha : RunP G P fn p (fa r fn)) (hb : RunP G P fn q (fb r fn)) :
    RunP G P fn (.seq p q) (seqK fa fb r fn) := by
  intro n ds tm h x hs hk
  simp only [codeOk, Bool.and_eq_true] at hk
  unfold seqK at hs
  have ha := ha n ds tm h
  generalize fa r fn n ds tm h = y at hs ha
  cases y with
  | fail => cases hs
  | norm n1 ds1 tm1 h1 =>
    obtain ⟨f1, f2, f3⟩ := ha _ rfl hk.1
    obtain ⟨g1, g2, g3⟩ := hb n1 ds1 tm1 h1 x hs hk.2
    simp only at f1 f2 f3
    refine ⟨g1, Nat.le_trans f2 g2, fun B hB M a w Q he H hQ => wp_seq ?_⟩
    refine f3 B (Nat.le_trans g2 hB) M a w _ he H fun M1 a1 w1 x1 E1 H1 V1 X1 => ?_
    rw [X1.normal_inv]
    exact g3 B hB M1 a1 w1 Q V1 H1 fun M2 a2 w2 x2 E2 H2 V2 X2 => hQ M2 a2 w2 x2 (E1.trans E2) H2 V2 X2
  | _ =>
    injection hs with hs; subst hs
    obtain ⟨f1, f2, f3⟩ := ha _ rfl hk.1
    refine ⟨f1, f2, fun B hB M a w Q he H hQ => wp_seq ?_⟩
    refine f3 B hB M a w _ he H fun M1 a1 w1 x1 E1 H1 V1 X1 => ?_
    have := hQ M1 a1 w1 x1 E1 H1 V1 X1
    cases X1; exact this

theorem RunP.cond {fn : FuncId} {c : Operand} {p q : Code} {fa fb : KE → FuncId → Nat → List Deferred → Tr Value → Hp → KR} {r : KE} (ha : RunP G P fn p (fa r fn)) (hb : RunP G P fn q (fb r fn)) :
    RunP G P fn (.cond c p q) (condK (ko c) fa fb r fn) := by
  intro n ds tm h x hs hk
  simp only [codeOk, Bool.and_eq_true] at hk
  unfold condK at hs
  have hv := ko_val c ⟨fn, tm, n, ds⟩
  simp only at hv
  rw [hv] at hs
  cases ht : asBoolB (Env.opd ⟨fn, tm, n, ds⟩ c) some with
  | none => rw [ht] at hs; cases hs
  | some t =>
    rw [ht] at hs
    obtain ⟨t', ht1, ht2⟩ := asBoolB_inv ht
    injection ht2 with ht2; subst ht2
    have hs : ((Bool.rec (motive := fun _ => Ct → Ct → Ct) (fun _ b => b) (fun a _ => a) t' fa fb : Ct) r fn n ds tm h).to fn = some x := hs
    have key : x.2.1.fn = fn ∧ h.next ≤ x.2.2.next ∧ ∀ B, x.2.2.next ≤ B → CodeOK P B (if t' then p else q) ⟨fn, tm, n, ds⟩ h x.1 x.2.1 x.2.2 := by
      cases t' with
      | true => exact ha n ds tm h x hs hk.1.2
      | false => exact hb n ds tm h x hs hk.2
    obtain ⟨f1, f2, f3⟩ := key
    refine ⟨f1, f2, fun B hB M a w Q he H hQ => ?_⟩
    have hc := he.opd hk.1.1
    rw [ht1] at hc
    exact wp_cond hc.bool_inv (f3 B hB M a w Q he H hQ)

theorem RunP.block {fn : FuncId} {id : Nat} {b : Code} {fb : KE → FuncId → Nat → List Deferred → Tr Value → Hp → KR} {r : KE} (hb : RunP G P fn b (fb r fn)) :
    RunP G P fn (.block id b) (blockK id fb r fn) := by
  intro n ds tm h x hs hk
  simp only [codeOk] at hk
  unfold blockK at hs
  have hb := hb n ds tm h
  generalize fb r fn n ds tm h = y at hs hb
  cases y with
  | fail => cases hs
  | ex id' n1 ds1 tm1 h1 =>
    obtain ⟨f1, f2, f3⟩ := hb _ rfl hk
    simp only at f1 f2 f3
    have hs : (Bool.rec (motive := fun _ => Nat → Nat → List Deferred → Tr Value → Hp → KR) (fun id' n ds tm h => .ex id' n ds tm h) (fun _ n ds tm h => .norm n ds tm h) (Nat.beq id' id) id' n1 ds1 tm1 h1 : KR).to fn = some x := hs
    cases hq : Nat.beq id' id with
    | true =>
      have hid := Nat.eq_of_beq_eq_true hq
      rw [hq] at hs
      injection hs with hs; subst hs
      refine ⟨rfl, f2, fun B hB M a w Q he H hQ => wp_block ?_⟩
      refine f3 B hB M a w _ he H fun M1 a1 w1 x1 E1 H1 V1 X1 => ?_
      have := hQ M1 a1 w1 .normal E1 H1 V1 .normal
      cases X1
      simp only [Exit.inBlock, hid, if_true]
      exact this
    | false =>
      have hid := Nat.ne_of_beq_eq_false hq
      rw [hq] at hs
      injection hs with hs; subst hs
      refine ⟨rfl, f2, fun B hB M a w Q he H hQ => wp_block ?_⟩
      refine f3 B hB M a w _ he H fun M1 a1 w1 x1 E1 H1 V1 X1 => ?_
      have := hQ M1 a1 w1 x1 E1 H1 V1 X1
      cases X1
      simp only [Exit.inBlock, hid, if_false]
      exact this
  | _ =>
    injection hs with hs; subst hs
    obtain ⟨f1, f2, f3⟩ := hb _ rfl hk
    refine ⟨f1, f2, fun B hB M a w Q he H hQ => wp_block ?_⟩
    refine f3 B hB M a w _ he H fun M1 a1 w1 x1 E1 H1 V1 X1 => ?_
    have := hQ M1 a1 w1 x1 E1 H1 V1 X1
    cases X1; exact this

theorem RoundP.loop {fn : FuncId} {b : Code} {fb : KE → FuncId → Nat → List Deferred → Tr Value → Hp → KR} {r : KE} {k : K} (hb : RunP G P fn b (fb r fn)) (hl : RoundP G P fn b (r.run (.loop k b) fn)) :
    RoundP G P fn b (loopK k b fb r fn) := by
  intro n ds tm h x hs hk
  unfold loopK at hs
  have hb := hb n ds tm h
  generalize fb r fn n ds tm h = y at hs hb
  cases y with
  | fail => cases hs
  | norm n1 ds1 tm1 h1 =>
    obtain ⟨f1, f2, f3⟩ := hb _ rfl hk
    simp only at f1 f2 f3
    obtain ⟨g1, g2, g3⟩ := hl n1 ds1 tm1 h1 x hs hk
    refine ⟨g1, Nat.le_trans f2 g2, fun B hB => ?_⟩
    obtain ⟨k, hk2⟩ := g3 B hB
    refine ⟨k + 1, fun M a w Q he H hQ => ?_⟩
    rw [rounds_succ]
    refine f3 B (Nat.le_trans g2 hB) M a w _ he H fun M1 a1 w1 x1 E1 H1 V1 X1 => ?_
    rw [X1.normal_inv]
    exact hk2 M1 a1 w1 Q V1 H1 fun M2 a2 w2 x2 E2 H2 V2 X2 => hQ M2 a2 w2 x2 (E1.trans E2) H2 V2 X2
  | _ =>
    injection hs with hs; subst hs
    obtain ⟨f1, f2, f3⟩ := hb _ rfl hk
    refine ⟨f1, f2, fun B hB => ⟨1, fun M a w Q he H hQ => ?_⟩⟩
    rw [rounds_succ]
    refine f3 B hB M a w _ he H fun M1 a1 w1 x1 E1 H1 V1 X1 => ?_
    have := hQ M1 a1 w1 x1 E1 H1 V1 X1
    cases X1; exact this

theorem RoundP.run {fn : FuncId} {b : Code} {f : Nat → List Deferred → Tr Value → Hp → KR} (h : RoundP G P fn b f) : RunP G P fn (.loop b) f := by
  intro n ds tm hp x hs hk
  simp only [codeOk] at hk
  obtain ⟨f1, f2, f3⟩ := h n ds tm hp x hs hk
  refine ⟨f1, f2, fun B hB M a w Q he H hQ => ?_⟩
  obtain ⟨k, hk2⟩ := f3 B hB
  exact wp_loop_rounds k (hk2 M a w Q he H hQ)

theorem runK_ok (hG : G.Fits3 P) {r : KE} (hr : GoodK G P r) (fn : FuncId) : ∀ c, RunP G P fn c (runK G (kc G fn c) r fn) ∧ ∀ b, c = .loop b → RoundP G P fn b (runK G (kc G fn c) r fn) := by
  have basic : ∀ c, (∀ b, c ≠ .loop b) → RunP G P fn c (runK G (kc G fn c) r fn) → RunP G P fn c (runK G (kc G fn c) r fn) ∧ ∀ b, c = .loop b → RoundP G P fn b (runK G (kc G fn c) r fn) :=
    fun c hc h => ⟨h, fun b hb => absurd hb (hc b)⟩
  have slow : ∀ c, RunP G P fn c (fun n ds tm h => ofK (codeStep G r.ev c ⟨fn, tm, n, ds⟩ h)) := by
    intro c n ds tm h x hs hk
    have hc : CodeP G P (Ev.step G r.ev) := (codeStep_sound hG hr.call hr.code hr.loopE).1
    have h1 := ofK_to (fn := fn) (fun z hz => (hc c ⟨fn, tm, n, ds⟩ h z hz hk).1) hs
    exact hc c ⟨fn, tm, n, ds⟩ h x h1 hk
  intro c
  induction c with
  | skip =>
    refine basic _ (by intro b; simp) fun n ds tm h x hs hk => ?_
    injection hs with hs; subst hs
    exact ⟨rfl, Nat.le_refl _, fun B _ M a w Q he H hQ => wp_skip (hQ M a w .normal (Ext.refl _ _ _) H he .normal)⟩
  | label l =>
    refine basic _ (by intro b; simp) fun n ds tm h x hs hk => ?_
    injection hs with hs; subst hs
    exact ⟨rfl, Nat.le_refl _, fun B _ M a w Q he H hQ => wp_label (hQ M a w .normal (Ext.refl _ _ _) H he .normal)⟩
  | exit id =>
    refine basic _ (by intro b; simp) fun n ds tm h x hs hk => ?_
    injection hs with hs; subst hs
    exact ⟨rfl, Nat.le_refl _, fun B _ M a w Q he H hQ => wp_exit (hQ M a w (.exit id) (Ext.refl _ _ _) H he (.exit id))⟩
  | ret =>
    refine basic _ (by intro b; simp) fun n ds tm h x hs hk => ?_
    injection hs with hs; subst hs
    exact ⟨rfl, Nat.le_refl _, fun B _ M a w Q he H hQ => wp_ret (hQ M a w .ret (Ext.refl _ _ _) H he .ret)⟩
  | seq p q hp hq => exact basic _ (by intro b; simp) (RunP.seq hp.1 hq.1)
  | cond c p q hp hq => exact basic _ (by intro b; simp) (RunP.cond hp.1 hq.1)
  | block id b hb => exact basic _ (by intro b; simp) (RunP.block hb.1)
  | loop b hb =>
    have : RoundP G P fn b (runK G (kc G fn (.loop b)) r fn) := RoundP.loop (k := kc G fn b) hb.1 (hr.loop fn b)
    exact ⟨this.run, fun b' e => by injection e with e; subst e; exact this⟩
  | region id ops draw =>
    refine basic _ (by intro b; simp) ?_
    cases draw with
    | true => exact slow _
    | false =>
      intro n ds tm h x hs hk
      simp only [codeOk, Bool.and_eq_true] at hk
      have hs : (rowsK G (kws G ops ops.toList) r.ev fn n ds tm h).to fn = some x := hs
      have h1 := rowsK_ok G ops r.ev fn ops.toList n ds tm h x hs
      obtain ⟨f1, f2, f3⟩ := CodeOK.region (P := P) (B := x.2.2.next) (id := id) hG.toFits2 hr.call hk.1 h1
      exact ⟨f1, f2, fun B hB => (CodeOK.region (P := P) (B := B) (id := id) hG.toFits2 hr.call hk.1 h1).2.2 hB⟩
  | rangeFunc f ps a b _ _ => exact basic _ (by intro b; simp) (slow _)
  | scope b _ => exact basic _ (by intro b; simp) (slow _)
  | goto l => exact basic _ (by intro b; simp) (slow _)
  | refuse s => exact basic _ (by intro b; simp) (slow _)

theorem codeK_ok (hG : G.Fits3 P) {r : KE} (hr : GoodK G P r) : ∀ c e h x, codeK G r c e h = some x → codeOk G e.fn c = true →
    x.2.1.fn = e.fn ∧ h.next ≤ x.2.2.next ∧ ∀ B, x.2.2.next ≤ B → CodeOK P B c e h x.1 x.2.1 x.2.2 := by
  intro c e h x hs hk
  obtain ⟨fn, tm, n, ds⟩ := e
  exact (runK_ok hG hr fn c).1 n ds tm h x hs hk

theorem GoodK.step (hG : G.Fits3 P) {r : KE} (hr : GoodK G P r) : GoodK G P (kstep G r) := by
  refine ⟨fun fn c => (runK_ok hG hr fn c).1, fun fn b => (runK_ok hG hr fn (.loop b)).2 b rfl, ?_, codeK_ok hG hr, dcodeStep_sound hG hr.call hr.code hr.dcode, ?_⟩
  · have hc : CallOK P (Ev.step G ⟨codeK G r, r.ev.call, r.ev.dcode⟩).call := callStep_sound hG (codeK_ok hG hr) hr.dcode
    exact ⟨fun f args h out h1 hs => hc.1 f args h out h1 (callK_ok G hs), fun f args h out h1 hs => hc.2 f args h out h1 (callK_ok G hs)⟩
  · intro b e h x hs hk B hB
    obtain ⟨fn, tm, n, ds⟩ := e
    exact ((runK_ok hG hr fn (.loop b)).2 b rfl n ds tm h x hs hk).2.2 B hB

theorem kev_good (hG : G.Fits3 P) (n : Nat) : GoodK G P (kev G n) := by
  induction n with
  | zero =>
    refine ⟨fun fn c n ds tm h x hs => ?_, fun fn c n ds tm h x hs => ?_, ⟨fun f args h out h1 hs => ?_, fun f args h out h1 hs => ?_⟩, fun c e h x hs => ?_, fun c e h rc x hs => ?_, fun b e h x hs => ?_⟩ <;> cases hs
  | succ n ih => exact ih.step hG

theorem kev_call (hG : G.Fits3 P) (n : Nat) : CallOK P (kev G n).ev.call := (kev_good hG n).call

/-- a call that is worked out from nothing, at any world -/
theorem kev_closed (hG : G.Fits3 P) {n : Nat} {f : FuncId} {out : Out} {h1 : Hp} {args : List Value} (hsp : G.spec f = none) (ha : LR (fun _ => none) args args)
    (hs : (kev G (n + 1)).ev.call f args ⟨fun _ => none, .nil, 0⟩ = some (out, h1)) (w : World) :
    Calls P f args.toArray w fun e w' => (∃ M', OutR M' out e) ∧ w'.os = w.os ∧ w'.tape = w.tape ∧ w'.output = w.output ∧ w.heap.size ≤ w'.heap.size ∧ ∀ k, k < w.heap.size → w'.heap[k]? = w.heap[k]? := by
  have hr := kev_good hG n
  have h2 := callK_ok G hs
  obtain ⟨_, g1, g2⟩ := callStep_calls (P := P) (r := ⟨codeK G (kev G n), (kev G n).ev.call, (kev G n).ev.dcode⟩) hG (codeK_ok hG hr) hr.dcode hsp h2
  have hw : HR h1.next (fun _ => none) ⟨fun _ => none, .nil, 0⟩ w := by
    refine ⟨fun id _ => rfl, fun id p h => ?_, fun id p h => ?_, fun i j p q o o' h => ?_, fun id p o h => ?_⟩ <;> cases h
  refine (g2 h1.next (Nat.le_refl _) _ w args.toArray (by simpa using ha) hw).mono fun e w' hh => ?_
  obtain ⟨M', E, H, hO⟩ := hh
  refine ⟨⟨M', hO⟩, E.os, E.tape, E.out, E.size, fun k hk => E.keep k hk ?_⟩
  rintro ⟨id, p, o, h, _⟩
  cases h

end
end
end Go.AE
