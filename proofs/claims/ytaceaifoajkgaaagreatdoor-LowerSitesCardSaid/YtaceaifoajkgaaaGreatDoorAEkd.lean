/- A twin of the evaluator for the kernel, fourth part: code. -/
import Derived.Test.YtaceaifoajkgaaaGreatDoorAEkc
namespace Go.AE
noncomputable section

inductive KG where
  | always
  | ifp (p : Pa) (want : Bool)
  | never
inductive KD where
  | no
  | at (d : Nat) (p : Pa)
inductive KW where
  | pl (i : KI) (d : KD) (o : Oper)
  | gd (p : Pa) (want : Bool) (i : KI) (d : KD) (o : Oper)
  | no (d : KD)
inductive K where
  | skip
  | rows (l : List KW)
  | seq (a b : K)
  | cond (c : KO) (a b : K)
  | block (id : Nat) (b : K)
  | loop (b : K) (c : Code)
  | exit (id : Nat)
  | ret
  | slow (c : Code)

def kg (all : Array Oper) (o : Oper) : KG :=
  match o.guard with
  | none => .always
  | some (j, want) => match ((all[j]?).bind (·.dst)) with
    | some d => .ifp (path d) want
    | none => .never
def kd (d : Option Tmp) : KD :=
  match d with
  | some d => .at d (path d)
  | none => .no

section
variable (G : Tabs)

def kw (all : Array Oper) (o : Oper) : KW :=
  match kg all o with
  | .always => .pl (ki G o.op) (kd o.dst) o
  | .ifp p want => .gd p want (ki G o.op) (kd o.dst) o
  | .never => .no (kd o.dst)
def kws (all : Array Oper) (l : List Oper) : List KW := List.rec [] (fun o _ ih => kw G all o :: ih) l

def listA (a : Array Oper) : List Oper := Array.rec (fun l => l) a
def kc (_fn : FuncId) (c : Code) : K :=
  @Code.rec (fun _ => K) .skip (fun id ops draw => Bool.rec (.rows (kws G ops (listA ops))) (.slow (.region id ops true)) draw) (fun _ _ a b => .seq a b)
    (fun c _ _ a b => .cond (ko c) a b) (fun id _ b => .block id b) (fun c b => .loop b c) (fun f ps a b _ _ => .slow (.rangeFunc f ps a b)) (fun id => .exit id)
    (fun b _ => .slow (.scope b)) (fun _ => .skip) (fun l => .slow (.goto l)) .ret (fun s => .slow (.refuse s)) c

def appK {α : Type} (l m : List α) : List α := List.rec m (fun x _ ih => x :: ih) l
theorem appK_eq {α : Type} (l m : List α) : appK l m = l ++ m := by
  induction l with
  | nil => rfl
  | cons x r ih => show x :: appK r m = _; rw [ih]; rfl

def forceK (t : Tr Value) (k : Tr Value → KR) : KR := Tr.rec (motive := fun _ => (Tr Value → KR) → KR) (fun k => k .nil) (fun l v r _ _ k => k (.node l v r)) t k
theorem forceK_eq (t : Tr Value) (k : Tr Value → KR) : forceK t k = k t := by cases t <;> rfl
def putK (d : KD) (n : Nat) (v : Value) (tm : Tr Value) (k : Tr Value → KR) : KR :=
  KD.rec (motive := fun _ => Nat → Value → Tr Value → (Tr Value → KR) → KR) (fun _ _ tm k => k tm)
    (fun d p n v tm k => Bool.rec (motive := fun _ => Pa → Value → Tr Value → (Tr Value → KR) → KR) (fun _ _ tm k => k tm) (fun p v tm k => forceK (setV p v tm) k) (Nat.ble (Nat.succ d) n) p v tm k) d n v tm k
theorem putK_eq (d : Option Tmp) (fn : FuncId) (n : Nat) (ds : List Deferred) (v : Value) (tm : Tr Value) (k : Tr Value → KR) : putK (kd d) n v tm k = k (Env.put ⟨fn, tm, n, ds⟩ d v).tmps := by
  cases d with
  | none => rfl
  | some d =>
    show (Bool.rec (motive := fun _ => Pa → Value → Tr Value → (Tr Value → KR) → KR) (fun _ _ tm k => k tm) (fun p v tm k => forceK (setV p v tm) k) (Nat.ble (d + 1) n) (path d) v tm k : KR) = _
    rw [nble]
    simp only [Env.put]
    by_cases h : d < n
    · rw [if_pos h, decide_eq_true (show d + 1 ≤ n from h)]
      show forceK (setV (path d) v tm) k = _
      rw [forceK_eq, setV_path]
    · rw [if_neg h, decide_eq_false (show ¬ d + 1 ≤ n from h)]
theorem put_env (d : Option Tmp) (fn : FuncId) (n : Nat) (ds : List Deferred) (v : Value) (tm : Tr Value) : Env.put ⟨fn, tm, n, ds⟩ d v = ⟨fn, (Env.put ⟨fn, tm, n, ds⟩ d v).tmps, n, ds⟩ := by
  cases d with
  | none => rfl
  | some d => simp only [Env.put]; split <;> rfl

def guard1 (want b : Bool) : Option Bool := Bool.rec (motive := fun _ => Bool → Option Bool) (fun w => some (notK w)) (fun w => some w) b want
def guardB (v : Value) (want : Bool) : Bool :=
  Option.rec false (fun b => b) (asBoolB v (guard1 want))
def gateK (v : Value) (want : Bool) (yes no : KR) : KR := Bool.rec (motive := fun _ => KR → KR → KR) (fun _ n => n) (fun y _ => y) (guardB v want) yes no
theorem gateK_eq {all : Array Oper} {o : Oper} {p : Pa} {want : Bool} (hk : kg all o = .ifp p want) (fn : FuncId) (n : Nat) (ds : List Deferred) (tm : Tr Value) (yes no : KR) :
    gateK (KO.val (.t p) tm) want yes no = bif wantedA all ⟨fn, tm, n, ds⟩ o then yes else no := by
  unfold kg at hk
  unfold wantedA
  split at hk
  · cases hk
  · rename_i j want' h
    rw [h]
    simp only
    split at hk
    · rename_i d hd
      injection hk with hp hw
      subst hp; subst hw
      rw [hd]
      have hv : KO.val (ko (.tmp d)) tm = Env.val ⟨fn, tm, n, ds⟩ d := ko_val (.tmp d) ⟨fn, tm, n, ds⟩
      show gateK (KO.val (ko (.tmp d)) tm) want' yes no = bif (match Env.val ⟨fn, tm, n, ds⟩ d with | .bool b => b == want' | _ => false) then yes else no
      rw [hv]
      have key : ∀ q : Bool, (Bool.rec (motive := fun _ => KR → KR → KR) (fun _ n => n) (fun y _ => y) q yes no : KR) = bif q then yes else no := by intro q; cases q <;> rfl
      unfold gateK
      rw [key]
      congr 1
      cases Env.val ⟨fn, tm, n, ds⟩ d with
      | bool b => cases b <;> cases want' <;> rfl
      | _ => rfl
    · cases hk
theorem kg_always {all : Array Oper} {o : Oper} (hk : kg all o = .always) (e : Env) : wantedA all e o = true := by
  unfold kg at hk
  unfold wantedA
  split at hk
  · rename_i h; rw [h]
  · split at hk <;> cases hk
theorem kg_never {all : Array Oper} {o : Oper} (hk : kg all o = .never) (e : Env) : wantedA all e o = false := by
  unfold kg at hk
  unfold wantedA
  split at hk
  · cases hk
  · rename_i j want h
    rw [h]
    simp only
    split at hk
    · cases hk
    · rename_i hd; rw [hd]

def callR (ks : KR) (k : Value → Hp → KR) (y : Option (Out × Hp)) : KR :=
  Option.rec (motive := fun _ => KR → (Value → Hp → KR) → KR) (fun ks _ => ks)
    (fun oh ks k => Prod.rec (motive := fun _ => KR → (Value → Hp → KR) → KR) (fun out h ks k => Out.rec (motive := fun _ => Hp → KR → (Value → Hp → KR) → KR) (fun v h _ k => k v h) (fun _ _ ks _ => ks) out h ks k) oh ks k) y ks k
theorem callR_ok (ks : KR) (k : Value → Hp → KR) (y : Option (Out × Hp)) : callR ks k y = ks ∨ ∃ v h', y = some (.ret v, h') ∧ callR ks k y = k v h' := by
  cases y with
  | none => exact .inl rfl
  | some y =>
    obtain ⟨out, h'⟩ := y
    cases out with
    | ret v => exact .inr ⟨v, h', rfl, rfl⟩
    | pan ch => exact .inl rfl
def asFn (v : Value) (d : KR) (k : FuncId → Array Value → Array Value → KR) : KR :=
  @Value.rec (fun _ => KR → (FuncId → Array Value → Array Value → KR) → KR) (fun _ => Unit) (fun _ => Unit) (fun _ d _ => d) (fun _ _ d _ => d) (fun _ _ d _ => d) (fun _ _ _ d _ => d) (fun _ d _ => d) (fun _ d _ => d) (fun _ _ _ d _ => d) (fun _ d _ => d) (fun _ d _ => d) (fun f a b _ _ d k => Fn.rec (motive := fun _ => Array Value → Array Value → KR → (FuncId → Array Value → Array Value → KR) → KR) (fun f a b _ k => k f a b) (fun _ _ _ d _ => d) (fun _ _ _ _ d _ => d) (fun _ _ _ _ _ _ d _ => d) (fun _ _ _ d _ => d) f a b d k) (fun d _ => d) (fun _ _ _ d _ => d) (fun d _ => d) (fun _ _ d _ => d) (fun _ _ d _ => d) (fun _ _ => ()) () (fun _ _ _ _ => ()) v d k
theorem asFn_ok (v : Value) (d : KR) (k : FuncId → Array Value → Array Value → KR) : asFn v d k = d ∨ ∃ f a b, v = .func (.func f) a b ∧ asFn v d k = k f a b := by
  cases v with
  | func f a b => cases f <;> first | exact .inr ⟨_, _, _, rfl, rfl⟩ | exact .inl rfl
  | _ => exact .inl rfl

def hnew2 (b : Nat) (old : Nat → Option Ob) (tr : Tr Ob) (ob : Ob) (to : Nat → Value) (k : Value → Hp → KR) : KR := k (to b) (forceHp (setO (path b) ob tr) old (Nat.succ b))
def hnew1 (next : Nat) (old : Nat → Option Ob) (tr : Tr Ob) (ob : Ob) (to : Nat → Value) (k : Value → Hp → KR) : KR :=
  Nat.rec (motive := fun _ => (Nat → Option Ob) → Tr Ob → Ob → (Nat → Value) → (Value → Hp → KR) → KR) (fun old tr ob to k => hnew2 0 old tr ob to k) (fun m _ old tr ob to k => hnew2 (Nat.succ m) old tr ob to k) next old tr ob to k
def hnewK (h : Hp) (ob : Ob) (to : Nat → Value) (k : Value → Hp → KR) : KR :=
  Hp.rec (motive := fun _ => Ob → (Nat → Value) → (Value → Hp → KR) → KR) (fun old tr next ob to k => hnew1 next old tr ob to k) h ob to k
theorem hnewK_eq (h : Hp) (ob : Ob) (to : Nat → Value) (k : Value → Hp → KR) : hnewK h ob to k = k (to h.next) (h.new ob) := by
  obtain ⟨old, tr, next⟩ := h
  have : hnewK ⟨old, tr, next⟩ ob to k = hnew2 next old tr ob to k := by cases next <;> rfl
  rw [this]
  unfold hnew2
  rw [forceHp_eq, setO_path]; rfl

abbrev Kt := Value → Hp → KR
def optR (o : Option Value) (h : Hp) (k : Kt) (ks : KR) : KR := Option.rec (motive := fun _ => Hp → Kt → KR → KR) (fun _ _ ks => ks) (fun v h k _ => k v h) o h k ks
def optH (o : Option Hp) (k : Kt) (ks : KR) : KR := Option.rec (motive := fun _ => Kt → KR → KR) (fun _ ks => ks) (fun h k _ => k undef h) o k ks
def optN (o : Option New) (h : Hp) (k : Kt) (ks : KR) : KR :=
  Option.rec (motive := fun _ => Hp → Kt → KR → KR) (fun _ _ ks => ks) (fun n h k _ => New.rec (motive := fun _ => Hp → Kt → KR) (fun to ob h k => hnewK h ob to k) n h k) o h k ks
def fnR (l : List KO) (r : Ev) (tm : Tr Value) (h : Hp) (k : Kt) (ks : KR) (f : FuncId) (a b : Array Value) : KR := callR ks k (Ev.call r f (appK (listK a) (appK (valsK l tm) (listK b))) h)
def runMv (x : KO) (_ : Ev) (tm : Tr Value) (h : Hp) (k : Kt) (_ : KR) : KR := k (KO.val x tm) h
def runUn (f : Value → Option Value) (x : KO) (_ : Ev) (tm : Tr Value) (h : Hp) (k : Kt) (ks : KR) : KR := optR (f (KO.val x tm)) h k ks
def runBin (f : Value → Value → Option Value) (x y : KO) (_ : Ev) (tm : Tr Value) (h : Hp) (k : Kt) (ks : KR) : KR := optR (f (KO.val x tm) (KO.val y tm)) h k ks
def runTri (f : Value → Value → Value → Option Value) (x y z : KO) (_ : Ev) (tm : Tr Value) (h : Hp) (k : Kt) (ks : KR) : KR := optR (f (KO.val x tm) (KO.val y tm) (KO.val z tm)) h k ks
def runHp (f : Hp → Value → Option Value) (x : KO) (_ : Ev) (tm : Tr Value) (h : Hp) (k : Kt) (ks : KR) : KR := optR (f h (KO.val x tm)) h k ks
def runSt (f : Hp → Value → Value → Option Hp) (a x : KO) (_ : Ev) (tm : Tr Value) (h : Hp) (k : Kt) (ks : KR) : KR := optH (f h (KO.val a tm) (KO.val x tm)) k ks
def runNw (f : Value → Option New) (x : KO) (_ : Ev) (tm : Tr Value) (h : Hp) (k : Kt) (ks : KR) : KR := optN (f (KO.val x tm)) h k ks
def runCall (f : FuncId) (l : List KO) (r : Ev) (tm : Tr Value) (h : Hp) (k : Kt) (ks : KR) : KR := callR ks k (Ev.call r f (valsK l tm) h)
def runCallv (x : KO) (l : List KO) (r : Ev) (tm : Tr Value) (h : Hp) (k : Kt) (ks : KR) : KR := asFn (KO.val x tm) ks (fnR l r tm h k ks)
def KI.run (i : KI) (r : Ev) (tm : Tr Value) (h : Hp) (k : Kt) (ks : KR) : KR :=
  KI.rec (motive := fun _ => Ev → Tr Value → Hp → Kt → KR → KR) runMv runUn runBin runTri runHp runSt runNw runCall runCallv (fun _ _ _ _ ks => ks) i r tm h k ks

theorem opStep_s {r : Ev} {e : Env} {h : Hp} {o : Oper} {v : Value} (hs : sStep G e h o = some v) : opStep G r e h o = some (.val v h) := by
  unfold opStep; rw [hs]
theorem opStep_n {r : Ev} {e : Env} {h : Hp} {o : Oper} {n : New} (hs : sStep G e h o = none) (hn : nStep G e o = some n) : opStep G r e h o = some (.val (n.to h.next) (h.new n.ob)) := by
  unfold opStep; rw [hs, hn]
theorem opStep_e {r : Ev} {e : Env} {h : Hp} {o : Oper} (hs : sStep G e h o = none) (hn : nStep G e o = none) : opStep G r e h o = eStep G r e h o := by
  unfold opStep; rw [hs, hn]

theorem KI.run_ok {o : Oper} {i : KI} (hi : KI.Still G o.op i) (r : Ev) (e : Env) (h : Hp) (k : Value → Hp → KR) (ks : KR) :
    KI.run i r e.tmps h k ks = ks ∨ ∃ v h', opStep G r e h o = some (.val v h') ∧ KI.run i r e.tmps h k ks = k v h' := by
  have opt : ∀ (y : Option Value), optR y h k ks = ks ∨ ∃ v, y = some v ∧ optR y h k ks = k v h := by
    intro y
    cases y with
    | none => exact .inl rfl
    | some v => exact .inr ⟨v, rfl, rfl⟩
  cases i with
  | mv x => exact .inr ⟨_, _, opStep_s G (hi o e h rfl), rfl⟩
  | un f x =>
    rcases opt (f (x.val e.tmps)) with hh | ⟨v, h1, h2⟩
    · exact .inl hh
    · exact .inr ⟨v, h, opStep_s G (hi o e h v rfl h1), h2⟩
  | bin f x y =>
    rcases opt (f (x.val e.tmps) (y.val e.tmps)) with hh | ⟨v, h1, h2⟩
    · exact .inl hh
    · exact .inr ⟨v, h, opStep_s G (hi o e h v rfl h1), h2⟩
  | tri f x y z =>
    rcases opt (f (x.val e.tmps) (y.val e.tmps) (z.val e.tmps)) with hh | ⟨v, h1, h2⟩
    · exact .inl hh
    · exact .inr ⟨v, h, opStep_s G (hi o e h v rfl h1), h2⟩
  | hp f x =>
    rcases opt (f h (x.val e.tmps)) with hh | ⟨v, h1, h2⟩
    · exact .inl hh
    · exact .inr ⟨v, h, opStep_s G (hi o e h v rfl h1), h2⟩
  | st f a x =>
    show optH (f h (a.val e.tmps) (x.val e.tmps)) k ks = ks ∨ _
    cases h1 : f h (a.val e.tmps) (x.val e.tmps) with
    | none => exact .inl rfl
    | some h' =>
      obtain ⟨k1, k2, k3⟩ := hi o e h h' r rfl h1
      refine .inr ⟨undef, h', by rw [opStep_e G k1 k2, k3], ?_⟩
      show optH (f h (a.val e.tmps) (x.val e.tmps)) k ks = _
      rw [h1]; rfl
  | nw f x =>
    show optN (f (x.val e.tmps)) h k ks = ks ∨ _
    cases h1 : f (x.val e.tmps) with
    | none => exact .inl rfl
    | some n =>
      obtain ⟨k1, k2⟩ := hi o e h n rfl h1
      refine .inr ⟨_, _, opStep_n G k1 k2, ?_⟩
      show optN (f (x.val e.tmps)) h k ks = _
      rw [h1]
      obtain ⟨to, ob⟩ := n
      exact hnewK_eq h ob to k
  | call f l =>
    rcases callR_ok ks k (r.call f (valsK l e.tmps) h) with hh | ⟨v, h', h1, h2⟩
    · exact .inl hh
    · obtain ⟨k1, k2, k3⟩ := hi o e h r rfl
      refine .inr ⟨v, h', ?_, h2⟩
      rw [opStep_e G k1 k2, k3, aCall, h1]; rfl
  | callv x l =>
    rcases asFn_ok (x.val e.tmps) ks (fnR l r e.tmps h k ks) with hh | ⟨f, a, b, h1, h2⟩
    · exact .inl hh
    · rcases callR_ok ks k (r.call f (appK (listK a) (appK (valsK l e.tmps) (listK b))) h) with hh | ⟨v, h', h3, h4⟩
      · exact .inl (h2.trans hh)
      · obtain ⟨k1, k2, k3⟩ := hi o e h r f a b rfl h1
        refine .inr ⟨v, h', ?_, h2.trans h4⟩
        have e1 : appK (listK a) (appK (valsK l e.tmps) (listK b)) = a.toList ++ valsK l e.tmps ++ b.toList := by rw [appK_eq, appK_eq, List.append_assoc]; rfl
        rw [e1] at h3
        rw [opStep_e G k1 k2, k3, aCall, h3]; rfl
  | slow => exact .inl rfl

abbrev Rt := Ev → FuncId → Nat → List Deferred → Tr Value → Hp → KR
def nextK (ih : Rt) (r : Ev) (fn : FuncId) (n : Nat) (ds : List Deferred) (h : Hp) (tm : Tr Value) : KR := ih r fn n ds tm h
def contK (ih : Rt) (d : KD) (r : Ev) (fn : FuncId) (n : Nat) (ds : List Deferred) (tm : Tr Value) (v : Value) (h : Hp) : KR := putK d n v tm (nextK ih r fn n ds h)
def slowK (ih : Rt) (d : KD) (o : Oper) (r : Ev) (fn : FuncId) (n : Nat) (ds : List Deferred) (tm : Tr Value) (h : Hp) : KR :=
  match opStep G r ⟨fn, tm, n, ds⟩ h o with
  | some (.val v h') => putK d n v tm fun tm' => ih r fn n ds tm' h'
  | some (.pan v h') => .pan [{ v, recovered := false }] ⟨fn, tm, n, ds⟩ h'
  | some (.dfr dd) => putK d n undef tm fun tm' => ih r fn n (dd :: ds) tm' h
  | none => .fail
def goK (i : KI) (d : KD) (o : Oper) (ih : Rt) (r : Ev) (fn : FuncId) (n : Nat) (ds : List Deferred) (tm : Tr Value) (h : Hp) : KR :=
  KI.run i r tm h (contK ih d r fn n ds tm) (slowK G ih d o r fn n ds tm h)
def gdK (p : Pa) (want : Bool) (i : KI) (d : KD) (o : Oper) (ih : Rt) (r : Ev) (fn : FuncId) (n : Nat) (ds : List Deferred) (tm : Tr Value) (h : Hp) : KR :=
  gateK (KO.val (.t p) tm) want (goK G i d o ih r fn n ds tm h) (contK ih d r fn n ds tm undef h)
def noK (d : KD) (ih : Rt) (r : Ev) (fn : FuncId) (n : Nat) (ds : List Deferred) (tm : Tr Value) (h : Hp) : KR := contK ih d r fn n ds tm undef h
def rowK (w : KW) : Rt → Rt := KW.rec (motive := fun _ => Rt → Rt) (goK G) (gdK G) noK w
def rowE : Rt := fun _ _ n ds tm h => .norm n ds tm h
def rowC' (w : KW) (_ : List KW) (ih : Rt) : Rt := rowK G w ih
def rowsK (l : List KW) : Rt := List.rec (motive := fun _ => Rt) rowE (rowC' G) l

theorem rowsK_ok (all : Array Oper) (r : Ev) (fn : FuncId) : ∀ (l : List Oper) (n : Nat) (ds : List Deferred) (tm : Tr Value) (h : Hp) (x : Ex × Env × Hp),
    (rowsK G (kws G all l) r fn n ds tm h).to fn = some x → opsStep G r all l ⟨fn, tm, n, ds⟩ h = some x
  | [], n, ds, tm, h, x, hs => hs
  | o :: rest, n, ds, tm, h, x, hs => by
    have hs : (rowK G (kw G all o) (rowsK G (kws G all rest)) r fn n ds tm h).to fn = some x := hs
    simp only [opsStep]
    have hno : (contK (rowsK G (kws G all rest)) (kd o.dst) r fn n ds tm undef h).to fn = some x → opsStep G r all rest (Env.put ⟨fn, tm, n, ds⟩ o.dst undef) h = some x := by
      intro hs
      unfold contK at hs
      rw [putK_eq o.dst fn n ds] at hs
      rw [put_env]
      exact rowsK_ok all r fn rest _ _ _ _ _ hs
    have hgo : (goK G (ki G o.op) (kd o.dst) o (rowsK G (kws G all rest)) r fn n ds tm h).to fn = some x → ((opStep G r ⟨fn, tm, n, ds⟩ h o).bind fun x => match x with
        | .val v h => opsStep G r all rest (Env.put ⟨fn, tm, n, ds⟩ o.dst v) h
        | .pan v h => some (.pan [{ v, recovered := false }], ⟨fn, tm, n, ds⟩, h)
        | .dfr d => opsStep G r all rest (Env.put ⟨fn, tm, n, d :: ds⟩ o.dst undef) h) = some x := by
      intro hs
      unfold goK at hs
      rcases KI.run_ok G (ki_ok G o.op) r ⟨fn, tm, n, ds⟩ h (contK (rowsK G (kws G all rest)) (kd o.dst) r fn n ds tm) (slowK G (rowsK G (kws G all rest)) (kd o.dst) o r fn n ds tm h) with hk | ⟨v, h', h1, hk⟩
      · rw [hk] at hs
        unfold slowK at hs
        split at hs
        · rename_i v h' h1
          rw [h1, Option.bind_some]
          rw [putK_eq o.dst fn n ds] at hs
          simp only
          rw [put_env]
          exact rowsK_ok all r fn rest _ _ _ _ _ hs
        · rename_i v h' h1
          rw [h1, Option.bind_some]
          exact hs
        · rename_i dd h1
          rw [h1, Option.bind_some]
          rw [putK_eq o.dst fn n (dd :: ds)] at hs
          simp only
          rw [put_env]
          exact rowsK_ok all r fn rest _ _ _ _ _ hs
        · cases hs
      · rw [hk] at hs
        rw [h1, Option.bind_some]
        unfold contK at hs
        rw [putK_eq o.dst fn n ds] at hs
        simp only
        rw [put_env]
        exact rowsK_ok all r fn rest _ _ _ _ _ hs
    unfold kw at hs
    split at hs
    · rename_i hk
      rw [kg_always hk, cond_true]
      exact hgo hs
    · rename_i p want hk
      have hs : (gateK (KO.val (.t p) tm) want (goK G (ki G o.op) (kd o.dst) o (rowsK G (kws G all rest)) r fn n ds tm h) (contK (rowsK G (kws G all rest)) (kd o.dst) r fn n ds tm undef h)).to fn = some x := hs
      rw [gateK_eq hk fn n ds] at hs
      cases hw : wantedA all ⟨fn, tm, n, ds⟩ o with
      | false => rw [hw, cond_false] at hs; rw [cond_false]; exact hno hs
      | true => rw [hw, cond_true] at hs; rw [cond_true]; exact hgo hs
    · rename_i hk
      rw [kg_never hk, cond_false]
      exact hno hs

structure KE where
  ev : Ev
  run : K → FuncId → Nat → List Deferred → Tr Value → Hp → KR

abbrev Ct := KE → FuncId → Nat → List Deferred → Tr Value → Hp → KR
def seqK (a b : Ct) (r : KE) (fn : FuncId) (n : Nat) (ds : List Deferred) (tm : Tr Value) (h : Hp) : KR :=
  KR.rec (motive := fun _ => Ct → KE → FuncId → KR) (fun _ _ _ => .fail) (fun n ds tm h b r fn => b r fn n ds tm h) (fun id n ds tm h _ _ _ => .ex id n ds tm h) (fun n ds tm h _ _ _ => .ret n ds tm h) (fun ch e h _ _ _ => .pan ch e h)
    (a r fn n ds tm h) b r fn
def condK (c : KO) (a b : Ct) (r : KE) (fn : FuncId) (n : Nat) (ds : List Deferred) (tm : Tr Value) (h : Hp) : KR :=
  Option.rec (motive := fun _ => Ct → Ct → Ct) (fun _ _ _ _ _ _ _ _ => .fail) (fun t a b => Bool.rec (motive := fun _ => Ct → Ct → Ct) (fun _ b => b) (fun a _ => a) t a b) (asBoolB (KO.val c tm) some) a b r fn n ds tm h
def blockK (id : Nat) (b : Ct) (r : KE) (fn : FuncId) (n : Nat) (ds : List Deferred) (tm : Tr Value) (h : Hp) : KR :=
  KR.rec (motive := fun _ => Nat → KR) (fun _ => .fail) (fun n ds tm h _ => .norm n ds tm h)
    (fun id' n ds tm h id => Bool.rec (motive := fun _ => Nat → Nat → List Deferred → Tr Value → Hp → KR) (fun id' n ds tm h => .ex id' n ds tm h) (fun _ n ds tm h => .norm n ds tm h) (Nat.beq id' id) id' n ds tm h)
    (fun n ds tm h _ => .ret n ds tm h) (fun ch e h _ => .pan ch e h) (b r fn n ds tm h) id
def loopK (k : K) (c : Code) (b : Ct) (r : KE) (fn : FuncId) (n : Nat) (ds : List Deferred) (tm : Tr Value) (h : Hp) : KR :=
  KR.rec (motive := fun _ => K → Code → KE → FuncId → KR) (fun _ _ _ _ => .fail) (fun n ds tm h k c r fn => KE.run r (.loop k c) fn n ds tm h) (fun id n ds tm h _ _ _ _ => .ex id n ds tm h) (fun n ds tm h _ _ _ _ => .ret n ds tm h) (fun ch e h _ _ _ _ => .pan ch e h)
    (b r fn n ds tm h) k c r fn
def runSkip : Ct := fun _ _ n ds tm h => .norm n ds tm h
def runRows (l : List KW) : Ct := fun r fn n ds tm h => rowsK G l (KE.ev r) fn n ds tm h
def runSlow (c : Code) : Ct := fun r fn n ds tm h => ofK (codeStep G r.ev c ⟨fn, tm, n, ds⟩ h)
def runK (k : K) : Ct :=
  @K.rec (fun _ => Ct) runSkip (runRows G) (fun _ _ a b => seqK a b)
    (fun c _ _ a b => condK c a b) (fun id _ b => blockK id b) (fun k c b => loopK k c b) (fun id _ _ n ds tm h => .ex id n ds tm h) (fun _ _ n ds tm h => .ret n ds tm h)
    (runSlow G) k

end
end
end Go.AE
