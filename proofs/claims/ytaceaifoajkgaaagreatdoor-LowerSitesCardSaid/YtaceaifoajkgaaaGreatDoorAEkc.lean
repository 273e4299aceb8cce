/- A twin of the evaluator for the kernel, third part: rows of operations, made out beforehand. -/
import Derived.Test.YtaceaifoajkgaaaGreatDoorAEkb
namespace Go.AE
noncomputable section

inductive KI where
  | mv (x : KO)
  | un (f : Value → Option Value) (x : KO)
  | bin (f : Value → Value → Option Value) (x y : KO)
  | tri (f : Value → Value → Value → Option Value) (x y z : KO)
  | hp (f : Hp → Value → Option Value) (x : KO)
  | st (f : Hp → Value → Value → Option Hp) (a x : KO)
  | nw (f : Value → Option New) (x : KO)
  | call (f : FuncId) (l : List KO)
  | callv (x : KO) (l : List KO)
  | slow

section
variable (G : Tabs)

def koO : Option Operand → KO
  | some x => ko x
  | none => .c undef

def kiLoad (t : TypeId) (a : KO) : KI :=
  match G.und t with
  | some d => (match isAggD d with
    | false => .hp ld1 a
    | true => match aSize G t with | some n => .hp (ldA n) a | none => .slow)
  | none => .slow
def kiBin (op : BinOp) (t : TypeId) (c : Bool) (x y : KO) : KI :=
  match binF op (G.und t) with
  | some f => .bin f x y
  | none => .bin (fun v w => aBin G c op t v w) x y
def kiSlice (t : TypeId) (x : KO) (lo hi mx : Option Operand) : KI :=
  match G.und t, mx with
  | some .string, none => .tri (slS lo.isSome hi.isSome) x (koO lo) (koO hi)
  | _, _ => .slow
def kiField (t : TypeId) (x : KO) (i : Nat) : KI :=
  match G.und t with
  | some (.struct fs) => (match fs[i]? with
    | some f => (match G.und f.type with
      | some d => (match isAggD d with
        | false => .un (fv1 f.offset) x
        | true => match aSize G f.type with | some n => .un (fvA f.offset n) x | none => .slow)
      | none => .slow)
    | none => .slow)
  | _ => .slow
def kiAddr (t : TypeId) (x i : KO) : KI :=
  match G.und t with
  | some (.slice e) => (match aSize G e with | some n => .bin (ixS n) x i | none => .slow)
  | some (.array len e) => (match aSize G e with | some n => .bin (ixA n len) x i | none => .slow)
  | _ => .slow
def kiIndex (t : TypeId) (x i : KO) : KI :=
  match G.und t with
  | some .string => .bin ixStr x i
  | _ => .slow
def kiStore (t : TypeId) (a x : KO) : KI :=
  match aSize G t with
  | some n => bif Nat.beq n 1 then .st st1 a x else .st (stA n) a x
  | none => .slow
def kiLen (ts : List TypeId) (l : List Operand) : KI :=
  match ts, l with
  | t :: _, [x] => (match G.und t with
    | some .string => .un lenS (ko x)
    | some (.slice _) => .un lenL (ko x)
    | _ => .slow)
  | _, _ => .slow
def kiCall (c : Call) : KI :=
  match c.callee with
  | .builtin .len => kiLen G c.argTypes.toList c.args.toList
  | .value (.func f) => .call f (c.args.toList.map ko)
  | .value x => .callv (ko x) (c.args.toList.map ko)
  | _ => .slow

def ki (o : Op) : KI :=
  match o with
  | .move x => .mv (ko x)
  | .assign x => .mv (ko x)
  | .pick c a b => .tri pickK (ko c) (ko a) (ko b)
  | .load t a => kiLoad G t (ko a)
  | .nilCheck x => .un nilK (ko x)
  | .binOp op t x y _ => kiBin G op t (isConst x || isConst y) (ko x) (ko y)
  | .unOp .not _ x => .un notV (ko x)
  | .convert s d x => .un (fun v => aConvert G s d v) (ko x)
  | .slice t x lo hi mx => kiSlice G t (ko x) lo hi mx
  | .fieldAddr t x f => (match fieldF G t f with | some off => .un (fieldK off) (ko x) | none => .slow)
  | .field t x f => kiField G t (ko x) f
  | .indexAddr t x i => kiAddr G t (ko x) (ko i)
  | .index t x i => kiIndex G t (ko x) (ko i)
  | .extract t i => .un (tupK i) (ko t)
  | .alloc t => .nw (fun _ => aAlloc G t) (.c undef)
  | .box t x => .nw (boxK t) (ko x)
  | .store t a x => kiStore G t (ko a) (ko x)
  | .call c => kiCall G c
  | _ => .slow

/-- of an operation that leaves all as it is -/
def KI.Still (op : Op) : KI → Prop
  | .mv x => ∀ (o : Oper) e h, o.op = op → sStep G e h o = some (x.val e.tmps)
  | .un f x => ∀ (o : Oper) e h w, o.op = op → f (x.val e.tmps) = some w → sStep G e h o = some w
  | .bin f x y => ∀ (o : Oper) e h w, o.op = op → f (x.val e.tmps) (y.val e.tmps) = some w → sStep G e h o = some w
  | .tri f x y z => ∀ (o : Oper) e h w, o.op = op → f (x.val e.tmps) (y.val e.tmps) (z.val e.tmps) = some w → sStep G e h o = some w
  | .hp f x => ∀ (o : Oper) e h w, o.op = op → f h (x.val e.tmps) = some w → sStep G e h o = some w
  | .nw f x => ∀ (o : Oper) e h n, o.op = op → f (x.val e.tmps) = some n → sStep G e h o = none ∧ nStep G e o = some n
  | .st f a x => ∀ (o : Oper) e h h' r, o.op = op → f h (a.val e.tmps) (x.val e.tmps) = some h' → sStep G e h o = none ∧ nStep G e o = none ∧ eStep G r e h o = some (.val undef h')
  | .call f l => ∀ (o : Oper) e h r, o.op = op → sStep G e h o = none ∧ nStep G e o = none ∧ eStep G r e h o = aCall r f (valsK l e.tmps) h
  | .callv x l => ∀ (o : Oper) e h r f a b, o.op = op → x.val e.tmps = .func (.func f) a b → sStep G e h o = none ∧ nStep G e o = none ∧ eStep G r e h o = aCall r f (a.toList ++ valsK l e.tmps ++ b.toList) h
  | .slow => True

theorem ki_ok (op : Op) : KI.Still G op (ki G op) := by
  cases op <;> try exact trivial
  case move x => intro o e h ho; unfold sStep; rw [ho, ko_val]
  case assign x => intro o e h ho; unfold sStep; rw [ho, ko_val]
  case pick c a b =>
    intro o e h w ho hw
    rw [ko_val, ko_val, ko_val] at hw
    unfold sStep; rw [ho]; exact pickK_ok hw
  case alloc t =>
    intro o e h n ho hw
    unfold sStep nStep; rw [ho]; exact ⟨rfl, hw⟩
  case box t x =>
    intro o e h n ho hw
    rw [ko_val] at hw
    unfold sStep nStep; rw [ho]; exact ⟨rfl, boxK_ok hw⟩
  case load t a =>
    show KI.Still G _ (kiLoad G t (ko a))
    unfold kiLoad
    split
    · rename_i d hd
      split
      · rename_i ha
        intro o e h w ho hw
        rw [ko_val] at hw
        unfold sStep; rw [ho]; exact ld1_ok G hd ha hw
      · rename_i ha
        split
        · rename_i n hn
          intro o e h w ho hw
          rw [ko_val] at hw
          unfold sStep; rw [ho]; exact ldA_ok G hd ha hn hw
        · trivial
    · trivial
  case store t a x =>
    show KI.Still G _ (kiStore G t (ko a) (ko x))
    unfold kiStore
    split
    · rename_i n hn
      cases hb : Nat.beq n 1 with
      | true =>
        have := Nat.eq_of_beq_eq_true hb
        subst this
        intro o e h h' r ho hw
        rw [ko_val, ko_val] at hw
        unfold sStep nStep eStep; rw [ho]; refine ⟨rfl, rfl, ?_⟩
        simp only [st1_ok G hn hw, Option.map_some]
      | false =>
        intro o e h h' r ho hw
        rw [ko_val, ko_val] at hw
        unfold sStep nStep eStep; rw [ho]; refine ⟨rfl, rfl, ?_⟩
        simp only [stA_ok G hn hw, Option.map_some]
    · trivial
  case nilCheck x =>
    intro o e h w ho hw
    rw [ko_val] at hw
    unfold sStep; rw [ho]; exact nilK_ok hw
  case binOp op t x y t' =>
    show KI.Still G _ (kiBin G op t (isConst x || isConst y) (ko x) (ko y))
    unfold kiBin
    split
    · rename_i f hf
      intro o e h w ho hw
      rw [ko_val, ko_val] at hw
      unfold sStep; rw [ho]; exact binF_ok G hf hw _ _
    · intro o e h w ho hw
      rw [ko_val, ko_val] at hw
      unfold sStep; rw [ho]; exact hw
  case unOp op t x =>
    cases op <;> try exact trivial
    intro o e h w ho hw
    rw [ko_val] at hw
    unfold sStep; rw [ho]; exact notV_ok hw
  case convert s d x =>
    intro o e h w ho hw
    rw [ko_val] at hw
    unfold sStep; rw [ho]; exact hw
  case slice t x lo hi mx =>
    show KI.Still G _ (kiSlice G t (ko x) lo hi mx)
    unfold kiSlice
    split
    · rename_i hd
      intro o e h w ho hw
      rw [ko_val] at hw
      unfold sStep; rw [ho]
      have key : ∀ (z : Option Operand) u, z.map e.opd = some u → (koO z).val e.tmps = u := by
        intro z u hu
        cases z with
        | none => cases hu
        | some y => injection hu with hu; rw [← hu]; exact ko_val y e
      have hl : ∀ z : Option Operand, (z.map e.opd).isSome = z.isSome := by intro z; cases z <;> rfl
      exact slS_ok G hd (key lo) (key hi) (by rw [hl, hl]; exact hw)
    · trivial
  case fieldAddr t x f =>
    show KI.Still G _ (match fieldF G t f with | some off => .un (fieldK off) (ko x) | none => .slow)
    split
    · rename_i off hf
      intro o e h w ho hw
      rw [ko_val] at hw
      unfold sStep; rw [ho]; exact fieldK_ok G hf hw
    · trivial
  case field t x f =>
    show KI.Still G _ (kiField G t (ko x) f)
    unfold kiField
    split
    · rename_i fs hd
      split
      · rename_i fd hf
        split
        · rename_i d he
          split
          · rename_i ha
            intro o e h w ho hw
            rw [ko_val] at hw
            unfold sStep; rw [ho]; exact fv1_ok G hd hf he ha hw
          · rename_i ha
            split
            · rename_i n hn
              intro o e h w ho hw
              rw [ko_val] at hw
              unfold sStep; rw [ho]; exact fvA_ok G hd hf he ha hn hw
            · trivial
        · trivial
      · trivial
    · trivial
  case indexAddr t x i =>
    show KI.Still G _ (kiAddr G t (ko x) (ko i))
    unfold kiAddr
    split
    · rename_i el hd
      split
      · rename_i n hn
        intro o e h w ho hw
        rw [ko_val, ko_val] at hw
        unfold sStep; rw [ho]; exact ixS_ok G hd hn hw
      · trivial
    · rename_i len el hd
      split
      · rename_i n hn
        intro o e h w ho hw
        rw [ko_val, ko_val] at hw
        unfold sStep; rw [ho]; exact ixA_ok G hd hn hw
      · trivial
    · trivial
  case index t x i =>
    show KI.Still G _ (kiIndex G t (ko x) (ko i))
    unfold kiIndex
    split
    · rename_i hd
      intro o e h w ho hw
      rw [ko_val, ko_val] at hw
      unfold sStep; rw [ho]; exact ixStr_ok G hd hw
    · trivial
  case extract t i =>
    intro o e h w ho hw
    rw [ko_val] at hw
    unfold sStep; rw [ho]; exact tupK_ok hw
  case call c =>
    show KI.Still G _ (kiCall G c)
    unfold kiCall
    split
    · rename_i hc
      unfold kiLen
      split
      · rename_i t ts x hts hxs
        split
        · rename_i hd
          intro o e h w ho hw
          rw [ko_val] at hw
          unfold sStep; rw [ho]; simp only [hc, hts, hxs, List.map, aStill]; exact lenS_ok G hd hw
        · rename_i el hd
          intro o e h w ho hw
          rw [ko_val] at hw
          unfold sStep; rw [ho]; simp only [hc, hts, hxs, List.map, aStill]; exact lenL_ok G hd hw
        · trivial
      · trivial
    · rename_i f hc
      intro o e h r ho
      unfold sStep nStep eStep; rw [ho]
      refine ⟨?_, rfl, ?_⟩
      · simp only [hc]
      · simp only [hc, valsK_eq, Env.opd]; simp
    · rename_i x hc
      intro o e h r f a b ho hx
      rw [ko_val] at hx
      unfold sStep nStep eStep; rw [ho]
      refine ⟨?_, rfl, ?_⟩
      · simp only [hc]
      · simp only [hc, valsK_eq, hx]
    · trivial

/- what is left behind code -/
inductive KR where
  | fail
  | norm (n : Nat) (ds : List Deferred) (tm : Tr Value) (h : Hp)
  | ex (id : Nat) (n : Nat) (ds : List Deferred) (tm : Tr Value) (h : Hp)
  | ret (n : Nat) (ds : List Deferred) (tm : Tr Value) (h : Hp)
  | pan (ch : List PanicEntry) (e : Env) (h : Hp)

def KR.to (fn : FuncId) (x : KR) : Option (Ex × Env × Hp) :=
  KR.rec none (fun n ds tm h => some (.normal, ⟨fn, tm, n, ds⟩, h)) (fun id n ds tm h => some (.exit id, ⟨fn, tm, n, ds⟩, h)) (fun n ds tm h => some (.ret, ⟨fn, tm, n, ds⟩, h)) (fun ch e h => some (.pan ch, e, h)) x

def exK (ex : Ex) (e : Env) (h : Hp) : KR :=
  match ex, e with
  | .normal, ⟨_, tm, n, ds⟩ => .norm n ds tm h
  | .exit id, ⟨_, tm, n, ds⟩ => .ex id n ds tm h
  | .ret, ⟨_, tm, n, ds⟩ => .ret n ds tm h
  | .pan ch, e => .pan ch e h
def ofK (x : Option (Ex × Env × Hp)) : KR :=
  match x with
  | none => .fail
  | some (ex, e, h) => exK ex e h

theorem ofK_to {fn : FuncId} {y : Option (Ex × Env × Hp)} {x : Ex × Env × Hp} (hy : ∀ z, y = some z → z.2.1.fn = fn) (h : (ofK y).to fn = some x) : y = some x := by
  cases y with
  | none => cases h
  | some y =>
    obtain ⟨ex, e, hp⟩ := y
    have hf : e.fn = fn := hy _ rfl
    obtain ⟨f, tm, n, ds⟩ := e
    subst hf
    cases ex <;> exact h


end
end
end Go.AE
