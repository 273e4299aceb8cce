/- The evaluator: a deterministic reading of the model's Code over an abstract heap. Definitions alone. -/
import Derived.Orders
import Derived.Laws.Sem
namespace Go.AE
noncomputable section

inductive Tr (α : Type) where
  | nil : Tr α
  | node (l : Tr α) (v : Option α) (r : Tr α) : Tr α

/- by the recursors themselves: the kernel works these out many times -/
noncomputable def Tr.get {α : Type} (t : Tr α) : Nat → Option α :=
  Tr.rec (motive := fun _ => Nat → Option α) (fun _ => none)
    (fun _ v _ l r n => Nat.rec v (fun m _ => Bool.rec (r (Nat.shiftRight m 1)) (l (Nat.shiftRight m 1)) (Nat.beq (Nat.land m 1) 0)) n) t

noncomputable def Tr.setF {α : Type} (f : Nat) : Tr α → Nat → α → Tr α :=
  Nat.rec (motive := fun _ => Tr α → Nat → α → Tr α) (fun t _ _ => t)
    (fun _ ih t n x => Tr.rec (motive := fun _ => Tr α)
      (Nat.rec (.node .nil (some x) .nil) (fun m _ => Bool.rec (.node .nil none (ih .nil (Nat.shiftRight m 1) x)) (.node (ih .nil (Nat.shiftRight m 1) x) none .nil) (Nat.beq (Nat.land m 1) 0)) n)
      (fun l v r _ _ => Nat.rec (.node l (some x) r) (fun m _ => Bool.rec (.node l v (ih r (Nat.shiftRight m 1) x)) (.node (ih l (Nat.shiftRight m 1) x) v r) (Nat.beq (Nat.land m 1) 0)) n) t) f

theorem land_one (m : Nat) : Nat.land m 1 = m % 2 := Nat.and_one_is_mod m
theorem shift_one (m : Nat) : Nat.shiftRight m 1 = m / 2 := rfl
theorem bool_rec {β : Type} (b : Bool) (x y : β) : (Bool.rec x y b : β) = bif b then y else x := by cases b <;> rfl

theorem Tr.get_nil {α : Type} (n : Nat) : (Tr.nil : Tr α).get n = none := rfl
theorem Tr.get_zero {α : Type} (l r : Tr α) (v : Option α) : (Tr.node l v r).get 0 = v := rfl
theorem Tr.get_succ {α : Type} (l r : Tr α) (v : Option α) (n : Nat) : (Tr.node l v r).get (n + 1) = bif Nat.beq (n % 2) 0 then l.get (n / 2) else r.get (n / 2) := by
  rw [← land_one, ← shift_one, ← bool_rec]; rfl
theorem Tr.setF_nil_zero {α : Type} (f : Nat) (x : α) : Tr.setF (f + 1) .nil 0 x = .node .nil (some x) .nil := rfl
theorem Tr.setF_node_zero {α : Type} (f : Nat) (l r : Tr α) (v : Option α) (x : α) : Tr.setF (f + 1) (.node l v r) 0 x = .node l (some x) r := rfl
theorem Tr.setF_nil_succ {α : Type} (f n : Nat) (x : α) : Tr.setF (f + 1) .nil (n + 1) x = bif Nat.beq (n % 2) 0 then .node (Tr.setF f .nil (n / 2) x) none .nil else .node .nil none (Tr.setF f .nil (n / 2) x) := by
  rw [← land_one, ← shift_one, ← bool_rec]; rfl
theorem Tr.setF_node_succ {α : Type} (f n : Nat) (l r : Tr α) (v : Option α) (x : α) : Tr.setF (f + 1) (.node l v r) (n + 1) x = bif Nat.beq (n % 2) 0 then .node (Tr.setF f l (n / 2) x) v r else .node l v (Tr.setF f r (n / 2) x) := by
  rw [← land_one, ← shift_one, ← bool_rec]; rfl

def Tr.set {α : Type} (t : Tr α) (n : Nat) (x : α) : Tr α := Tr.setF (n + 1) t n x

/-- a row: not to be written; of a known size; of cells of so many a piece, with room that is not known -/
inductive Md where
  | ro | rw
  | opn (sz : Nat)
  deriving DecidableEq

inductive Ob where
  | cells (c : List Value) (elem : TypeId) (md : Md)
  | map (es : List MapEntry) (clock : Nat)
  | iter (m : Option Nat) (since : Nat) (seen : List Nat) (stepped : Nat)
  | sit (s : ByteArray) (pos : Nat)
  | dead

structure Hp where
  old : Nat → Option Ob
  tr : Tr Ob
  next : Nat

def Hp.get (h : Hp) (b : Nat) : Option Ob :=
  match h.tr.get b with
  | some o => some o
  | none => h.old b

def Hp.put (h : Hp) (b : Nat) (o : Ob) : Hp := { h with tr := h.tr.set b o }
def Hp.new (h : Hp) (o : Ob) : Hp := { h with tr := h.tr.set h.next o, next := h.next + 1 }

structure Env where
  fn : FuncId
  tmps : Tr Value
  n : Nat
  defers : List Deferred

def Env.val (e : Env) (t : Nat) : Value := (e.tmps.get t).getD undef
def Env.opd (e : Env) : Operand → Value
  | .tmp t => e.val t
  | .const v => v
  | .global g => .pointer (some ⟨g, 0, none⟩)
  | .func f => .func (.func f) #[] #[]

/-- of a region whose order is drawn: of an operation that reads, by its place, the places of the operations with an effect that it is not ordered with -/
structure RegInfo where
  loose : List (Nat × List Nat)
  /-- operations behind which, by the order, all later ones stand -/
  last : List Nat

structure Tabs where
  und : TypeId → Option TypeDesc
  info : TypeId → Option TypeInfo
  fn : FuncId → Option Func
  reg : FuncId → Nat → Option RegInfo
  /-- functions whose meaning is given from outside -/
  spec : FuncId → Option (List Value → Hp → Option (Value × Hp))

inductive Res where
  | val (v : Value) (h : Hp)
  | pan (v : Value) (h : Hp)
  | dfr (d : Deferred)

inductive Out where
  | ret (v : Value)
  | pan (chain : List PanicEntry)

inductive Ex where
  | normal
  | exit (id : Nat)
  | ret
  | pan (chain : List PanicEntry)

/-- what a deferred call may recover -/
inductive Rc where
  | nothing
  | avail (v : Value)
  | taken

structure Ev where
  code : Code → Env → Hp → Option (Ex × Env × Hp)
  call : FuncId → List Value → Hp → Option (Out × Hp)
  dcode : Code → Env → Hp → Rc → Option (Ex × Env × Hp × Rc)

def Ev.bot : Ev := ⟨fun _ _ _ => none, fun _ _ _ => none, fun _ _ _ _ => none⟩

def small : Nat := 2 ^ 32

def iv (n : Int) : Value := .int .i64 n

/-- a sum in range -/
def wrapAt (k : IntKind) (n : Int) : Int := k.wrap n

def aInt (op : BinOp) (k : IntKind) (x y : Int) : Option Value :=
  match op with
  | .add => some (.int k (k.wrap (x + y)))
  | .sub => some (.int k (k.wrap (x - y)))
  | .mul => some (.int k (k.wrap (x * y)))
  | .quo => if y = 0 then none else some (.int k (k.wrap (x.tdiv y)))
  | .rem => if y = 0 then none else some (.int k (x.tmod y))
  | .and => some (.int k (k.wrap (BitVec.ofInt k.bits x &&& BitVec.ofInt k.bits y).toNat))
  | .or => some (.int k (k.wrap (BitVec.ofInt k.bits x ||| BitVec.ofInt k.bits y).toNat))
  | .xor => some (.int k (k.wrap (BitVec.ofInt k.bits x ^^^ BitVec.ofInt k.bits y).toNat))
  | .andNot => some (.int k (k.wrap (BitVec.ofInt k.bits x &&& ~~~BitVec.ofInt k.bits y).toNat))
  | .eql => some (.bool (x == y))
  | .neq => some (.bool (x != y))
  | .lss => some (.bool (decide (x < y)))
  | .leq => some (.bool (decide (x ≤ y)))
  | .gtr => some (.bool (decide (x > y)))
  | .geq => some (.bool (decide (x ≥ y)))
  | _ => none

def aShift (op : BinOp) (k : IntKind) (x y : Int) : Option Value :=
  if y < 0 then none else
  match op with
  | .shl => some (.int k (k.wrap (x * 2 ^ (min y.toNat k.bits))))
  | .shr => some (.int k (x.fdiv (2 ^ (min y.toNat k.bits))))
  | _ => none

def bytesEq (a b : ByteArray) : Bool := a.data.toList == b.data.toList

def aStr (op : BinOp) (a b : ByteArray) : Option Value :=
  match op with
  | .add => if a.size + b.size < small then some (.string (a ++ b)) else none
  | .eql => some (.bool (bytesEq a b))
  | .neq => some (.bool (!bytesEq a b))
  | .lss => some (.bool (Op.bytesLess a.data.toList b.data.toList))
  | .leq => some (.bool (Op.bytesLess a.data.toList b.data.toList || bytesEq a b))
  | .gtr => some (.bool (!(Op.bytesLess a.data.toList b.data.toList || bytesEq a b)))
  | .geq => some (.bool (!Op.bytesLess a.data.toList b.data.toList))
  | _ => none

section
variable (G : Tabs)

def isAggD : TypeDesc → Bool
  | .struct _ | .array _ _ => true
  | _ => false

def aSize (t : TypeId) : Option Nat := (G.info t).map (·.size)

def aZero (t : TypeId) : Option Value := (G.info t).bind (·.zero)

def aPart (t : TypeId) (cs : List Value) (off : Nat) : Option Value :=
  (G.und t).bind fun d => bif isAggD d then (aSize G t).map fun n => .agg ((cs.drop off).take n).toArray else cs[off]?

def aEqFields (eq : TypeId → Value → Value → Option Bool) (xs ys : List Value) : List Field → Option Bool
  | [] => some true
  | f :: fs => bif f.name == "_" then none else
    (aPart G f.type xs f.offset).bind fun x => (aPart G f.type ys f.offset).bind fun y => (eq f.type x y).bind fun b =>
      bif b then aEqFields eq xs ys fs else some false

def aEqElems (eq : TypeId → Value → Value → Option Bool) (e : TypeId) (n : Nat) (xs ys : List Value) : List Nat → Option Bool
  | [] => some true
  | i :: is =>
    (aPart G e xs (i * n)).bind fun x => (aPart G e ys (i * n)).bind fun y => (eq e x y).bind fun b =>
      bif b then aEqElems eq e n xs ys is else some false

def aEq : Nat → TypeId → Value → Value → Option Bool
  | 0, _, _, _ => none
  | d + 1, t, x, y => (G.und t).bind fun ds =>
    match ds, x, y with
    | .bool, .bool a, .bool b => some (a == b)
    | .int _, .int k a, .int k' b => if k = k' then some (a == b) else none
    | .string, .string a, .string b => some (bytesEq a b)
    | .struct fs, .agg xs, .agg ys => aEqFields G (aEq d) xs.toList ys.toList fs.toList
    | .array len e, .agg xs, .agg ys => (aSize G e).bind fun n => aEqElems G (aEq d) e n xs.toList ys.toList (List.range len)
    | _, _, _ => none

/-- no interface in the type -/
def noIface : Nat → TypeId → Bool
  | 0, _ => false
  | d + 1, t =>
    match G.und t with
    | some (.interface _) => false
    | some (.struct fs) => fs.toList.all fun f => noIface d f.type
    | some (.array _ e) => noIface d e
    | some _ => true
    | none => false

/-- '==' of two values; nilOk: one of them is the literal nil -/
def aEql (nilOk : Bool) (t : TypeId) (x y : Value) : Option Bool :=
  match x, y with
  | .agg xs, .agg ys => bif noIface G 20 t then aEq G 20 t (.agg xs) (.agg ys) else none
  | .bool a, .bool b => (G.und t).bind fun d => match d with | .bool => some (a == b) | _ => none
  | .pointer none, .pointer b => (G.und t).bind fun d => match d with | .pointer _ => some b.isNone | _ => none
  | .pointer (some _), .pointer none => (G.und t).bind fun d => match d with | .pointer _ => some false | _ => none
  | .nilIface, .nilIface => bif nilOk then (G.und t).bind fun d => match d with | .interface _ => some true | _ => none else none
  | .nilIface, .iface _ _ => (G.und t).bind fun d => match d with | .interface _ => some false | _ => none
  | .iface _ _, .nilIface => (G.und t).bind fun d => match d with | .interface _ => some false | _ => none
  | .slice none _ _, .slice none _ _ => (G.und t).bind fun d => match d with | .slice _ => some true | _ => none
  | .slice none _ _, .slice (some _) _ _ => (G.und t).bind fun d => match d with | .slice _ => some false | _ => none
  | .slice (some _) _ _, .slice none _ _ => (G.und t).bind fun d => match d with | .slice _ => some false | _ => none
  | .map none, .map b => (G.und t).bind fun d => match d with | .map _ _ => some b.isNone | _ => none
  | .map (some _), .map none => (G.und t).bind fun d => match d with | .map _ _ => some false | _ => none
  | .nilFunc, .nilFunc => (G.und t).bind fun d => match d with | .func _ _ _ => some true | _ => none
  | .nilFunc, .func _ _ _ => (G.und t).bind fun d => match d with | .func _ _ _ => some false | _ => none
  | .func _ _ _, .nilFunc => (G.und t).bind fun d => match d with | .func _ _ _ => some false | _ => none
  | _, _ => none

def isConst : Operand → Bool
  | .const _ => true
  | _ => false

def aBin (nilOk : Bool) (op : BinOp) (t : TypeId) (x y : Value) : Option Value :=
  match x, y with
  | .int k a, .int k' b =>
    match op with
    | .shl => aShift .shl k a b
    | .shr => aShift .shr k a b
    | op => if k = k' then aInt op k a b else none
  | .string a, .string b => aStr op a b
  | x, y =>
    match op with
    | .eql => (aEql G nilOk t x y).map .bool
    | .neq => (aEql G nilOk t x y).map fun b => .bool (!b)
    | _ => none

def aUn (op : UnOp) (x : Value) : Option Value :=
  match op, x with
  | .neg, .int k n => some (.int k (k.wrap (0 - n)))
  | .not, .bool b => some (.bool (!b))
  | _, _ => none

/-- of a row of cells: so many from a place on -/
def cut (c : List Value) (o n : Nat) : Option (List Value) :=
  let r := (c.drop o).take n
  if r.length = n then some r else none

def splice (c : List Value) (o : Nat) (v : List Value) : Option (List Value) :=
  if o + v.length ≤ c.length then some (c.take o ++ v ++ c.drop (o + v.length)) else none

def aLoad (h : Hp) (t : TypeId) (a : Value) : Option Value :=
  match a with
  | .pointer (some ⟨b, o, none⟩) =>
    match h.get b with
    | some (.cells c _ _) => (G.und t).bind fun d => bif isAggD d then (aSize G t).bind fun n => (cut c o n).map fun l => .agg l.toArray else c[o]?
    | _ => none
  | _ => none

/-- a value that a variable can hold: no tuple -/
def fits : Value → Bool
  | .tuple _ => false
  | _ => true

def aStore (h : Hp) (t : TypeId) (a v : Value) : Option Hp :=
  match a with
  | .pointer (some ⟨b, o, none⟩) =>
    match h.get b with
    | some (.cells c e md) =>
      match md with
      | .ro => none
      | _ => (aSize G t).bind fun n => if v.cells.size = n ∧ fits v = true then (splice c o v.cells.toList).map fun c' => h.put b (.cells c' e md) else none
    | _ => none
  | _ => none

def aAdd (b o n : Nat) : Value := .pointer (some ⟨b, o + n, none⟩)

def aField (t : TypeId) (a : Value) (i : Nat) : Option Value :=
  match a with
  | .pointer (some ⟨b, o, none⟩) =>
    match G.und t with
    | some (.struct fs) => (fs[i]?).bind fun f => (aSize G f.type).bind fun n => bif Nat.beq n 0 then none else some (aAdd b o f.offset)
    | _ => none
  | _ => none

def aIndexAddr (t : TypeId) (x i : Value) : Option Value :=
  match i with
  | .int _ i =>
    match G.und t, x with
    | some (.array len e), .pointer (some ⟨b, o, none⟩) => (aSize G e).bind fun n => if 0 ≤ i ∧ i < len then some (aAdd b o (i.toNat * n)) else none
    | some (.slice e), .slice (some ⟨b, o, none⟩) len _ => (aSize G e).bind fun n => if 0 ≤ i ∧ i < len then some (aAdd b o (i.toNat * n)) else none
    | _, _ => none
  | _ => none

def aIndex (t : TypeId) (x i : Value) : Option Value :=
  match i with
  | .int _ i =>
    match G.und t, x with
    | some (.array len e), .agg cs => (aSize G e).bind fun n => if 0 ≤ i ∧ i < len then aPart G e cs.toList (i.toNat * n) else none
    | some .string, .string s => if 0 ≤ i then (s.data.toList[i.toNat]?).map fun b => .int .u8 b.toNat else none
    | _, _ => none
  | _ => none

def aFieldV (t : TypeId) (x : Value) (i : Nat) : Option Value :=
  match G.und t, x with
  | some (.struct fs), .agg cs => (fs[i]?).bind fun f => aPart G f.type cs.toList f.offset
  | _, _ => none

/-- a slice with a third bound has the second one, too -/
def both (hi mx : Option Value) : Bool := !mx.isSome || hi.isSome

/- pieces of strings, by lists: the kernel is slow at ByteArray.extract -/
def dropR {α : Type} (l : List α) : Nat → List α := List.rec (motive := fun _ => Nat → List α) (fun _ => []) (fun v r ih n => Nat.rec (v :: r) (fun m _ => ih m) n) l
def takeR {α : Type} (l : List α) : Nat → List α := List.rec (motive := fun _ => Nat → List α) (fun _ => []) (fun v _ ih n => Nat.rec [] (fun m _ => v :: ih m) n) l
def sub (s : ByteArray) (lo hi : Nat) : ByteArray := ⟨⟨takeR (dropR s.data.toList lo) (Nat.sub hi lo)⟩⟩
theorem dropR_eq {α : Type} : ∀ (l : List α) (n : Nat), dropR l n = l.drop n
  | [], n => by cases n <;> rfl
  | v :: r, 0 => rfl
  | v :: r, n + 1 => dropR_eq r n
theorem takeR_eq {α : Type} : ∀ (l : List α) (n : Nat), takeR l n = l.take n
  | [], n => by cases n <;> rfl
  | v :: r, 0 => rfl
  | v :: r, n + 1 => by show v :: takeR r n = _; rw [takeR_eq r n]; rfl
theorem sub_eq (s : ByteArray) (lo hi : Nat) : sub s lo hi = s.extract lo hi := by
  apply ByteArray.ext
  rw [ByteArray.data_extract]
  apply Array.ext (by simp [sub, takeR_eq, dropR_eq]; omega)
  intro i h1 h2
  simp [sub, takeR_eq, dropR_eq]

def bnd (x : Option Value) (d y : Nat) : Option Nat :=
  match x with
  | none => some d
  | some (.int _ i) => if 0 ≤ i ∧ i ≤ y then some i.toNat else none
  | _ => none

def aSlice (h : Hp) (t : TypeId) (x : Value) (lo hi mx : Option Value) : Option Value :=
  match G.und t, x with
  | some .string, .string s =>
    match mx with
    | some _ => none
    | none => (bnd hi s.size s.size).bind fun hi => (bnd lo 0 hi).map fun lo => .string (sub s lo hi)
  | some (.slice e), .slice none 0 0 => bif !both hi mx then none else
    (aSize G e).bind fun _ => (bnd mx 0 0).bind fun _ => (bnd hi 0 0).bind fun _ => (bnd lo 0 0).map fun _ => .slice none 0 0
  | some (.slice e), .slice (some ⟨b, o, none⟩) len cap =>
    match h.get b with
    | some (.cells _ _ (.opn sz)) =>
      match mx with
      | some _ => none
      | none => (aSize G e).bind fun n => bif Nat.beq n sz then (bnd hi len len).bind fun hi => (bnd lo 0 hi).map fun lo => .slice (some ⟨b, o + lo * n, none⟩) (hi - lo) 0 else none
    | some (.cells _ _ _) => bif !both hi mx then none else
      (aSize G e).bind fun n => (bnd mx cap cap).bind fun m => (bnd hi len m).bind fun hi => (bnd lo 0 hi).map fun lo =>
        .slice (some ⟨b, if m = lo then o else o + lo * n, none⟩) (hi - lo) (m - lo)
    | _ => none
  | _, _ => none

/-- a new block: what leads to it, by its name, and what it holds -/
structure New where
  to : Nat → Value
  ob : Ob

def ptrTo (n : Nat) : Value := .pointer (some ⟨n, 0, none⟩)
def sliceTo (l c : Nat) (n : Nat) : Value := .slice (some ⟨n, 0, none⟩) l c
def mapTo (n : Nat) : Value := .map (some n)

def aAlloc (e : TypeId) : Option New := (aZero G e).map fun z => ⟨ptrTo, .cells z.cells.toList e .rw⟩
def aBox (e : TypeId) (v : Value) : Option New := bif fits v then some ⟨ptrTo, .cells v.cells.toList e .rw⟩ else none

def fillL (place : Nat → Option (Nat × Nat)) (c : List Value) : List (Nat × Value) → Option (List Value)
  | [] => some c
  | (i, v) :: rest =>
    match place i with
    | none => none
    | some (off, size) => if v.cells.size = size ∧ fits v = true then (splice c off v.cells.toList).bind fun c' => fillL place c' rest else none

def aBuild (t : TypeId) (parts : List (Nat × Value)) : Option Value :=
  (aZero G t).bind fun z =>
  match G.und t with
  | some (.struct fs) => (fillL (fun i => (fs[i]?).bind fun f => (aSize G f.type).map fun n => (f.offset, n)) z.cells.toList parts).map fun l => .agg l.toArray
  | some (.array _ e) => (aSize G e).bind fun n => (fillL (fun i => some (i * n, n)) z.cells.toList parts).map fun l => .agg l.toArray
  | _ => none

def rep (c : List Value) : Nat → List Value
  | 0 => []
  | n + 1 => c ++ rep c n

def aBuildSlice (t : TypeId) (len : Nat) (parts : List (Nat × Value)) : Option New :=
  match G.und t with
  | some (.slice e) => (aSize G e).bind fun n => if len * n ≤ 2 ^ 20 ∧ n ≠ 0 then (aZero G e).bind fun z => (fillL (fun i => some (i * n, n)) (rep z.cells.toList len) parts).map fun c =>
      ⟨sliceTo len len, .cells c e .rw⟩ else none
  | _ => none

def aMakeSlice (t : TypeId) (len cap : Value) : Option New :=
  match len, cap with
  | .int _ l, .int _ c =>
    match G.und t with
    | some (.slice e) => (G.info e).bind fun i =>
      if 0 ≤ l ∧ l ≤ c ∧ c < small ∧ i.size ≠ 0 ∧ i.bytes ≤ 1024 then i.zero.map fun z =>
        ⟨sliceTo l.toNat c.toNat, .cells (rep z.cells.toList c.toNat) e .rw⟩ else none
    | _ => none
  | _, _ => none

def aMakeMap : New := ⟨mapTo, .map [] 0⟩

/-- the cells that an appended or copied value has -/
def aCells (h : Hp) (n : Nat) : Value → Option (Nat × List Value)
  | .slice none len _ => if len = 0 then some (0, []) else none
  | .slice (some ⟨b, o, none⟩) len _ =>
    match h.get b with
    | some (.cells c _ _) => (cut c o (len * n)).map fun l => (len, l)
    | _ => none
  | .string s => bif Nat.beq n 1 then some (s.size, s.data.toList.map fun x => .int .u8 x.toNat) else none
  | _ => none

def blockOf : Value → Option Nat
  | .slice (some a) _ _ => some a.block
  | _ => none

def aAppend (h : Hp) (t : TypeId) (s x : Value) : Option Res :=
  match G.und t with
  | some (.slice e) => (G.info e).bind fun i =>
    if i.size = 0 ∨ i.bytes > 1024 ∨ i.zero.isNone = true then none else
    (aCells h i.size x).bind fun (k, new) =>
    match s with
    | .slice none 0 0 => if k = 0 then some (.val s h) else if k < small then some (.val (.slice (some ⟨h.next, 0, none⟩) k 0) (h.new (.cells new e (.opn i.size)))) else none
    | .slice (some ⟨b, o, none⟩) len cap =>
      if k + len ≥ small then none else
      match h.get b with
      | some (.cells c e' md) => (cut c o (len * i.size)).bind fun old =>
        match md with
        | .opn sz =>
          if k = 0 then some (.val s h)
          else if e = e' ∧ i.size = sz ∧ blockOf x ≠ some b then
            some (.val (.slice (some ⟨h.next, 0, none⟩) (len + k) 0) ((h.put b .dead).new (.cells (old ++ new) e (.opn sz))))
          else none
        | md =>
          if len + k ≤ cap then
            (if k = 0 then some (.val s h) else
             match md with
             | .ro => none
             | _ => (splice c (o + len * i.size) new).map fun c' => .val (.slice (some ⟨b, o, none⟩) (len + k) cap) (h.put b (.cells c' e' md)))
          else some (.val (.slice (some ⟨h.next, 0, none⟩) (len + k) 0) (h.new (.cells (old ++ new) e (.opn i.size))))
      | _ => none
    | _ => none
  | _ => none


def isRow : Value → Bool
  | .slice _ _ _ => true
  | .string _ => true
  | _ => false

def aTake (h : Hp) (n len : Nat) (s : Value) : Option (Nat × List Value) :=
  match s with
  | .slice none 0 _ => some (0, [])
  | .slice (some ⟨b', o', none⟩) len' _ =>
    match h.get b' with
    | some (.cells c _ _) => (cut c o' (Nat.min len' len * n)).map fun l => (Nat.min len' len, l)
    | _ => none
  | .string s => bif Nat.beq n 1 then some (Nat.min s.size len, (s.data.toList.take (Nat.min s.size len)).map fun (x : UInt8) => Value.int .u8 x.toNat) else none
  | _ => none

def aCopy (h : Hp) (t : TypeId) (d s : Value) : Option Res :=
  match G.und t with
  | some (.slice e) => (aSize G e).bind fun n =>
    match d with
    | .slice (some ⟨b, o, none⟩) len _ =>
      (aTake h n len s).bind fun (k, l) =>
      match h.get b with
      | some (.cells c e' md) => bif Nat.beq k 0 then some (.val (iv 0) h) else
        match md with
        | .ro => none
        | _ => (splice c o l).map fun c' => .val (iv k) (h.put b (.cells c' e' md))
      | _ => none
    | _ => none
  | _ => none

def aClear (h : Hp) (t : TypeId) (x : Value) : Option Res :=
  match G.und t, x with
  | some (.slice e), .slice (some ⟨b, o, none⟩) len _ => (aZero G e).bind fun z =>
    bif Nat.beq len 0 then some (.val undef h) else
    match h.get b with
    | some (.cells c e' md) =>
      match md with
      | .ro => none
      | _ => (splice c o (rep z.cells.toList len)).map fun c' => .val undef (h.put b (.cells c' e' md))
    | _ => none
  | some (.map _ _), .map (some r) =>
    match h.get r with
    | some (.map _ clock) => some (.val undef (h.put r (.map [] clock)))
    | _ => none
  | _, _ => none

/-- a key that may be asked without a panic: no interface in it -/
def aKeyOk : Nat → TypeId → Value → Bool
  | 0, _, _ => false
  | d + 1, t, v =>
    match G.und t, v with
    | some (.struct fs), .agg cs => fs.toList.all fun f => !(f.name == "_") && (match aPart G f.type cs.toList f.offset with | some x => aKeyOk d f.type x | none => false)
    | some (.bool), .bool _ | some (.int _), .int _ _ | some .string, .string _ => true
    | _, _ => false

def aFind (kt : TypeId) (k : Value) : List MapEntry → Nat → Option (Option (Nat × MapEntry))
  | [], _ => some none
  | e :: es, i => (aEq G 20 kt k e.key).bind fun b => bif b then some (some (i, e)) else aFind kt k es (i + 1)

def aAsk (kt : TypeId) (k : Value) (es : List MapEntry) : Option (Option (Nat × MapEntry)) :=
  bif aKeyOk G 20 kt k then aFind G kt k es 0 else none

def aLookup (h : Hp) (t : TypeId) (m k : Value) (ok : Bool) : Option Value :=
  match G.und t with
  | some (.map kt et) =>
    (match m with
      | .map none => some []
      | .map (some r) => (match h.get r with | some (.map es _) => some es | _ => none)
      | _ => none).bind fun es => (aAsk G kt k es).bind fun r =>
    (match r with
      | some (_, e) => some (e.val, true)
      | none => (aZero G et).map fun z => (z, false)).map fun (v, b) => if ok then .tuple #[v, .bool b] else v
  | _ => none

/-- two keys alike to the bit -/
def sBeq : Value → Value → Bool
  | .bool a, .bool b => a == b
  | .int j a, .int k b => j == k && a == b
  | .string a, .string b => bytesEq a b
  | _, _ => false
def kBeqs : List Value → List Value → Bool
  | [], [] => true
  | a :: r, b :: s => sBeq a b && kBeqs r s
  | _, _ => false
def kBeq : Value → Value → Bool
  | .agg a, .agg b => kBeqs a.toList b.toList
  | a, b => sBeq a b

def aUpdate (h : Hp) (t : TypeId) (m k v : Value) : Option Hp :=
  match G.und t, m with
  | some (.map kt _), .map (some r) =>
    match h.get r with
    | some (.map es clock) => (aAsk G kt k es).bind fun x =>
      match x with
      | some (i, e) => bif kBeq e.key k then some (h.put r (.map (es.modify i fun e => { e with key := k, val := v }) clock)) else none
      | none => some (h.put r (.map (es ++ [{ key := k, val := v, born := clock }]) (clock + 1)))
    | _ => none
  | _, _ => none

def aDelete (h : Hp) (t : TypeId) (m k : Value) : Option Res :=
  match G.und t, m with
  | some (.map kt _), .map (some r) =>
    match h.get r with
    | some (.map es clock) => (aAsk G kt k es).map fun x =>
      match x with
      | some (i, _) => .val undef (h.put r (.map (es.eraseIdx i) clock))
      | none => .val undef h
    | _ => none
  | _, _ => none

def aLen (h : Hp) (t : TypeId) (x : Value) : Option Value :=
  match G.und t, x with
  | some .string, .string s => some (iv s.size)
  | some (.array n _), _ => some (iv n)
  | some (.slice _), .slice _ n _ => some (iv n)
  | some (.map _ _), .map none => some (iv 0)
  | some (.map _ _), .map (some r) => (match h.get r with | some (.map es _) => some (iv es.length) | _ => none)
  | _, _ => none

def aRange (h : Hp) (t : TypeId) (x : Value) : Option Res :=
  (match G.und t, x with
    | some (.map _ _), .map none => some (Ob.iter none 0 [] 0)
    | some (.map _ _), .map (some m) => (match h.get m with | some (.map _ clock) => some (.iter (some m) clock [] clock) | _ => none)
    | _, _ => none).map fun o => .val (.pointer (some ⟨h.next, 0, none⟩)) (h.new o)

/-- the next entry of a map: where there is but one that can come -/
def aNext (h : Hp) (it : Value) (isString : Bool) : Option Res :=
  match it with
  | .pointer (some ⟨r, 0, none⟩) =>
    match h.get r, isString with
    | some (.iter none _ _ _), false => some (.val (.tuple #[.bool false]) h)
    | some (.iter (some m) since seen last), false =>
      match h.get m with
      | some (.map es clock) =>
        let left := es.filter fun e => !seen.contains e.born
        if !seen.isEmpty && !es.isEmpty && es.all (fun e => decide (e.born ≥ last)) then none else
        match left with
        | [] => some (.val (.tuple #[.bool false]) h)
        | [e] => if e.born < since then some (.val (.tuple #[.bool true, e.key, e.val]) (h.put r (.iter (some m) since (seen ++ [e.born]) clock))) else none
        | _ => none
      | _ => none
    | _, _ => none
  | _ => none

/-- what an iterator's last step stands at -/
def aEntry (h : Hp) (it : Value) : Option Value :=
  match it with
  | .pointer (some ⟨r, 0, none⟩) =>
    match h.get r with
    | some (.iter (some m) _ seen stepped) =>
      match h.get m, seen.getLast? with
      | some (.map es clock), some stamp => if clock = stepped then (es.find? fun e => Nat.beq e.born stamp).map fun e => .tuple #[e.key, e.val] else none
      | _, _ => none
    | _ => none
  | _ => none

def aMapEntry (h : Hp) (t : TypeId) (m k : Value) : Option Res :=
  match G.und t, m with
  | some (.map kt et), .map (some r) =>
    match h.get r with
    | some (.map es clock) => (aAsk G kt k es).bind fun x =>
      match x with
      | some (i, e) => bif kBeq e.key k then some (.val (.tuple #[e.val, iv e.born]) (h.put r (.map (es.modify i fun e => { e with key := k }) clock))) else none
      | none => (aZero G et).map fun z => .val (.tuple #[z, iv clock]) (h.put r (.map (es ++ [{ key := k, val := z, born := clock }]) (clock + 1)))
    | _ => none
  | _, _ => none

def aEntryStore (h : Hp) (m s v : Value) : Option Hp :=
  match m, s with
  | .map (some r), .int _ b =>
    match h.get r with
    | some (.map es clock) => (es.findIdx? fun e => (e.born : Int) == b).map fun i => h.put r (.map (es.modify i fun e => { e with val := v }) clock)
    | _ => none
  | _, _ => none

def aMin : Int → List Value → Option Int
  | x, [] => some x
  | x, .int _ y :: r => aMin (if y < x then y else x) r
  | _, _ => none
def aMax : Int → List Value → Option Int
  | x, [] => some x
  | x, .int _ y :: r => aMax (if y > x then y else x) r
  | _, _ => none

def aStill (b : Builtin) (ts : List TypeId) (h : Hp) (args : List Value) : Option Value :=
  match b, ts, args with
  | .len, t :: _, [x] => aLen G h t x
  | .cap, t :: _, [.slice (some ⟨b, _, none⟩) _ c] =>
    match G.und t, h.get b with
    | some (.slice _), some (.cells _ _ (.opn _)) => none
    | some (.slice _), some (.cells _ _ _) => some (iv c)
    | _, _ => none
  | .cap, t :: _, [.slice none _ c] => (match G.und t with | some (.slice _) => some (iv c) | _ => none)
  | .min, _, .int k x :: r => (aMin x r).map (.int k)
  | .max, _, .int k x :: r => (aMax x r).map (.int k)
  | _, _, _ => none

def aBuiltin (b : Builtin) (ts : List TypeId) (h : Hp) (args : List Value) : Option Res :=
  match b, ts, args with
  | .append, t :: u :: _, [s, x] => (G.und u).bind fun d => match d with | .slice _ => aAppend G h t s x | .string => aAppend G h t s x | _ => none
  | .copy, t :: _, [d, s] => aCopy G h t d s
  | .clear, t :: _, [x] => aClear G h t x
  | .delete, t :: _, [m, k] => aDelete G h t m k
  | .panic, _, [.iface t v] => some (.pan (.iface t v) h)
  | _, _, _ => none

def aConvert (src dst : TypeId) (x : Value) : Option Value :=
  match G.und src, G.und dst, x with
  | some (.int _), some (.int k), .int _ n => some (.int k (k.wrap n))
  | some .string, some .string, .string s => some (.string s)
  | _, _, _ => none

def aConvertH (h : Hp) (src dst : TypeId) (x : Value) : Option Res :=
  match G.und src, G.und dst, x with
  | some .string, some (.slice e), .string s =>
    match G.und e, aSize G e with
    | some (.int .u8), some 1 => if s.size < small then some (.val (.slice (some ⟨h.next, 0, none⟩) s.size 0) (h.new (.cells (s.data.toList.map fun x => .int .u8 x.toNat) e (.opn 1)))) else none
    | _, _ => none
  | _, _, _ => (aConvert G src dst x).map fun v => .val v h

def aAssert (x : Value) (_xType asserted : TypeId) (ok : Bool) : Option Value :=
  match G.und asserted, x with
  | some (.interface _), _ => none
  | some _, .iface t v => if t = asserted then some (if ok then .tuple #[v, .bool true] else v) else if ok then (aZero G asserted).map fun z => .tuple #[z, .bool false] else none
  | some _, .nilIface => if ok then (aZero G asserted).map fun z => .tuple #[z, .bool false] else none
  | _, _ => none

def outRes : Out × Hp → Option Res
  | (.ret v, h) => some (.val v h)
  | (.pan [e], h) => if e.recovered = false ∧ e.goexit = false then some (.pan e.v h) else none
  | _ => none

/-- the function behind a method of a value in an interface, and its receiver: the method is the type's own, or one step of a pointer's field away -/
def aMethod (h : Hp) (t : TypeId) (v : Value) (name : String) : Option (FuncId × Value) :=
  (G.info t).bind fun i => (i.methods.toList.find? fun m => m.name == name).bind fun m => m.func.bind fun (f, ptr) =>
    match m.path.toList with
    | [] =>
      match G.und t, ptr with
      | some (.pointer _), true => some (f, v)
      | some (.pointer _), false => none
      | some _, false => some (f, v)
      | _, _ => none
    | [s] =>
      bif s.deref then
        match G.und s.struct with
        | some (.struct fs) => (fs[s.index]?).bind fun fd => (aField G s.struct v s.index).bind fun a =>
          match G.und fd.type, ptr with
          | some (.pointer _), _ => none
          | some _, true => some (f, a)
          | some _, false => (aLoad G h fd.type a).map fun x => (f, x)
          | none, _ => none
        | _ => none
      else none
    | _ => none

def aCall (r : Ev) (f : FuncId) (args : List Value) (h : Hp) : Option Res := (r.call f args h).bind outRes

/-- operations that leave all as it is -/
def sStep (e : Env) (h : Hp) (o : Oper) : Option Value :=
  match o.op with
  | .move x | .assign x => some (e.opd x)
  | .pick c a b => (match e.opd c with | .bool t => some (if t then e.opd a else e.opd b) | _ => none)
  | .build t parts => aBuild G t (parts.toList.map fun (i, x) => (i, e.opd x))
  | .load t a => aLoad G h t (e.opd a)
  | .nilCheck x => (match e.opd x with | .pointer (some a) => some (.pointer (some a)) | .func (.func f) a b => some (.func (.func f) a b) | .iface t v => some (.iface t v) | _ => none)
  | .binOp op t x y _ => aBin G (isConst x || isConst y) op t (e.opd x) (e.opd y)
  | .unOp op _ x => aUn op (e.opd x)
  | .convert s d x => aConvert G s d (e.opd x)
  | .makeInterface t x => (match G.und t with | some (.interface _) => none | some _ => some (.iface t (e.opd x)) | none => none)
  | .makeFunc fn first captured => some (.func fn (first.map e.opd) (captured.map e.opd))
  | .slice t x lo hi mx => aSlice G h t (e.opd x) (lo.map e.opd) (hi.map e.opd) (mx.map e.opd)
  | .fieldAddr t x f => aField G t (e.opd x) f
  | .field t x f => aFieldV G t (e.opd x) f
  | .indexAddr t x i => aIndexAddr G t (e.opd x) (e.opd i)
  | .index t x i => aIndex G t (e.opd x) (e.opd i)
  | .lookup t x i ok => aLookup G h t (e.opd x) (e.opd i) ok
  | .entry it => aEntry h (e.opd it)
  | .typeAssert x t a ok => aAssert G (e.opd x) t a ok
  | .extract t i => (match e.opd t with | .tuple vs => vs[i]? | _ => none)
  | .call c => (match c.callee with
    | .builtin b => aStill G b c.argTypes.toList h (c.args.toList.map e.opd)
    | _ => none)
  | _ => none

/-- operations that make a block, and leave all else as it is -/
def nStep (e : Env) (o : Oper) : Option New :=
  match o.op with
  | .alloc t => aAlloc G t
  | .box t x => aBox t (e.opd x)
  | .buildSlice t len parts => aBuildSlice G t len (parts.toList.map fun (i, x) => (i, e.opd x))
  | .makeMap _ none => some aMakeMap
  | .makeMap t (some x) => (match G.und t, e.opd x with | some (.map _ _), .int _ _ => some aMakeMap | _, _ => none)
  | .makeSlice t l c => aMakeSlice G t (e.opd l) (e.opd c)
  | _ => none

/-- all others -/
def eStep (r : Ev) (e : Env) (h : Hp) (o : Oper) : Option Res :=
  match o.op with
  | .store t a x => (aStore G h t (e.opd a) (e.opd x)).map (.val undef)
  | .convert s d x => aConvertH G h s d (e.opd x)
  | .mapUpdate t m k x | .insert t m k x => (aUpdate G h t (e.opd m) (e.opd k) (e.opd x)).map (.val undef)
  | .mapEntry t m k => aMapEntry G h t (e.opd m) (e.opd k)
  | .entryStore _ m s x => (aEntryStore h (e.opd m) (e.opd s) (e.opd x)).map (.val undef)
  | .range t x => aRange G h t (e.opd x)
  | .next it s => aNext h (e.opd it) s
  | .panic x => (match e.opd x with | .iface t v => some (.pan (.iface t v) h) | _ => none)
  | .call c => (match c.callee with
    | .builtin b => aBuiltin G b c.argTypes.toList h (c.args.toList.map e.opd)
    | .value f => (match e.opd f with
      | .func (.func f) first captured => aCall r f (first.toList ++ c.args.toList.map e.opd ++ captured.toList) h
      | _ => none)
    | .invoke x name => (match e.opd x with
      | .iface t v => (aMethod G h t v name).bind fun (f, v) => aCall r f (v :: c.args.toList.map e.opd) h
      | _ => none))
  | .defer c => (match c.callee with
    | .value f => (match e.opd f with
      | .func (.func f) first captured => some (.dfr { target := .fn (.func f) captured, args := first ++ c.args.map e.opd })
      | _ => none)
    | _ => none)
  | _ => none

def opStep (r : Ev) (e : Env) (h : Hp) (o : Oper) : Option Res :=
  match sStep G e h o with
  | some v => some (.val v h)
  | none =>
    match nStep G e o with
    | some n => some (.val (n.to h.next) (h.new n.ob))
    | none => eStep G r e h o

def Env.put (e : Env) (d : Option Tmp) (v : Value) : Env :=
  match d with
  | some d => if d < e.n then { e with tmps := e.tmps.set d v } else e
  | none => e

def wantedA (ops : Array Oper) (e : Env) (o : Oper) : Bool :=
  match o.guard with
  | none => true
  | some (j, want) => match ((ops[j]?).bind (·.dst)) with
    | some d => (match e.val d with | .bool b => b == want | _ => false)
    | none => false

def opsStep (r : Ev) (all : Array Oper) : List Oper → Env → Hp → Option (Ex × Env × Hp)
  | [], e, h => some (.normal, e, h)
  | o :: rest, e, h =>
    bif wantedA all e o then
      (opStep G r e h o).bind fun x => match x with
        | .val v h => opsStep r all rest (Env.put e o.dst v) h
        | .pan v h => some (.pan [{ v, recovered := false }], e, h)
        | .dfr d => opsStep r all rest (Env.put { e with defers := d :: e.defers } o.dst undef) h
    else opsStep r all rest (Env.put e o.dst undef) h

/-- has an effect on what was there, or runs code -/
def isEff : Op → Bool
  | .store .. | .mapUpdate .. | .insert .. | .mapEntry .. | .entryStore .. | .next .. | .range .. | .panic _ => true
  | .call c => (match c.callee with
    | .builtin b => (match b with | .len | .cap | .min | .max => false | _ => true)
    | _ => true)
  | _ => false

def looseOf (info : RegInfo) (i : Nat) : List Nat := ((info.loose.find? fun p => Nat.beq p.1 i).map (·.2)).getD []

structure Pend where
  i : Nat
  o : Oper
  e : Env
  v : Value

def lBeq (f : Value → Value → Bool) : List Value → List Value → Bool
  | [], [] => true
  | a :: r, b :: s => f a b && lBeq f r s
  | _, _ => false

def vBeq : Nat → Value → Value → Bool
  | 0, _, _ => false
  | n + 1, x, y =>
    match x, y with
    | .bool a, .bool b => a == b
    | .int j a, .int k b => decide (j = k) && decide (a = b)
    | .string a, .string b => bytesEq a b
    | .pointer a, .pointer b => decide (a = b)
    | .slice a l c, .slice b m d => decide (a = b) && Nat.beq l m && Nat.beq c d
    | .map a, .map b => decide (a = b)
    | .nilFunc, .nilFunc => true
    | .nilIface, .nilIface => true
    | .iface t v, .iface u w => Nat.beq t u && vBeq n v w
    | .agg a, .agg b => lBeq (vBeq n) a.toList b.toList
    | .tuple a, .tuple b => lBeq (vBeq n) a.toList b.toList
    | _, _ => false

/-- what a reading operation answers is the same in another state -/
def sameAt (o : Oper) (e : Env) (v : Value) (h : Hp) : Bool :=
  match sStep G e h o with
  | some v' => vBeq 8 v v'
  | _ => false

def stands (info : RegInfo) (hist : List (Nat × Hp)) (h : Hp) (p : Pend) : Bool :=
  !(hist.any fun q => decide (p.i < q.1) && (looseOf info p.i).contains q.1) || (hist.any fun q => decide (p.i < q.1) && !(looseOf info p.i).contains q.1) || sameAt G p.o p.e p.v h

/-- a region whose order is drawn, gone through in the order of the text; what might come at another time is looked at there too -/
def drawStep (r : Ev) (info : RegInfo) (all : Array Oper) : List Oper → Nat → Env → Hp → List (Nat × Hp) → List Pend → Option (Ex × Env × Hp)
  | [], _, e, h, hist, pend => bif pend.all (stands G info hist h) then some (.normal, e, h) else none
  | o :: rest, i, e, h, hist, pend =>
    bif wantedA all e o then
      bif isEff o.op then
        bif pend.all (stands G info hist h) then
          (eStep G r e h o).bind fun x => match x with
            | .val v h' => drawStep r info all rest (i + 1) (Env.put e o.dst v) h' ((i, h) :: hist) pend
            | .pan v h' => bif info.last.contains i then some (.pan [{ v, recovered := false }], e, h') else none
            | .dfr _ => none
        else none
      else
        match sStep G e h o with
        | some v =>
          match looseOf info i with
          | [] => drawStep r info all rest (i + 1) (Env.put e o.dst v) h hist pend
          | l => bif hist.all fun q => !l.contains q.1 || sameAt G o e v q.2 then drawStep r info all rest (i + 1) (Env.put e o.dst v) h hist (⟨i, o, e, v⟩ :: pend) else none
        | none =>
          (nStep G e o).bind fun n => match h.get h.next with
            | some _ => none
            | none => drawStep r info all rest (i + 1) (Env.put e o.dst (n.to h.next)) (h.new n.ob) hist pend
    else drawStep r info all rest (i + 1) (Env.put e o.dst undef) h hist pend

def resTmp : ResultVar → Tmp
  | .tmp t => t
  | .cell a _ => a

def dstIs (t : Tmp) (o : Oper) : Bool := match o.dst with | some d => Nat.beq d t | none => false

def keepTmps (ops : Array Oper) (tmps : Tr Value) : List Tmp → Tr Value
  | [] => .nil
  | t :: ts =>
    bif ops.toList.any (dstIs t) then keepTmps ops tmps ts else
    match tmps.get t with
    | some v => (keepTmps ops tmps ts).set t v
    | none => keepTmps ops tmps ts

/-- behind a panic in a region whose order is drawn, what is sure of the temporaries that a function's results lie in -/
def forget (ops : Array Oper) (e : Env) : Env := { e with tmps := keepTmps ops e.tmps (((G.fn e.fn).map fun f => f.results.toList.map resTmp).getD []) }

def drawn (ops : Array Oper) (e : Env) (x : Ex × Env × Hp) : Ex × Env × Hp :=
  match x with
  | (.pan ch, _, h) => (.pan ch, forget G ops e, h)
  | x => x

def codeStep (r : Ev) (c : Code) (e : Env) (h : Hp) : Option (Ex × Env × Hp) :=
  match c with
  | .skip | .label _ => some (.normal, e, h)
  | .seq a b => (r.code a e h).bind fun x => match x with
    | (.normal, e, h) => r.code b e h
    | x => some x
  | .cond c a b => (match e.opd c with | .bool t => r.code (if t then a else b) e h | _ => none)
  | .block id b => (r.code b e h).bind fun x => match x with
    | (.exit id', e, h) => if id' = id then some (.normal, e, h) else some (.exit id', e, h)
    | x => some x
  | .loop b => (r.code b e h).bind fun x => match x with
    | (.normal, e, h) => r.code (.loop b) e h
    | x => some x
  | .region id ops draw => bif draw then (G.reg e.fn id).bind fun info => (drawStep G r info ops ops.toList 0 e h [] []).map (drawn G ops e) else opsStep G r ops ops.toList e h
  | .exit id => some (.exit id, e, h)
  | .ret => some (.ret, e, h)
  | _ => none

def tmpsOf : Nat → List Value → Tr Value → Tr Value
  | _, [], t => t
  | i, v :: vs, t => tmpsOf (i + 1) vs (t.set i v)

def resVals (e : Env) (h : Hp) : List ResultVar → Option (List Value)
  | [] => some []
  | .tmp t :: r => (e.tmps.get t).bind fun v => (resVals e h r).map (v :: ·)
  | .cell a t :: r => (e.tmps.get a).bind fun a => (aLoad G h t a).bind fun v => (resVals e h r).map (v :: ·)

def resVal : List Value → Value
  | [v] => v
  | l => .tuple l.toArray

/- functions that have no Go body, or are taken whole -/
def specClone (args : List Value) (h : Hp) : Option (Value × Hp) :=
  match args with
  | [.iface t (.map (some r))] =>
    match h.get r with
    | some (.map es clock) => some (.iface t (.map (some h.next)), h.new (.map es clock))
    | _ => none
  | _ => none

def specOverlaps (n : Nat) (args : List Value) (h : Hp) : Option (Value × Hp) :=
  match args with
  | [.slice (some ⟨a, o, none⟩) la _, .slice (some ⟨b, p, none⟩) lb _] =>
    bif Nat.beq la 0 || Nat.beq lb 0 || Nat.beq n 0 then some (.bool false, h) else
    match h.get a, h.get b with
    | some (.cells _ _ _), some (.cells _ _ _) => some (.bool (Nat.beq a b && decide (o < p + lb * n) && decide (p < o + la * n)), h)
    | _, _ => none
  | [.slice none _ _, .slice _ _ _] => some (.bool false, h)
  | [.slice (some _) _ _, .slice none _ _] => some (.bool false, h)
  | _ => none

/-- 'append each key of the map', where there is at most one -/
def specAppendKeys (keys : FuncId) (st : TypeId) (args : List Value) (h : Hp) : Option (Value × Hp) :=
  match args with
  | [s, .func (.func f) first captured] =>
    if f = keys ∧ first.size = 0 then
      match captured.toList with
      | [.pointer (some ⟨b, 0, none⟩)] =>
        match h.get b with
        | some (.cells [.map none] _ _) => some (s, h)
        | some (.cells [.map (some r)] _ _) =>
          match h.get r with
          | some (.map [] _) => some (s, h)
          | some (.map [x] _) =>
            let h1 := h.new (.cells x.key.cells.toList 0 .rw)
            match aAppend G h1 st s (.slice (some ⟨h.next, 0, none⟩) 1 1) with
            | some (.val v h2) => some (v, h2)
            | _ => none
          | _ => none
        | _ => none
      | _ => none
    else none
  | _ => none

def isRecover (o : Oper) : Bool :=
  match o.op with
  | .call { callee := .builtin .recover, .. } => true
  | _ => false

def dOps (r : Ev) (all : Array Oper) : List Oper → Env → Hp → Rc → Option (Ex × Env × Hp × Rc)
  | [], e, h, rc => some (.normal, e, h, rc)
  | o :: rest, e, h, rc =>
    bif wantedA all e o then
      bif isRecover o then
        match rc with
        | .avail v => dOps r all rest (Env.put e o.dst v) h .taken
        | rc => dOps r all rest (Env.put e o.dst .nilIface) h rc
      else
      (opStep G r e h o).bind fun x => match x with
        | .val v h => dOps r all rest (Env.put e o.dst v) h rc
        | _ => none
    else dOps r all rest (Env.put e o.dst undef) h rc

def dcodeStep (r : Ev) (c : Code) (e : Env) (h : Hp) (rc : Rc) : Option (Ex × Env × Hp × Rc) :=
  match c with
  | .seq a b => (r.dcode a e h rc).bind fun x => match x with
    | (.normal, e, h, rc) => r.dcode b e h rc
    | x => some x
  | .cond c a b => (match e.opd c with | .bool t => r.dcode (if t then a else b) e h rc | _ => none)
  | .region _ ops false => bif ops.toList.any isRecover then dOps G r ops ops.toList e h rc else (r.code c e h).map fun (x, e, h) => (x, e, h, rc)
  | c => (r.code c e h).map fun (x, e, h) => (x, e, h, rc)

/-- a deferred call: what it leaves, and what is left to recover -/
def dcall (r : Ev) (f : FuncId) (args : List Value) (h : Hp) (rc : Rc) : Option (Hp × Rc) :=
  (G.fn f).bind fun fn => fn.body.bind fun c => (r.dcode c ⟨f, tmpsOf 0 args .nil, max fn.ntmps args.length, []⟩ h rc).bind fun x =>
    match x with
    | (.normal, e, h, rc) | (.ret, e, h, rc) => bif e.defers.isEmpty && fn.results.toList.isEmpty then some (h, rc) else none
    | _ => none

/-- the deferred calls of a frame that ends, one by one; what they leave: the panic that goes on, or none -/
def leave (r : Ev) : List Deferred → Rc → Hp → Option (Rc × Hp)
  | [], rc, h => some (rc, h)
  | d :: ds, rc, h =>
    match d.target with
    | .fn (.func f) c => (dcall G r f (d.args.toList ++ c.toList) h rc).bind fun (h, rc') => leave r ds (match rc' with | .taken => .nothing | x => x) h
    | _ => none

def callStep (r : Ev) (f : FuncId) (args : List Value) (h : Hp) : Option (Out × Hp) :=
  match G.spec f with
  | some s => (s args h).map fun (v, h) => (.ret v, h)
  | none =>
  (G.fn f).bind fun fn => fn.body.bind fun c => (r.code c ⟨f, tmpsOf 0 args .nil, max fn.ntmps args.length, []⟩ h).bind fun x =>
    match x with
    | (.normal, e, h) | (.ret, e, h) => (leave G r e.defers .nothing h).bind fun (rc, h) =>
      match rc with
      | .nothing => (resVals G e h fn.results.toList).map fun l => (.ret (resVal l), h)
      | _ => none
    | (.pan ch, e, h) =>
      match ch with
      | [⟨v, false, false⟩] => (leave G r e.defers (.avail v) h).bind fun (rc, h) =>
        match rc with
        | .nothing => (resVals G e h fn.results.toList).map fun l => (.ret (resVal l), h)
        | .avail v => some (.pan [⟨v, false, false⟩], h)
        | .taken => none
      | _ => none
    | _ => none

/- what is asked of the text of a function -/
def scalarC : Value → Bool
  | .bool _ | .int _ _ | .string _ | .pointer none | .slice none _ _ | .map none | .nilFunc | .nilIface => true
  | _ => false
def plainC : Value → Bool
  | .agg cs => cs.toList.all scalarC
  | .iface _ v => scalarC v
  | v => scalarC v
def okOpd : Operand → Bool
  | .tmp _ | .func _ => true
  | .const v => plainC v
  | .global _ => false

/-- what an operation answers may hang on what memory holds -/
def reads : Op → Bool
  | .load .. | .lookup .. | .entry _ | .slice .. => true
  | .call _ => true
  | _ => false

def ordA (b : Array Nat) (i j : Nat) : Bool := (b.getD (max i j) 0).testBit (min i j)

/-- the temporaries that an operation looks at -/
def looks (ops : Array Oper) (o : Oper) : List Tmp :=
  (o.op.operands.toList.filterMap fun | .tmp t => some t | _ => none) ++
  (match o.guard with
   | some (g, _) => ((ops[g]?).bind (·.dst)).toList
   | none => [])

/-- of a region whose order is drawn: that the order does not matter but for what the evaluator looks at -/
def drawOk (info : RegInfo) (ops : Array Oper) : Bool :=
  let b := Region.before ops
  let l := ops.toList.zipIdx
  l.all fun (o, i) =>
    (o.after.toList.all fun e => !Region.binds .any e || decide (e.on < i)) &&
    (l.all fun (p, k) => Nat.beq i k ||
      ((match p.dst with
        | some d => !(looks ops o).contains d || ordA b i k
        | none => true) &&
       (match o.dst, p.dst with
        | some d, some d' => !Nat.beq d d'
        | _, _ => true) &&
       (!(isEff p.op) || ((!(isEff o.op) || ordA b i k) && (!(reads o.op) || ordA b i k || (looseOf info i).contains k))) &&
       (!(info.last.contains i && decide (i < k)) || ordA b i k)))

def codeOk (fn : FuncId) : Code → Bool
  | .region id ops draw => (ops.toList.all fun o => o.op.operands.toList.all okOpd) && (!draw || (match G.reg fn id with | some info => drawOk info ops | none => true))
  | .seq a b => codeOk fn a && codeOk fn b
  | .cond c a b => okOpd c && codeOk fn a && codeOk fn b
  | .block _ b => codeOk fn b
  | .loop b => codeOk fn b
  | .scope b => codeOk fn b
  | _ => true

def Ev.step (r : Ev) : Ev := ⟨codeStep G r, callStep G r, dcodeStep G r⟩
def ev : Nat → Ev
  | 0 => Ev.bot
  | n + 1 => Ev.step G (ev n)
end
end
end Go.AE
