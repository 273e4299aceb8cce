/- An evaluator of the model's code over an abstract heap; what its values and rows stand for, and what reading operations do. -/
import Derived.Orders
import Derived.Laws.Sem
import Derived.Laws.World
import Derived.Laws.StructEq
import Derived.ChangeKeysEq
namespace Go.AE
noncomputable section

inductive Tr (α : Type) where
  | nil : Tr α
  | node (l : Tr α) (v : Option α) (r : Tr α) : Tr α

/- by the recursors themselves: the kernel works these out many times -/
noncomputable def Tr.get {α : Type} (t : Tr α) : Nat → Option α :=
  Tr.rec (motive := fun _ => Nat → Option α) (fun _ => none)
    (fun _ v _ l r n => Nat.rec v (fun m _ => Bool.rec (r (Nat.shiftRight m 1)) (l (Nat.shiftRight m 1)) (Nat.beq (Nat.land m 1) 0)) n) t

noncomputable def Tr.setF {α : Type} (f : Nat) : Tr α → Nat → α → Tr α :=
  Nat.rec (motive := fun _ => Tr α → Nat → α → Tr α) (fun t _ _ => t)
    (fun _ ih t n x => Tr.rec (motive := fun _ => Tr α)
      (Nat.rec (.node .nil (some x) .nil) (fun m _ => Bool.rec (.node .nil none (ih .nil (Nat.shiftRight m 1) x)) (.node (ih .nil (Nat.shiftRight m 1) x) none .nil) (Nat.beq (Nat.land m 1) 0)) n)
      (fun l v r _ _ => Nat.rec (.node l (some x) r) (fun m _ => Bool.rec (.node l v (ih r (Nat.shiftRight m 1) x)) (.node (ih l (Nat.shiftRight m 1) x) v r) (Nat.beq (Nat.land m 1) 0)) n) t) f

theorem land_one (m : Nat) : Nat.land m 1 = m % 2 := Nat.and_one_is_mod m
theorem shift_one (m : Nat) : Nat.shiftRight m 1 = m / 2 := rfl
theorem bool_rec {β : Type} (b : Bool) (x y : β) : (Bool.rec x y b : β) = bif b then y else x := by cases b <;> rfl

theorem Tr.get_nil {α : Type} (n : Nat) : (Tr.nil : Tr α).get n = none := rfl
theorem Tr.get_zero {α : Type} (l r : Tr α) (v : Option α) : (Tr.node l v r).get 0 = v := rfl
theorem Tr.get_succ {α : Type} (l r : Tr α) (v : Option α) (n : Nat) : (Tr.node l v r).get (n + 1) = bif Nat.beq (n % 2) 0 then l.get (n / 2) else r.get (n / 2) := by
  rw [← land_one, ← shift_one, ← bool_rec]; rfl
theorem Tr.setF_nil_zero {α : Type} (f : Nat) (x : α) : Tr.setF (f + 1) .nil 0 x = .node .nil (some x) .nil := rfl
theorem Tr.setF_node_zero {α : Type} (f : Nat) (l r : Tr α) (v : Option α) (x : α) : Tr.setF (f + 1) (.node l v r) 0 x = .node l (some x) r := rfl
theorem Tr.setF_nil_succ {α : Type} (f n : Nat) (x : α) : Tr.setF (f + 1) .nil (n + 1) x = bif Nat.beq (n % 2) 0 then .node (Tr.setF f .nil (n / 2) x) none .nil else .node .nil none (Tr.setF f .nil (n / 2) x) := by
  rw [← land_one, ← shift_one, ← bool_rec]; rfl
theorem Tr.setF_node_succ {α : Type} (f n : Nat) (l r : Tr α) (v : Option α) (x : α) : Tr.setF (f + 1) (.node l v r) (n + 1) x = bif Nat.beq (n % 2) 0 then .node (Tr.setF f l (n / 2) x) v r else .node l v (Tr.setF f r (n / 2) x) := by
  rw [← land_one, ← shift_one, ← bool_rec]; rfl

def Tr.set {α : Type} (t : Tr α) (n : Nat) (x : α) : Tr α := Tr.setF (n + 1) t n x

/-- a row: not to be written; of a known size; of cells of so many a piece, with room that is not known -/
inductive Md where
  | ro | rw
  | opn (sz : Nat)
  deriving DecidableEq

inductive Ob where
  | cells (c : List Value) (elem : TypeId) (md : Md)
  | map (es : List MapEntry) (clock : Nat)
  | iter (m : Option Nat) (since : Nat) (seen : List Nat) (stepped : Nat)
  | sit (s : ByteArray) (pos : Nat)
  | dead

structure Hp where
  old : Nat → Option Ob
  tr : Tr Ob
  next : Nat

def Hp.get (h : Hp) (b : Nat) : Option Ob :=
  match h.tr.get b with
  | some o => some o
  | none => h.old b

def Hp.put (h : Hp) (b : Nat) (o : Ob) : Hp := { h with tr := h.tr.set b o }
def Hp.new (h : Hp) (o : Ob) : Hp := { h with tr := h.tr.set h.next o, next := h.next + 1 }

structure Env where
  fn : FuncId
  tmps : Tr Value
  n : Nat
  defers : List Deferred

def Env.val (e : Env) (t : Nat) : Value := (e.tmps.get t).getD undef
def Env.opd (e : Env) : Operand → Value
  | .tmp t => e.val t
  | .const v => v
  | .global g => .pointer (some ⟨g, 0, none⟩)
  | .func f => .func (.func f) #[] #[]

/-- of a region whose order is drawn: of an operation that reads, by its place, the places of the operations with an effect that it is not ordered with -/
structure RegInfo where
  loose : List (Nat × List Nat)
  /-- operations behind which, by the order, all later ones stand -/
  last : List Nat

structure Tabs where
  und : TypeId → Option TypeDesc
  info : TypeId → Option TypeInfo
  fn : FuncId → Option Func
  reg : FuncId → Nat → Option RegInfo
  /-- functions whose meaning is given from outside -/
  spec : FuncId → Option (List Value → Hp → Option (Value × Hp))

inductive Res where
  | val (v : Value) (h : Hp)
  | pan (v : Value) (h : Hp)
  | dfr (d : Deferred)

inductive Out where
  | ret (v : Value)
  | pan (chain : List PanicEntry)

inductive Ex where
  | normal
  | exit (id : Nat)
  | ret
  | pan (chain : List PanicEntry)

/-- what a deferred call may recover -/
inductive Rc where
  | nothing
  | avail (v : Value)
  | taken

structure Ev where
  code : Code → Env → Hp → Option (Ex × Env × Hp)
  call : FuncId → List Value → Hp → Option (Out × Hp)
  dcode : Code → Env → Hp → Rc → Option (Ex × Env × Hp × Rc)

def Ev.bot : Ev := ⟨fun _ _ _ => none, fun _ _ _ => none, fun _ _ _ _ => none⟩

def small : Nat := 2 ^ 32

def iv (n : Int) : Value := .int .i64 n

/-- a sum in range -/
def wrapAt (k : IntKind) (n : Int) : Int := k.wrap n

def aInt (op : BinOp) (k : IntKind) (x y : Int) : Option Value :=
  match op with
  | .add => some (.int k (k.wrap (x + y)))
  | .sub => some (.int k (k.wrap (x - y)))
  | .mul => some (.int k (k.wrap (x * y)))
  | .quo => if y = 0 then none else some (.int k (k.wrap (x.tdiv y)))
  | .rem => if y = 0 then none else some (.int k (x.tmod y))
  | .and => some (.int k (k.wrap (BitVec.ofInt k.bits x &&& BitVec.ofInt k.bits y).toNat))
  | .or => some (.int k (k.wrap (BitVec.ofInt k.bits x ||| BitVec.ofInt k.bits y).toNat))
  | .xor => some (.int k (k.wrap (BitVec.ofInt k.bits x ^^^ BitVec.ofInt k.bits y).toNat))
  | .andNot => some (.int k (k.wrap (BitVec.ofInt k.bits x &&& ~~~BitVec.ofInt k.bits y).toNat))
  | .eql => some (.bool (x == y))
  | .neq => some (.bool (x != y))
  | .lss => some (.bool (decide (x < y)))
  | .leq => some (.bool (decide (x ≤ y)))
  | .gtr => some (.bool (decide (x > y)))
  | .geq => some (.bool (decide (x ≥ y)))
  | _ => none

def aShift (op : BinOp) (k : IntKind) (x y : Int) : Option Value :=
  if y < 0 then none else
  match op with
  | .shl => some (.int k (k.wrap (x * 2 ^ (min y.toNat k.bits))))
  | .shr => some (.int k (x.fdiv (2 ^ (min y.toNat k.bits))))
  | _ => none

def bytesEq (a b : ByteArray) : Bool := a.data.toList == b.data.toList

def aStr (op : BinOp) (a b : ByteArray) : Option Value :=
  match op with
  | .add => if a.size + b.size < small then some (.string (a ++ b)) else none
  | .eql => some (.bool (bytesEq a b))
  | .neq => some (.bool (!bytesEq a b))
  | .lss => some (.bool (Op.bytesLess a.data.toList b.data.toList))
  | .leq => some (.bool (Op.bytesLess a.data.toList b.data.toList || bytesEq a b))
  | .gtr => some (.bool (!(Op.bytesLess a.data.toList b.data.toList || bytesEq a b)))
  | .geq => some (.bool (!Op.bytesLess a.data.toList b.data.toList))
  | _ => none

section
variable (G : Tabs)

def isAggD : TypeDesc → Bool
  | .struct _ | .array _ _ => true
  | _ => false

def aSize (t : TypeId) : Option Nat := (G.info t).map (·.size)

def aZero (t : TypeId) : Option Value := (G.info t).bind (·.zero)

def aPart (t : TypeId) (cs : List Value) (off : Nat) : Option Value :=
  (G.und t).bind fun d => bif isAggD d then (aSize G t).map fun n => .agg ((cs.drop off).take n).toArray else cs[off]?

def aEqFields (eq : TypeId → Value → Value → Option Bool) (xs ys : List Value) : List Field → Option Bool
  | [] => some true
  | f :: fs => bif f.name == "_" then none else
    (aPart G f.type xs f.offset).bind fun x => (aPart G f.type ys f.offset).bind fun y => (eq f.type x y).bind fun b =>
      bif b then aEqFields eq xs ys fs else some false

def aEqElems (eq : TypeId → Value → Value → Option Bool) (e : TypeId) (n : Nat) (xs ys : List Value) : List Nat → Option Bool
  | [] => some true
  | i :: is =>
    (aPart G e xs (i * n)).bind fun x => (aPart G e ys (i * n)).bind fun y => (eq e x y).bind fun b =>
      bif b then aEqElems eq e n xs ys is else some false

def aEq : Nat → TypeId → Value → Value → Option Bool
  | 0, _, _, _ => none
  | d + 1, t, x, y => (G.und t).bind fun ds =>
    match ds, x, y with
    | .bool, .bool a, .bool b => some (a == b)
    | .int _, .int k a, .int k' b => if k = k' then some (a == b) else none
    | .string, .string a, .string b => some (bytesEq a b)
    | .struct fs, .agg xs, .agg ys => aEqFields G (aEq d) xs.toList ys.toList fs.toList
    | .array len e, .agg xs, .agg ys => (aSize G e).bind fun n => aEqElems G (aEq d) e n xs.toList ys.toList (List.range len)
    | _, _, _ => none

/-- no interface in the type -/
def noIface : Nat → TypeId → Bool
  | 0, _ => false
  | d + 1, t =>
    match G.und t with
    | some (.interface _) => false
    | some (.struct fs) => fs.toList.all fun f => noIface d f.type
    | some (.array _ e) => noIface d e
    | some _ => true
    | none => false

/-- '==' of two values; nilOk: one of them is the literal nil -/
def aEql (nilOk : Bool) (t : TypeId) (x y : Value) : Option Bool :=
  match x, y with
  | .agg xs, .agg ys => bif noIface G 20 t then aEq G 20 t (.agg xs) (.agg ys) else none
  | .bool a, .bool b => (G.und t).bind fun d => match d with | .bool => some (a == b) | _ => none
  | .pointer none, .pointer b => (G.und t).bind fun d => match d with | .pointer _ => some b.isNone | _ => none
  | .pointer (some _), .pointer none => (G.und t).bind fun d => match d with | .pointer _ => some false | _ => none
  | .nilIface, .nilIface => bif nilOk then (G.und t).bind fun d => match d with | .interface _ => some true | _ => none else none
  | .nilIface, .iface _ _ => (G.und t).bind fun d => match d with | .interface _ => some false | _ => none
  | .iface _ _, .nilIface => (G.und t).bind fun d => match d with | .interface _ => some false | _ => none
  | .slice none _ _, .slice none _ _ => (G.und t).bind fun d => match d with | .slice _ => some true | _ => none
  | .slice none _ _, .slice (some _) _ _ => (G.und t).bind fun d => match d with | .slice _ => some false | _ => none
  | .slice (some _) _ _, .slice none _ _ => (G.und t).bind fun d => match d with | .slice _ => some false | _ => none
  | .map none, .map b => (G.und t).bind fun d => match d with | .map _ _ => some b.isNone | _ => none
  | .map (some _), .map none => (G.und t).bind fun d => match d with | .map _ _ => some false | _ => none
  | .nilFunc, .nilFunc => (G.und t).bind fun d => match d with | .func _ _ _ => some true | _ => none
  | .nilFunc, .func _ _ _ => (G.und t).bind fun d => match d with | .func _ _ _ => some false | _ => none
  | .func _ _ _, .nilFunc => (G.und t).bind fun d => match d with | .func _ _ _ => some false | _ => none
  | _, _ => none

def isConst : Operand → Bool
  | .const _ => true
  | _ => false

def aBin (nilOk : Bool) (op : BinOp) (t : TypeId) (x y : Value) : Option Value :=
  match x, y with
  | .int k a, .int k' b =>
    match op with
    | .shl => aShift .shl k a b
    | .shr => aShift .shr k a b
    | op => if k = k' then aInt op k a b else none
  | .string a, .string b => aStr op a b
  | x, y =>
    match op with
    | .eql => (aEql G nilOk t x y).map .bool
    | .neq => (aEql G nilOk t x y).map fun b => .bool (!b)
    | _ => none

def aUn (op : UnOp) (x : Value) : Option Value :=
  match op, x with
  | .neg, .int k n => some (.int k (k.wrap (0 - n)))
  | .not, .bool b => some (.bool (!b))
  | _, _ => none

/-- of a row of cells: so many from a place on -/
def cut (c : List Value) (o n : Nat) : Option (List Value) :=
  let r := (c.drop o).take n
  if r.length = n then some r else none

def splice (c : List Value) (o : Nat) (v : List Value) : Option (List Value) :=
  if o + v.length ≤ c.length then some (c.take o ++ v ++ c.drop (o + v.length)) else none

def aLoad (h : Hp) (t : TypeId) (a : Value) : Option Value :=
  match a with
  | .pointer (some ⟨b, o, none⟩) =>
    match h.get b with
    | some (.cells c _ _) => (G.und t).bind fun d => bif isAggD d then (aSize G t).bind fun n => (cut c o n).map fun l => .agg l.toArray else c[o]?
    | _ => none
  | _ => none

/-- a value that a variable can hold: no tuple -/
def fits : Value → Bool
  | .tuple _ => false
  | _ => true

def aStore (h : Hp) (t : TypeId) (a v : Value) : Option Hp :=
  match a with
  | .pointer (some ⟨b, o, none⟩) =>
    match h.get b with
    | some (.cells c e md) =>
      match md with
      | .ro => none
      | _ => (aSize G t).bind fun n => if v.cells.size = n ∧ fits v = true then (splice c o v.cells.toList).map fun c' => h.put b (.cells c' e md) else none
    | _ => none
  | _ => none

def aAdd (b o n : Nat) : Value := .pointer (some ⟨b, o + n, none⟩)

def aField (t : TypeId) (a : Value) (i : Nat) : Option Value :=
  match a with
  | .pointer (some ⟨b, o, none⟩) =>
    match G.und t with
    | some (.struct fs) => (fs[i]?).bind fun f => (aSize G f.type).bind fun n => bif Nat.beq n 0 then none else some (aAdd b o f.offset)
    | _ => none
  | _ => none

def aIndexAddr (t : TypeId) (x i : Value) : Option Value :=
  match i with
  | .int _ i =>
    match G.und t, x with
    | some (.array len e), .pointer (some ⟨b, o, none⟩) => (aSize G e).bind fun n => if 0 ≤ i ∧ i < len then some (aAdd b o (i.toNat * n)) else none
    | some (.slice e), .slice (some ⟨b, o, none⟩) len _ => (aSize G e).bind fun n => if 0 ≤ i ∧ i < len then some (aAdd b o (i.toNat * n)) else none
    | _, _ => none
  | _ => none

def aIndex (t : TypeId) (x i : Value) : Option Value :=
  match i with
  | .int _ i =>
    match G.und t, x with
    | some (.array len e), .agg cs => (aSize G e).bind fun n => if 0 ≤ i ∧ i < len then aPart G e cs.toList (i.toNat * n) else none
    | some .string, .string s => if 0 ≤ i then (s.data.toList[i.toNat]?).map fun b => .int .u8 b.toNat else none
    | _, _ => none
  | _ => none

def aFieldV (t : TypeId) (x : Value) (i : Nat) : Option Value :=
  match G.und t, x with
  | some (.struct fs), .agg cs => (fs[i]?).bind fun f => aPart G f.type cs.toList f.offset
  | _, _ => none

/-- a slice with a third bound has the second one, too -/
def both (hi mx : Option Value) : Bool := !mx.isSome || hi.isSome

/- pieces of strings, by lists: the kernel is slow at ByteArray.extract -/
def dropR {α : Type} (l : List α) : Nat → List α := List.rec (motive := fun _ => Nat → List α) (fun _ => []) (fun v r ih n => Nat.rec (v :: r) (fun m _ => ih m) n) l
def takeR {α : Type} (l : List α) : Nat → List α := List.rec (motive := fun _ => Nat → List α) (fun _ => []) (fun v _ ih n => Nat.rec [] (fun m _ => v :: ih m) n) l
def sub (s : ByteArray) (lo hi : Nat) : ByteArray := ⟨⟨takeR (dropR s.data.toList lo) (Nat.sub hi lo)⟩⟩
theorem dropR_eq {α : Type} : ∀ (l : List α) (n : Nat), dropR l n = l.drop n
  | [], n => by cases n <;> rfl
  | v :: r, 0 => rfl
  | v :: r, n + 1 => dropR_eq r n
theorem takeR_eq {α : Type} : ∀ (l : List α) (n : Nat), takeR l n = l.take n
  | [], n => by cases n <;> rfl
  | v :: r, 0 => rfl
  | v :: r, n + 1 => by show v :: takeR r n = _; rw [takeR_eq r n]; rfl
theorem sub_eq (s : ByteArray) (lo hi : Nat) : sub s lo hi = s.extract lo hi := by
  apply ByteArray.ext
  rw [ByteArray.data_extract]
  apply Array.ext (by simp [sub, takeR_eq, dropR_eq]; omega)
  intro i h1 h2
  simp [sub, takeR_eq, dropR_eq]

def bnd (x : Option Value) (d y : Nat) : Option Nat :=
  match x with
  | none => some d
  | some (.int _ i) => if 0 ≤ i ∧ i ≤ y then some i.toNat else none
  | _ => none

def aSlice (h : Hp) (t : TypeId) (x : Value) (lo hi mx : Option Value) : Option Value :=
  match G.und t, x with
  | some .string, .string s =>
    match mx with
    | some _ => none
    | none => (bnd hi s.size s.size).bind fun hi => (bnd lo 0 hi).map fun lo => .string (sub s lo hi)
  | some (.slice e), .slice none 0 0 => bif !both hi mx then none else
    (aSize G e).bind fun _ => (bnd mx 0 0).bind fun _ => (bnd hi 0 0).bind fun _ => (bnd lo 0 0).map fun _ => .slice none 0 0
  | some (.slice e), .slice (some ⟨b, o, none⟩) len cap =>
    match h.get b with
    | some (.cells _ _ (.opn sz)) =>
      match mx with
      | some _ => none
      | none => (aSize G e).bind fun n => bif Nat.beq n sz then (bnd hi len len).bind fun hi => (bnd lo 0 hi).map fun lo => .slice (some ⟨b, o + lo * n, none⟩) (hi - lo) 0 else none
    | some (.cells _ _ _) => bif !both hi mx then none else
      (aSize G e).bind fun n => (bnd mx cap cap).bind fun m => (bnd hi len m).bind fun hi => (bnd lo 0 hi).map fun lo =>
        .slice (some ⟨b, if m = lo then o else o + lo * n, none⟩) (hi - lo) (m - lo)
    | _ => none
  | _, _ => none

/-- a new block: what leads to it, by its name, and what it holds -/
structure New where
  to : Nat → Value
  ob : Ob

def ptrTo (n : Nat) : Value := .pointer (some ⟨n, 0, none⟩)
def sliceTo (l c : Nat) (n : Nat) : Value := .slice (some ⟨n, 0, none⟩) l c
def mapTo (n : Nat) : Value := .map (some n)

def aAlloc (e : TypeId) : Option New := (aZero G e).map fun z => ⟨ptrTo, .cells z.cells.toList e .rw⟩
def aBox (e : TypeId) (v : Value) : Option New := bif fits v then some ⟨ptrTo, .cells v.cells.toList e .rw⟩ else none

def fillL (place : Nat → Option (Nat × Nat)) (c : List Value) : List (Nat × Value) → Option (List Value)
  | [] => some c
  | (i, v) :: rest =>
    match place i with
    | none => none
    | some (off, size) => if v.cells.size = size ∧ fits v = true then (splice c off v.cells.toList).bind fun c' => fillL place c' rest else none

def aBuild (t : TypeId) (parts : List (Nat × Value)) : Option Value :=
  (aZero G t).bind fun z =>
  match G.und t with
  | some (.struct fs) => (fillL (fun i => (fs[i]?).bind fun f => (aSize G f.type).map fun n => (f.offset, n)) z.cells.toList parts).map fun l => .agg l.toArray
  | some (.array _ e) => (aSize G e).bind fun n => (fillL (fun i => some (i * n, n)) z.cells.toList parts).map fun l => .agg l.toArray
  | _ => none

def rep (c : List Value) : Nat → List Value
  | 0 => []
  | n + 1 => c ++ rep c n

def aBuildSlice (t : TypeId) (len : Nat) (parts : List (Nat × Value)) : Option New :=
  match G.und t with
  | some (.slice e) => (aSize G e).bind fun n => if len * n ≤ 2 ^ 20 ∧ n ≠ 0 then (aZero G e).bind fun z => (fillL (fun i => some (i * n, n)) (rep z.cells.toList len) parts).map fun c =>
      ⟨sliceTo len len, .cells c e .rw⟩ else none
  | _ => none

def aMakeSlice (t : TypeId) (len cap : Value) : Option New :=
  match len, cap with
  | .int _ l, .int _ c =>
    match G.und t with
    | some (.slice e) => (G.info e).bind fun i =>
      if 0 ≤ l ∧ l ≤ c ∧ c < small ∧ i.size ≠ 0 ∧ i.bytes ≤ 1024 then i.zero.map fun z =>
        ⟨sliceTo l.toNat c.toNat, .cells (rep z.cells.toList c.toNat) e .rw⟩ else none
    | _ => none
  | _, _ => none

def aMakeMap : New := ⟨mapTo, .map [] 0⟩

/-- the cells that an appended or copied value has -/
def aCells (h : Hp) (n : Nat) : Value → Option (Nat × List Value)
  | .slice none len _ => if len = 0 then some (0, []) else none
  | .slice (some ⟨b, o, none⟩) len _ =>
    match h.get b with
    | some (.cells c _ _) => (cut c o (len * n)).map fun l => (len, l)
    | _ => none
  | .string s => bif Nat.beq n 1 then some (s.size, s.data.toList.map fun x => .int .u8 x.toNat) else none
  | _ => none

def blockOf : Value → Option Nat
  | .slice (some a) _ _ => some a.block
  | _ => none

def aAppend (h : Hp) (t : TypeId) (s x : Value) : Option Res :=
  match G.und t with
  | some (.slice e) => (G.info e).bind fun i =>
    if i.size = 0 ∨ i.bytes > 1024 ∨ i.zero.isNone = true then none else
    (aCells h i.size x).bind fun (k, new) =>
    match s with
    | .slice none 0 0 => if k = 0 then some (.val s h) else if k < small then some (.val (.slice (some ⟨h.next, 0, none⟩) k 0) (h.new (.cells new e (.opn i.size)))) else none
    | .slice (some ⟨b, o, none⟩) len cap =>
      if k + len ≥ small then none else
      match h.get b with
      | some (.cells c e' md) => (cut c o (len * i.size)).bind fun old =>
        match md with
        | .opn sz =>
          if k = 0 then some (.val s h)
          else if e = e' ∧ i.size = sz ∧ blockOf x ≠ some b then
            some (.val (.slice (some ⟨h.next, 0, none⟩) (len + k) 0) ((h.put b .dead).new (.cells (old ++ new) e (.opn sz))))
          else none
        | md =>
          if len + k ≤ cap then
            (if k = 0 then some (.val s h) else
             match md with
             | .ro => none
             | _ => (splice c (o + len * i.size) new).map fun c' => .val (.slice (some ⟨b, o, none⟩) (len + k) cap) (h.put b (.cells c' e' md)))
          else some (.val (.slice (some ⟨h.next, 0, none⟩) (len + k) 0) (h.new (.cells (old ++ new) e (.opn i.size))))
      | _ => none
    | _ => none
  | _ => none


def isRow : Value → Bool
  | .slice _ _ _ => true
  | .string _ => true
  | _ => false

def aTake (h : Hp) (n len : Nat) (s : Value) : Option (Nat × List Value) :=
  match s with
  | .slice none 0 _ => some (0, [])
  | .slice (some ⟨b', o', none⟩) len' _ =>
    match h.get b' with
    | some (.cells c _ _) => (cut c o' (Nat.min len' len * n)).map fun l => (Nat.min len' len, l)
    | _ => none
  | .string s => bif Nat.beq n 1 then some (Nat.min s.size len, (s.data.toList.take (Nat.min s.size len)).map fun (x : UInt8) => Value.int .u8 x.toNat) else none
  | _ => none

def aCopy (h : Hp) (t : TypeId) (d s : Value) : Option Res :=
  match G.und t with
  | some (.slice e) => (aSize G e).bind fun n =>
    match d with
    | .slice (some ⟨b, o, none⟩) len _ =>
      (aTake h n len s).bind fun (k, l) =>
      match h.get b with
      | some (.cells c e' md) => bif Nat.beq k 0 then some (.val (iv 0) h) else
        match md with
        | .ro => none
        | _ => (splice c o l).map fun c' => .val (iv k) (h.put b (.cells c' e' md))
      | _ => none
    | _ => none
  | _ => none

def aClear (h : Hp) (t : TypeId) (x : Value) : Option Res :=
  match G.und t, x with
  | some (.slice e), .slice (some ⟨b, o, none⟩) len _ => (aZero G e).bind fun z =>
    bif Nat.beq len 0 then some (.val undef h) else
    match h.get b with
    | some (.cells c e' md) =>
      match md with
      | .ro => none
      | _ => (splice c o (rep z.cells.toList len)).map fun c' => .val undef (h.put b (.cells c' e' md))
    | _ => none
  | some (.map _ _), .map (some r) =>
    match h.get r with
    | some (.map _ clock) => some (.val undef (h.put r (.map [] clock)))
    | _ => none
  | _, _ => none

/-- a key that may be asked without a panic: no interface in it -/
def aKeyOk : Nat → TypeId → Value → Bool
  | 0, _, _ => false
  | d + 1, t, v =>
    match G.und t, v with
    | some (.struct fs), .agg cs => fs.toList.all fun f => !(f.name == "_") && (match aPart G f.type cs.toList f.offset with | some x => aKeyOk d f.type x | none => false)
    | some (.bool), .bool _ | some (.int _), .int _ _ | some .string, .string _ => true
    | _, _ => false

def aFind (kt : TypeId) (k : Value) : List MapEntry → Nat → Option (Option (Nat × MapEntry))
  | [], _ => some none
  | e :: es, i => (aEq G 20 kt k e.key).bind fun b => bif b then some (some (i, e)) else aFind kt k es (i + 1)

def aAsk (kt : TypeId) (k : Value) (es : List MapEntry) : Option (Option (Nat × MapEntry)) :=
  bif aKeyOk G 20 kt k then aFind G kt k es 0 else none

def aLookup (h : Hp) (t : TypeId) (m k : Value) (ok : Bool) : Option Value :=
  match G.und t with
  | some (.map kt et) =>
    (match m with
      | .map none => some []
      | .map (some r) => (match h.get r with | some (.map es _) => some es | _ => none)
      | _ => none).bind fun es => (aAsk G kt k es).bind fun r =>
    (match r with
      | some (_, e) => some (e.val, true)
      | none => (aZero G et).map fun z => (z, false)).map fun (v, b) => if ok then .tuple #[v, .bool b] else v
  | _ => none

/-- two keys alike to the bit -/
def sBeq : Value → Value → Bool
  | .bool a, .bool b => a == b
  | .int j a, .int k b => j == k && a == b
  | .string a, .string b => bytesEq a b
  | _, _ => false
def kBeqs : List Value → List Value → Bool
  | [], [] => true
  | a :: r, b :: s => sBeq a b && kBeqs r s
  | _, _ => false
def kBeq : Value → Value → Bool
  | .agg a, .agg b => kBeqs a.toList b.toList
  | a, b => sBeq a b

def aUpdate (h : Hp) (t : TypeId) (m k v : Value) : Option Hp :=
  match G.und t, m with
  | some (.map kt _), .map (some r) =>
    match h.get r with
    | some (.map es clock) => (aAsk G kt k es).bind fun x =>
      match x with
      | some (i, e) => bif kBeq e.key k then some (h.put r (.map (es.modify i fun e => { e with key := k, val := v }) clock)) else none
      | none => some (h.put r (.map (es ++ [{ key := k, val := v, born := clock }]) (clock + 1)))
    | _ => none
  | _, _ => none

def aDelete (h : Hp) (t : TypeId) (m k : Value) : Option Res :=
  match G.und t, m with
  | some (.map kt _), .map (some r) =>
    match h.get r with
    | some (.map es clock) => (aAsk G kt k es).map fun x =>
      match x with
      | some (i, _) => .val undef (h.put r (.map (es.eraseIdx i) clock))
      | none => .val undef h
    | _ => none
  | _, _ => none

def aLen (h : Hp) (t : TypeId) (x : Value) : Option Value :=
  match G.und t, x with
  | some .string, .string s => some (iv s.size)
  | some (.array n _), _ => some (iv n)
  | some (.slice _), .slice _ n _ => some (iv n)
  | some (.map _ _), .map none => some (iv 0)
  | some (.map _ _), .map (some r) => (match h.get r with | some (.map es _) => some (iv es.length) | _ => none)
  | _, _ => none

def aRange (h : Hp) (t : TypeId) (x : Value) : Option Res :=
  (match G.und t, x with
    | some (.map _ _), .map none => some (Ob.iter none 0 [] 0)
    | some (.map _ _), .map (some m) => (match h.get m with | some (.map _ clock) => some (.iter (some m) clock [] clock) | _ => none)
    | _, _ => none).map fun o => .val (.pointer (some ⟨h.next, 0, none⟩)) (h.new o)

/-- the next entry of a map: where there is but one that can come -/
def aNext (h : Hp) (it : Value) (isString : Bool) : Option Res :=
  match it with
  | .pointer (some ⟨r, 0, none⟩) =>
    match h.get r, isString with
    | some (.iter none _ _ _), false => some (.val (.tuple #[.bool false]) h)
    | some (.iter (some m) since seen last), false =>
      match h.get m with
      | some (.map es clock) =>
        let left := es.filter fun e => !seen.contains e.born
        if !seen.isEmpty && !es.isEmpty && es.all (fun e => decide (e.born ≥ last)) then none else
        match left with
        | [] => some (.val (.tuple #[.bool false]) h)
        | [e] => if e.born < since then some (.val (.tuple #[.bool true, e.key, e.val]) (h.put r (.iter (some m) since (seen ++ [e.born]) clock))) else none
        | _ => none
      | _ => none
    | _, _ => none
  | _ => none

/-- what an iterator's last step stands at -/
def aEntry (h : Hp) (it : Value) : Option Value :=
  match it with
  | .pointer (some ⟨r, 0, none⟩) =>
    match h.get r with
    | some (.iter (some m) _ seen stepped) =>
      match h.get m, seen.getLast? with
      | some (.map es clock), some stamp => if clock = stepped then (es.find? fun e => Nat.beq e.born stamp).map fun e => .tuple #[e.key, e.val] else none
      | _, _ => none
    | _ => none
  | _ => none

def aMapEntry (h : Hp) (t : TypeId) (m k : Value) : Option Res :=
  match G.und t, m with
  | some (.map kt et), .map (some r) =>
    match h.get r with
    | some (.map es clock) => (aAsk G kt k es).bind fun x =>
      match x with
      | some (i, e) => bif kBeq e.key k then some (.val (.tuple #[e.val, iv e.born]) (h.put r (.map (es.modify i fun e => { e with key := k }) clock))) else none
      | none => (aZero G et).map fun z => .val (.tuple #[z, iv clock]) (h.put r (.map (es ++ [{ key := k, val := z, born := clock }]) (clock + 1)))
    | _ => none
  | _, _ => none

def aEntryStore (h : Hp) (m s v : Value) : Option Hp :=
  match m, s with
  | .map (some r), .int _ b =>
    match h.get r with
    | some (.map es clock) => (es.findIdx? fun e => (e.born : Int) == b).map fun i => h.put r (.map (es.modify i fun e => { e with val := v }) clock)
    | _ => none
  | _, _ => none

def aMin : Int → List Value → Option Int
  | x, [] => some x
  | x, .int _ y :: r => aMin (if y < x then y else x) r
  | _, _ => none
def aMax : Int → List Value → Option Int
  | x, [] => some x
  | x, .int _ y :: r => aMax (if y > x then y else x) r
  | _, _ => none

def aStill (b : Builtin) (ts : List TypeId) (h : Hp) (args : List Value) : Option Value :=
  match b, ts, args with
  | .len, t :: _, [x] => aLen G h t x
  | .cap, t :: _, [.slice (some ⟨b, _, none⟩) _ c] =>
    match G.und t, h.get b with
    | some (.slice _), some (.cells _ _ (.opn _)) => none
    | some (.slice _), some (.cells _ _ _) => some (iv c)
    | _, _ => none
  | .cap, t :: _, [.slice none _ c] => (match G.und t with | some (.slice _) => some (iv c) | _ => none)
  | .min, _, .int k x :: r => (aMin x r).map (.int k)
  | .max, _, .int k x :: r => (aMax x r).map (.int k)
  | _, _, _ => none

def aBuiltin (b : Builtin) (ts : List TypeId) (h : Hp) (args : List Value) : Option Res :=
  match b, ts, args with
  | .append, t :: u :: _, [s, x] => (G.und u).bind fun d => match d with | .slice _ => aAppend G h t s x | .string => aAppend G h t s x | _ => none
  | .copy, t :: _, [d, s] => aCopy G h t d s
  | .clear, t :: _, [x] => aClear G h t x
  | .delete, t :: _, [m, k] => aDelete G h t m k
  | .panic, _, [.iface t v] => some (.pan (.iface t v) h)
  | _, _, _ => none

def aConvert (src dst : TypeId) (x : Value) : Option Value :=
  match G.und src, G.und dst, x with
  | some (.int _), some (.int k), .int _ n => some (.int k (k.wrap n))
  | some .string, some .string, .string s => some (.string s)
  | _, _, _ => none

def aConvertH (h : Hp) (src dst : TypeId) (x : Value) : Option Res :=
  match G.und src, G.und dst, x with
  | some .string, some (.slice e), .string s =>
    match G.und e, aSize G e with
    | some (.int .u8), some 1 => if s.size < small then some (.val (.slice (some ⟨h.next, 0, none⟩) s.size 0) (h.new (.cells (s.data.toList.map fun x => .int .u8 x.toNat) e (.opn 1)))) else none
    | _, _ => none
  | _, _, _ => (aConvert G src dst x).map fun v => .val v h

def aAssert (x : Value) (_xType asserted : TypeId) (ok : Bool) : Option Value :=
  match G.und asserted, x with
  | some (.interface _), _ => none
  | some _, .iface t v => if t = asserted then some (if ok then .tuple #[v, .bool true] else v) else if ok then (aZero G asserted).map fun z => .tuple #[z, .bool false] else none
  | some _, .nilIface => if ok then (aZero G asserted).map fun z => .tuple #[z, .bool false] else none
  | _, _ => none

def outRes : Out × Hp → Option Res
  | (.ret v, h) => some (.val v h)
  | (.pan [e], h) => if e.recovered = false ∧ e.goexit = false then some (.pan e.v h) else none
  | _ => none

/-- the function behind a method of a value in an interface, and its receiver: the method is the type's own, or one step of a pointer's field away -/
def aMethod (h : Hp) (t : TypeId) (v : Value) (name : String) : Option (FuncId × Value) :=
  (G.info t).bind fun i => (i.methods.toList.find? fun m => m.name == name).bind fun m => m.func.bind fun (f, ptr) =>
    match m.path.toList with
    | [] =>
      match G.und t, ptr with
      | some (.pointer _), true => some (f, v)
      | some (.pointer _), false => none
      | some _, false => some (f, v)
      | _, _ => none
    | [s] =>
      bif s.deref then
        match G.und s.struct with
        | some (.struct fs) => (fs[s.index]?).bind fun fd => (aField G s.struct v s.index).bind fun a =>
          match G.und fd.type, ptr with
          | some (.pointer _), _ => none
          | some _, true => some (f, a)
          | some _, false => (aLoad G h fd.type a).map fun x => (f, x)
          | none, _ => none
        | _ => none
      else none
    | _ => none

def aCall (r : Ev) (f : FuncId) (args : List Value) (h : Hp) : Option Res := (r.call f args h).bind outRes

/-- operations that leave all as it is -/
def sStep (e : Env) (h : Hp) (o : Oper) : Option Value :=
  match o.op with
  | .move x | .assign x => some (e.opd x)
  | .pick c a b => (match e.opd c with | .bool t => some (if t then e.opd a else e.opd b) | _ => none)
  | .build t parts => aBuild G t (parts.toList.map fun (i, x) => (i, e.opd x))
  | .load t a => aLoad G h t (e.opd a)
  | .nilCheck x => (match e.opd x with | .pointer (some a) => some (.pointer (some a)) | .func (.func f) a b => some (.func (.func f) a b) | .iface t v => some (.iface t v) | _ => none)
  | .binOp op t x y _ => aBin G (isConst x || isConst y) op t (e.opd x) (e.opd y)
  | .unOp op _ x => aUn op (e.opd x)
  | .convert s d x => aConvert G s d (e.opd x)
  | .makeInterface t x => (match G.und t with | some (.interface _) => none | some _ => some (.iface t (e.opd x)) | none => none)
  | .makeFunc fn first captured => some (.func fn (first.map e.opd) (captured.map e.opd))
  | .slice t x lo hi mx => aSlice G h t (e.opd x) (lo.map e.opd) (hi.map e.opd) (mx.map e.opd)
  | .fieldAddr t x f => aField G t (e.opd x) f
  | .field t x f => aFieldV G t (e.opd x) f
  | .indexAddr t x i => aIndexAddr G t (e.opd x) (e.opd i)
  | .index t x i => aIndex G t (e.opd x) (e.opd i)
  | .lookup t x i ok => aLookup G h t (e.opd x) (e.opd i) ok
  | .entry it => aEntry h (e.opd it)
  | .typeAssert x t a ok => aAssert G (e.opd x) t a ok
  | .extract t i => (match e.opd t with | .tuple vs => vs[i]? | _ => none)
  | .call c => (match c.callee with
    | .builtin b => aStill G b c.argTypes.toList h (c.args.toList.map e.opd)
    | _ => none)
  | _ => none

/-- operations that make a block, and leave all else as it is -/
def nStep (e : Env) (o : Oper) : Option New :=
  match o.op with
  | .alloc t => aAlloc G t
  | .box t x => aBox t (e.opd x)
  | .buildSlice t len parts => aBuildSlice G t len (parts.toList.map fun (i, x) => (i, e.opd x))
  | .makeMap _ none => some aMakeMap
  | .makeMap t (some x) => (match G.und t, e.opd x with | some (.map _ _), .int _ _ => some aMakeMap | _, _ => none)
  | .makeSlice t l c => aMakeSlice G t (e.opd l) (e.opd c)
  | _ => none

/-- all others -/
def eStep (r : Ev) (e : Env) (h : Hp) (o : Oper) : Option Res :=
  match o.op with
  | .store t a x => (aStore G h t (e.opd a) (e.opd x)).map (.val undef)
  | .convert s d x => aConvertH G h s d (e.opd x)
  | .mapUpdate t m k x | .insert t m k x => (aUpdate G h t (e.opd m) (e.opd k) (e.opd x)).map (.val undef)
  | .mapEntry t m k => aMapEntry G h t (e.opd m) (e.opd k)
  | .entryStore _ m s x => (aEntryStore h (e.opd m) (e.opd s) (e.opd x)).map (.val undef)
  | .range t x => aRange G h t (e.opd x)
  | .next it s => aNext h (e.opd it) s
  | .panic x => (match e.opd x with | .iface t v => some (.pan (.iface t v) h) | _ => none)
  | .call c => (match c.callee with
    | .builtin b => aBuiltin G b c.argTypes.toList h (c.args.toList.map e.opd)
    | .value f => (match e.opd f with
      | .func (.func f) first captured => aCall r f (first.toList ++ c.args.toList.map e.opd ++ captured.toList) h
      | _ => none)
    | .invoke x name => (match e.opd x with
      | .iface t v => (aMethod G h t v name).bind fun (f, v) => aCall r f (v :: c.args.toList.map e.opd) h
      | _ => none))
  | .defer c => (match c.callee with
    | .value f => (match e.opd f with
      | .func (.func f) first captured => some (.dfr { target := .fn (.func f) captured, args := first ++ c.args.map e.opd })
      | _ => none)
    | _ => none)
  | _ => none

def opStep (r : Ev) (e : Env) (h : Hp) (o : Oper) : Option Res :=
  match sStep G e h o with
  | some v => some (.val v h)
  | none =>
    match nStep G e o with
    | some n => some (.val (n.to h.next) (h.new n.ob))
    | none => eStep G r e h o

def Env.put (e : Env) (d : Option Tmp) (v : Value) : Env :=
  match d with
  | some d => if d < e.n then { e with tmps := e.tmps.set d v } else e
  | none => e

def wantedA (ops : Array Oper) (e : Env) (o : Oper) : Bool :=
  match o.guard with
  | none => true
  | some (j, want) => match ((ops[j]?).bind (·.dst)) with
    | some d => (match e.val d with | .bool b => b == want | _ => false)
    | none => false

def opsStep (r : Ev) (all : Array Oper) : List Oper → Env → Hp → Option (Ex × Env × Hp)
  | [], e, h => some (.normal, e, h)
  | o :: rest, e, h =>
    bif wantedA all e o then
      (opStep G r e h o).bind fun x => match x with
        | .val v h => opsStep r all rest (Env.put e o.dst v) h
        | .pan v h => some (.pan [{ v, recovered := false }], e, h)
        | .dfr d => opsStep r all rest (Env.put { e with defers := d :: e.defers } o.dst undef) h
    else opsStep r all rest (Env.put e o.dst undef) h

/-- has an effect on what was there, or runs code -/
def isEff : Op → Bool
  | .store .. | .mapUpdate .. | .insert .. | .mapEntry .. | .entryStore .. | .next .. | .range .. | .panic _ => true
  | .call c => (match c.callee with
    | .builtin b => (match b with | .len | .cap | .min | .max => false | _ => true)
    | _ => true)
  | _ => false

def looseOf (info : RegInfo) (i : Nat) : List Nat := ((info.loose.find? fun p => Nat.beq p.1 i).map (·.2)).getD []

structure Pend where
  i : Nat
  o : Oper
  e : Env
  v : Value

def lBeq (f : Value → Value → Bool) : List Value → List Value → Bool
  | [], [] => true
  | a :: r, b :: s => f a b && lBeq f r s
  | _, _ => false

def vBeq : Nat → Value → Value → Bool
  | 0, _, _ => false
  | n + 1, x, y =>
    match x, y with
    | .bool a, .bool b => a == b
    | .int j a, .int k b => decide (j = k) && decide (a = b)
    | .string a, .string b => bytesEq a b
    | .pointer a, .pointer b => decide (a = b)
    | .slice a l c, .slice b m d => decide (a = b) && Nat.beq l m && Nat.beq c d
    | .map a, .map b => decide (a = b)
    | .nilFunc, .nilFunc => true
    | .nilIface, .nilIface => true
    | .iface t v, .iface u w => Nat.beq t u && vBeq n v w
    | .agg a, .agg b => lBeq (vBeq n) a.toList b.toList
    | .tuple a, .tuple b => lBeq (vBeq n) a.toList b.toList
    | _, _ => false

/-- what a reading operation answers is the same in another state -/
def sameAt (o : Oper) (e : Env) (v : Value) (h : Hp) : Bool :=
  match sStep G e h o with
  | some v' => vBeq 8 v v'
  | _ => false

def stands (info : RegInfo) (hist : List (Nat × Hp)) (h : Hp) (p : Pend) : Bool :=
  !(hist.any fun q => decide (p.i < q.1) && (looseOf info p.i).contains q.1) || (hist.any fun q => decide (p.i < q.1) && !(looseOf info p.i).contains q.1) || sameAt G p.o p.e p.v h

/-- a region whose order is drawn, gone through in the order of the text; what might come at another time is looked at there too -/
def drawStep (r : Ev) (info : RegInfo) (all : Array Oper) : List Oper → Nat → Env → Hp → List (Nat × Hp) → List Pend → Option (Ex × Env × Hp)
  | [], _, e, h, hist, pend => bif pend.all (stands G info hist h) then some (.normal, e, h) else none
  | o :: rest, i, e, h, hist, pend =>
    bif wantedA all e o then
      bif isEff o.op then
        bif pend.all (stands G info hist h) then
          (eStep G r e h o).bind fun x => match x with
            | .val v h' => drawStep r info all rest (i + 1) (Env.put e o.dst v) h' ((i, h) :: hist) pend
            | .pan v h' => bif info.last.contains i then some (.pan [{ v, recovered := false }], e, h') else none
            | .dfr _ => none
        else none
      else
        match sStep G e h o with
        | some v =>
          match looseOf info i with
          | [] => drawStep r info all rest (i + 1) (Env.put e o.dst v) h hist pend
          | l => bif hist.all fun q => !l.contains q.1 || sameAt G o e v q.2 then drawStep r info all rest (i + 1) (Env.put e o.dst v) h hist (⟨i, o, e, v⟩ :: pend) else none
        | none =>
          (nStep G e o).bind fun n => match h.get h.next with
            | some _ => none
            | none => drawStep r info all rest (i + 1) (Env.put e o.dst (n.to h.next)) (h.new n.ob) hist pend
    else drawStep r info all rest (i + 1) (Env.put e o.dst undef) h hist pend

def resTmp : ResultVar → Tmp
  | .tmp t => t
  | .cell a _ => a

def dstIs (t : Tmp) (o : Oper) : Bool := match o.dst with | some d => Nat.beq d t | none => false

def keepTmps (ops : Array Oper) (tmps : Tr Value) : List Tmp → Tr Value
  | [] => .nil
  | t :: ts =>
    bif ops.toList.any (dstIs t) then keepTmps ops tmps ts else
    match tmps.get t with
    | some v => (keepTmps ops tmps ts).set t v
    | none => keepTmps ops tmps ts

/-- behind a panic in a region whose order is drawn, what is sure of the temporaries that a function's results lie in -/
def forget (ops : Array Oper) (e : Env) : Env := { e with tmps := keepTmps ops e.tmps (((G.fn e.fn).map fun f => f.results.toList.map resTmp).getD []) }

def drawn (ops : Array Oper) (e : Env) (x : Ex × Env × Hp) : Ex × Env × Hp :=
  match x with
  | (.pan ch, _, h) => (.pan ch, forget G ops e, h)
  | x => x

def codeStep (r : Ev) (c : Code) (e : Env) (h : Hp) : Option (Ex × Env × Hp) :=
  match c with
  | .skip | .label _ => some (.normal, e, h)
  | .seq a b => (r.code a e h).bind fun x => match x with
    | (.normal, e, h) => r.code b e h
    | x => some x
  | .cond c a b => (match e.opd c with | .bool t => r.code (if t then a else b) e h | _ => none)
  | .block id b => (r.code b e h).bind fun x => match x with
    | (.exit id', e, h) => if id' = id then some (.normal, e, h) else some (.exit id', e, h)
    | x => some x
  | .loop b => (r.code b e h).bind fun x => match x with
    | (.normal, e, h) => r.code (.loop b) e h
    | x => some x
  | .region id ops draw => bif draw then (G.reg e.fn id).bind fun info => (drawStep G r info ops ops.toList 0 e h [] []).map (drawn G ops e) else opsStep G r ops ops.toList e h
  | .exit id => some (.exit id, e, h)
  | .ret => some (.ret, e, h)
  | _ => none

def tmpsOf : Nat → List Value → Tr Value → Tr Value
  | _, [], t => t
  | i, v :: vs, t => tmpsOf (i + 1) vs (t.set i v)

def resVals (e : Env) (h : Hp) : List ResultVar → Option (List Value)
  | [] => some []
  | .tmp t :: r => (e.tmps.get t).bind fun v => (resVals e h r).map (v :: ·)
  | .cell a t :: r => (e.tmps.get a).bind fun a => (aLoad G h t a).bind fun v => (resVals e h r).map (v :: ·)

def resVal : List Value → Value
  | [v] => v
  | l => .tuple l.toArray

/- functions that have no Go body, or are taken whole -/
def specClone (args : List Value) (h : Hp) : Option (Value × Hp) :=
  match args with
  | [.iface t (.map (some r))] =>
    match h.get r with
    | some (.map es clock) => some (.iface t (.map (some h.next)), h.new (.map es clock))
    | _ => none
  | _ => none

def specOverlaps (n : Nat) (args : List Value) (h : Hp) : Option (Value × Hp) :=
  match args with
  | [.slice (some ⟨a, o, none⟩) la _, .slice (some ⟨b, p, none⟩) lb _] =>
    bif Nat.beq la 0 || Nat.beq lb 0 || Nat.beq n 0 then some (.bool false, h) else
    match h.get a, h.get b with
    | some (.cells _ _ _), some (.cells _ _ _) => some (.bool (Nat.beq a b && decide (o < p + lb * n) && decide (p < o + la * n)), h)
    | _, _ => none
  | [.slice none _ _, .slice _ _ _] => some (.bool false, h)
  | [.slice (some _) _ _, .slice none _ _] => some (.bool false, h)
  | _ => none

/-- 'append each key of the map', where there is at most one -/
def specAppendKeys (keys : FuncId) (st : TypeId) (args : List Value) (h : Hp) : Option (Value × Hp) :=
  match args with
  | [s, .func (.func f) first captured] =>
    if f = keys ∧ first.size = 0 then
      match captured.toList with
      | [.pointer (some ⟨b, 0, none⟩)] =>
        match h.get b with
        | some (.cells [.map none] _ _) => some (s, h)
        | some (.cells [.map (some r)] _ _) =>
          match h.get r with
          | some (.map [] _) => some (s, h)
          | some (.map [x] _) =>
            let h1 := h.new (.cells x.key.cells.toList 0 .rw)
            match aAppend G h1 st s (.slice (some ⟨h.next, 0, none⟩) 1 1) with
            | some (.val v h2) => some (v, h2)
            | _ => none
          | _ => none
        | _ => none
      | _ => none
    else none
  | _ => none

def isRecover (o : Oper) : Bool :=
  match o.op with
  | .call { callee := .builtin .recover, .. } => true
  | _ => false

def dOps (r : Ev) (all : Array Oper) : List Oper → Env → Hp → Rc → Option (Ex × Env × Hp × Rc)
  | [], e, h, rc => some (.normal, e, h, rc)
  | o :: rest, e, h, rc =>
    bif wantedA all e o then
      bif isRecover o then
        match rc with
        | .avail v => dOps r all rest (Env.put e o.dst v) h .taken
        | rc => dOps r all rest (Env.put e o.dst .nilIface) h rc
      else
      (opStep G r e h o).bind fun x => match x with
        | .val v h => dOps r all rest (Env.put e o.dst v) h rc
        | _ => none
    else dOps r all rest (Env.put e o.dst undef) h rc

def dcodeStep (r : Ev) (c : Code) (e : Env) (h : Hp) (rc : Rc) : Option (Ex × Env × Hp × Rc) :=
  match c with
  | .seq a b => (r.dcode a e h rc).bind fun x => match x with
    | (.normal, e, h, rc) => r.dcode b e h rc
    | x => some x
  | .cond c a b => (match e.opd c with | .bool t => r.dcode (if t then a else b) e h rc | _ => none)
  | .region _ ops false => bif ops.toList.any isRecover then dOps G r ops ops.toList e h rc else (r.code c e h).map fun (x, e, h) => (x, e, h, rc)
  | c => (r.code c e h).map fun (x, e, h) => (x, e, h, rc)

/-- a deferred call: what it leaves, and what is left to recover -/
def dcall (r : Ev) (f : FuncId) (args : List Value) (h : Hp) (rc : Rc) : Option (Hp × Rc) :=
  (G.fn f).bind fun fn => fn.body.bind fun c => (r.dcode c ⟨f, tmpsOf 0 args .nil, max fn.ntmps args.length, []⟩ h rc).bind fun x =>
    match x with
    | (.normal, e, h, rc) | (.ret, e, h, rc) => bif e.defers.isEmpty && fn.results.toList.isEmpty then some (h, rc) else none
    | _ => none

/-- the deferred calls of a frame that ends, one by one; what they leave: the panic that goes on, or none -/
def leave (r : Ev) : List Deferred → Rc → Hp → Option (Rc × Hp)
  | [], rc, h => some (rc, h)
  | d :: ds, rc, h =>
    match d.target with
    | .fn (.func f) c => (dcall G r f (d.args.toList ++ c.toList) h rc).bind fun (h, rc') => leave r ds (match rc' with | .taken => .nothing | x => x) h
    | _ => none

def callStep (r : Ev) (f : FuncId) (args : List Value) (h : Hp) : Option (Out × Hp) :=
  match G.spec f with
  | some s => (s args h).map fun (v, h) => (.ret v, h)
  | none =>
  (G.fn f).bind fun fn => fn.body.bind fun c => (r.code c ⟨f, tmpsOf 0 args .nil, max fn.ntmps args.length, []⟩ h).bind fun x =>
    match x with
    | (.normal, e, h) | (.ret, e, h) => (leave G r e.defers .nothing h).bind fun (rc, h) =>
      match rc with
      | .nothing => (resVals G e h fn.results.toList).map fun l => (.ret (resVal l), h)
      | _ => none
    | (.pan ch, e, h) =>
      match ch with
      | [⟨v, false, false⟩] => (leave G r e.defers (.avail v) h).bind fun (rc, h) =>
        match rc with
        | .nothing => (resVals G e h fn.results.toList).map fun l => (.ret (resVal l), h)
        | .avail v => some (.pan [⟨v, false, false⟩], h)
        | .taken => none
      | _ => none
    | _ => none

/- what is asked of the text of a function -/
def scalarC : Value → Bool
  | .bool _ | .int _ _ | .string _ | .pointer none | .slice none _ _ | .map none | .nilFunc | .nilIface => true
  | _ => false
def plainC : Value → Bool
  | .agg cs => cs.toList.all scalarC
  | .iface _ v => scalarC v
  | v => scalarC v
def okOpd : Operand → Bool
  | .tmp _ | .func _ => true
  | .const v => plainC v
  | .global _ => false

/-- what an operation answers may hang on what memory holds -/
def reads : Op → Bool
  | .load .. | .lookup .. | .entry _ | .slice .. => true
  | .call _ => true
  | _ => false

def ordA (b : Array Nat) (i j : Nat) : Bool := (b.getD (max i j) 0).testBit (min i j)

/-- the temporaries that an operation looks at -/
def looks (ops : Array Oper) (o : Oper) : List Tmp :=
  (o.op.operands.toList.filterMap fun | .tmp t => some t | _ => none) ++
  (match o.guard with
   | some (g, _) => ((ops[g]?).bind (·.dst)).toList
   | none => [])

/-- of a region whose order is drawn: that the order does not matter but for what the evaluator looks at -/
def drawOk (info : RegInfo) (ops : Array Oper) : Bool :=
  let b := Region.before ops
  let l := ops.toList.zipIdx
  l.all fun (o, i) =>
    (o.after.toList.all fun e => !Region.binds .any e || decide (e.on < i)) &&
    (l.all fun (p, k) => Nat.beq i k ||
      ((match p.dst with
        | some d => !(looks ops o).contains d || ordA b i k
        | none => true) &&
       (match o.dst, p.dst with
        | some d, some d' => !Nat.beq d d'
        | _, _ => true) &&
       (!(isEff p.op) || ((!(isEff o.op) || ordA b i k) && (!(reads o.op) || ordA b i k || (looseOf info i).contains k))) &&
       (!(info.last.contains i && decide (i < k)) || ordA b i k)))

def codeOk (fn : FuncId) : Code → Bool
  | .region id ops draw => (ops.toList.all fun o => o.op.operands.toList.all okOpd) && (!draw || (match G.reg fn id with | some info => drawOk info ops | none => true))
  | .seq a b => codeOk fn a && codeOk fn b
  | .cond c a b => okOpd c && codeOk fn a && codeOk fn b
  | .block _ b => codeOk fn b
  | .loop b => codeOk fn b
  | .scope b => codeOk fn b
  | _ => true

def Ev.step (r : Ev) : Ev := ⟨codeStep G r, callStep G r, dcodeStep G r⟩
def ev : Nat → Ev
  | 0 => Ev.bot
  | n + 1 => Ev.step G (ev n)
end
end
end Go.AE

namespace Go.AE

inductive All2 {α β : Type} (R : α → β → Prop) : List α → List β → Prop
  | nil : All2 R [] []
  | cons {a : α} {b : β} {l : List α} {r : List β} (h : R a b) (t : All2 R l r) : All2 R (a :: l) (b :: r)

theorem All2.length {α β : Type} {R : α → β → Prop} {l : List α} {r : List β} (h : All2 R l r) : l.length = r.length := by
  induction h with
  | nil => rfl
  | cons _ _ ih => simp [ih]

/- tries -/
theorem Tr.get_setF {α : Type} (x : α) : ∀ (f : Nat) (t : Tr α) (n m : Nat), n < f → (Tr.setF f t n x).get m = if m = n then some x else t.get m := by
  intro f
  induction f with
  | zero => intro t n m h; omega
  | succ f ih =>
    intro t n m h
    have key : ∀ (l r : Tr α) (v : Option α) (n : Nat), n + 1 < f + 1 →
        (bif Nat.beq (n % 2) 0 then Tr.node (Tr.setF f l (n / 2) x) v r else Tr.node l v (Tr.setF f r (n / 2) x)).get m =
          if m = n + 1 then some x else (Tr.node l v r).get m := by
      intro l r v n hn
      cases hb : Nat.beq (n % 2) 0 with
      | true =>
        have hb' : n % 2 = 0 := Nat.eq_of_beq_eq_true hb
        cases m with
        | zero => simp [Tr.get_nil, Tr.get_zero, Tr.get_succ]
        | succ m =>
          simp only [cond_true, Tr.get_nil, Tr.get_zero, Tr.get_succ]
          cases hm : Nat.beq (m % 2) 0 with
          | true =>
            have hm' : m % 2 = 0 := Nat.eq_of_beq_eq_true hm
            simp only [cond_true]
            rw [ih _ _ _ (by omega)]
            by_cases e : m = n
            · subst e; simp
            · have : m / 2 ≠ n / 2 := by omega
              simp [e, this]
          | false =>
            have hm' : m % 2 ≠ 0 := Nat.ne_of_beq_eq_false hm
            have : m ≠ n := by omega
            simp [this]
      | false =>
        have hb' : n % 2 ≠ 0 := Nat.ne_of_beq_eq_false hb
        cases m with
        | zero => simp [Tr.get_nil, Tr.get_zero, Tr.get_succ]
        | succ m =>
          simp only [cond_false, Tr.get_nil, Tr.get_zero, Tr.get_succ]
          cases hm : Nat.beq (m % 2) 0 with
          | true =>
            have hm' : m % 2 = 0 := Nat.eq_of_beq_eq_true hm
            have : m ≠ n := by omega
            simp [this]
          | false =>
            have hm' : m % 2 ≠ 0 := Nat.ne_of_beq_eq_false hm
            simp only [cond_false]
            rw [ih _ _ _ (by omega)]
            by_cases e : m = n
            · subst e; simp
            · have : m / 2 ≠ n / 2 := by omega
              simp [e, this]
    have hnil : ∀ k, (Tr.nil : Tr α).get k = none := fun k => rfl
    have hnode : ∀ k, (Tr.node (.nil : Tr α) none .nil).get k = none := by
      intro k; cases k with
      | zero => rfl
      | succ k => simp only [Tr.get_nil, Tr.get_zero, Tr.get_succ]; cases Nat.beq (k % 2) 0 <;> rfl
    cases t with
    | nil =>
      cases n with
      | zero =>
        cases m with
        | zero => rfl
        | succ m => simp only [Tr.setF_nil_zero, Tr.get_nil, Tr.get_zero, Tr.get_succ]; cases Nat.beq (m % 2) 0 <;> simp [Tr.get_nil, Tr.get_zero, Tr.get_succ]
      | succ n =>
        have := key .nil .nil none n h
        simp only [Tr.setF_nil_succ]
        rw [this, hnode, hnil]
    | node l v r =>
      cases n with
      | zero =>
        cases m with
        | zero => rfl
        | succ m => simp [Tr.setF_node_zero, Tr.get_nil, Tr.get_zero, Tr.get_succ]
      | succ n => simpa only [Tr.setF_node_succ] using key l r v n h

theorem Tr.get_set {α : Type} (t : Tr α) (n m : Nat) (x : α) : (t.set n x).get m = if m = n then some x else t.get m :=
  Tr.get_setF x (n + 1) t n m (Nat.lt_succ_self n)

theorem Hp.get_put (h : Hp) (b m : Nat) (o : Ob) : (h.put b o).get m = if m = b then some o else h.get m := by
  unfold Hp.get Hp.put
  simp only [Tr.get_set]
  by_cases e : m = b <;> simp [e]

theorem Hp.get_new (h : Hp) (m : Nat) (o : Ob) : (h.new o).get m = if m = h.next then some o else h.get m := by
  unfold Hp.get Hp.new
  simp only [Tr.get_set]
  by_cases e : m = h.next <;> simp [e]

theorem Hp.next_put (h : Hp) (b : Nat) (o : Ob) : (h.put b o).next = h.next := rfl
theorem Hp.next_new (h : Hp) (o : Ob) : (h.new o).next = h.next + 1 := rfl

/- the relation -/
inductive Kd where
  | ro | rw
  | opn (tot sz : Nat)

structure Pl where
  b : Nat
  sh : Nat
  k : Kd

abbrev Mp := Nat → Option Pl

def Kd.closed : Kd → Bool
  | .opn _ _ => false
  | _ => true

inductive VR (M : Mp) : Value → Value → Prop
  | bool (b : Bool) : VR M (.bool b) (.bool b)
  | int (k : IntKind) (n : Int) : VR M (.int k n) (.int k n)
  | str (s : ByteArray) : VR M (.string s) (.string s)
  | pnil : VR M (.pointer none) (.pointer none)
  | ptr {b o : Nat} {p : Pl} (h : M b = some p) : VR M (.pointer (some ⟨b, o, none⟩)) (.pointer (some ⟨p.b, o + p.sh, none⟩))
  | snil (l c : Nat) : VR M (.slice none l c) (.slice none l c)
  | slc {b o : Nat} (l c : Nat) {p : Pl} (h : M b = some p) (hk : p.k.closed = true) : VR M (.slice (some ⟨b, o, none⟩) l c) (.slice (some ⟨p.b, o + p.sh, none⟩) l c)
  | slo {b o : Nat} (l c c' : Nat) {p : Pl} {tot sz : Nat} (h : M b = some p) (hk : p.k = .opn tot sz) (hc : o + p.sh + c' * sz = tot) (hl : l ≤ c') :
      VR M (.slice (some ⟨b, o, none⟩) l c) (.slice (some ⟨p.b, o + p.sh, none⟩) l c')
  | sle {b o : Nat} (c : Nat) {p : Pl} {tot sz : Nat} (h : M b = some p) (hk : p.k = .opn tot sz) (a : Addr) :
      VR M (.slice (some ⟨b, o, none⟩) 0 c) (.slice (some a) 0 0)
  | mnil : VR M (.map none) (.map none)
  | map {r : Nat} {p : Pl} (h : M r = some p) : VR M (.map (some r)) (.map (some p.b))
  | nilFunc : VR M .nilFunc .nilFunc
  | nilIface : VR M .nilIface .nilIface
  | iface (t : TypeId) {v v' : Value} (h : VR M v v') : VR M (.iface t v) (.iface t v')
  | agg {cs ds : Array Value} (hs : cs.size = ds.size) (h : ∀ i, i < cs.size → VR M (cs.getD i undef) (ds.getD i undef))
      (one : ∀ i, i < cs.size → (cs.getD i undef).oneCell' = true) : VR M (.agg cs) (.agg ds)
  | tuple {cs ds : Array Value} (hs : cs.size = ds.size) (h : ∀ i, i < cs.size → VR M (cs.getD i undef) (ds.getD i undef)) : VR M (.tuple cs) (.tuple ds)
  | func (fn : Fn) {fs fs' cs cs' : Array Value} (hf : fs.size = fs'.size) (hF : ∀ i, i < fs.size → VR M (fs.getD i undef) (fs'.getD i undef))
      (hc : cs.size = cs'.size) (hC : ∀ i, i < cs.size → VR M (cs.getD i undef) (cs'.getD i undef)) : VR M (.func fn fs cs) (.func fn fs' cs')

def Mp.le (M M' : Mp) : Prop := ∀ id p, M id = some p → M' id = some p
theorem Mp.le_refl (M : Mp) : M.le M := fun _ _ h => h
theorem Mp.le.trans {M M' M'' : Mp} (h : M.le M') (h' : M'.le M'') : M.le M'' := fun _ _ hx => h' _ _ (h _ _ hx)

theorem VR.mono {M M' : Mp} (hM : M.le M') {v v' : Value} (h : VR M v v') : VR M' v v' := by
  induction h with
  | bool b => exact .bool b
  | int k n => exact .int k n
  | str s => exact .str s
  | pnil => exact .pnil
  | ptr h => exact .ptr (hM _ _ h)
  | snil l c => exact .snil l c
  | slc l c h hk => exact .slc l c (hM _ _ h) hk
  | slo l c c' h hk hc hl => exact .slo l c c' (hM _ _ h) hk hc hl
  | sle c h hk a => exact .sle c (hM _ _ h) hk a
  | mnil => exact .mnil
  | map h => exact .map (hM _ _ h)
  | nilFunc => exact .nilFunc
  | nilIface => exact .nilIface
  | iface t _ ih => exact .iface t ih
  | agg hs _ one ih => exact .agg hs ih one
  | tuple hs _ ih => exact .tuple hs ih
  | func fn hf _ hc _ ihf ihc => exact .func fn hf ihf hc ihc

theorem VR.undef (M : Mp) : VR M undef undef := .tuple rfl (fun i h => absurd h (by simp))

theorem VR.oneCell' {M : Mp} {v v' : Value} (h : VR M v v') : v'.oneCell' = v.oneCell' := by cases h <;> rfl

/-- rows of values -/
def LR (M : Mp) (l l' : List Value) : Prop := l.length = l'.length ∧ ∀ i, i < l.length → VR M (l.getD i Go.undef) (l'.getD i Go.undef)

theorem LR.nil (M : Mp) : LR M [] [] := ⟨rfl, fun i h => absurd h (by simp)⟩
theorem LR.cons {M : Mp} {v v' : Value} {l l' : List Value} (hv : VR M v v') (h : LR M l l') : LR M (v :: l) (v' :: l') := by
  refine ⟨by simp [h.1], fun i hi => ?_⟩
  cases i with
  | zero => simpa using hv
  | succ i => simpa using h.2 i (by simpa using hi)
theorem LR.head {M : Mp} {v v' : Value} {l l' : List Value} (h : LR M (v :: l) (v' :: l')) : VR M v v' := by simpa using h.2 0 (by simp)
theorem LR.tail {M : Mp} {v v' : Value} {l l' : List Value} (h : LR M (v :: l) (v' :: l')) : LR M l l' :=
  ⟨by simpa using h.1, fun i hi => by simpa using h.2 (i + 1) (by simpa using hi)⟩
theorem LR.cases {M : Mp} {v : Value} {l l' : List Value} (h : LR M (v :: l) l') : ∃ v' r, l' = v' :: r ∧ VR M v v' ∧ LR M l r := by
  cases l' with
  | nil => exact absurd h.1 (by simp)
  | cons v' r => exact ⟨v', r, rfl, h.head, h.tail⟩
theorem LR.nil_left {M : Mp} {l' : List Value} (h : LR M [] l') : l' = [] := by
  cases l' with
  | nil => rfl
  | cons v' r => exact absurd h.1 (by simp)
theorem LR.mono {M M' : Mp} (hM : M.le M') {l l' : List Value} (h : LR M l l') : LR M' l l' := ⟨h.1, fun i hi => (h.2 i hi).mono hM⟩
theorem LR.append {M : Mp} {l l' r r' : List Value} (h : LR M l l') (h' : LR M r r') : LR M (l ++ r) (l' ++ r') := by
  induction l generalizing l' with
  | nil => rw [h.nil_left]; simpa using h'
  | cons v l ih =>
    obtain ⟨v', t, rfl, hv, ht⟩ := h.cases
    exact .cons hv (ih ht)
theorem LR.get {M : Mp} {l l' : List Value} (h : LR M l l') {i : Nat} {v : Value} (hi : l[i]? = some v) : ∃ v', l'[i]? = some v' ∧ VR M v v' := by
  have hlt : i < l.length := by
    rcases Nat.lt_or_ge i l.length with h | h
    · exact h
    · rw [List.getElem?_eq_none h] at hi; cases hi
  have hlt' : i < l'.length := h.1 ▸ hlt
  have := h.2 i hlt
  rw [List.getElem?_eq_getElem hlt] at hi
  refine ⟨l'[i], List.getElem?_eq_getElem hlt', ?_⟩
  simp only [List.getD_eq_getElem?_getD, List.getElem?_eq_getElem hlt, List.getElem?_eq_getElem hlt', Option.getD_some] at this
  injection hi with hi
  rwa [hi] at this
theorem LR.drop {M : Mp} {l l' : List Value} (h : LR M l l') (n : Nat) : LR M (l.drop n) (l'.drop n) := by
  induction n generalizing l l' with
  | zero => simpa using h
  | succ n ih =>
    cases l with
    | nil => rw [h.nil_left]; simpa using LR.nil M
    | cons v l => obtain ⟨v', t, rfl, _, ht⟩ := h.cases; simpa using ih ht
theorem LR.take {M : Mp} {l l' : List Value} (h : LR M l l') (n : Nat) : LR M (l.take n) (l'.take n) := by
  induction n generalizing l l' with
  | zero => simpa using LR.nil M
  | succ n ih =>
    cases l with
    | nil => rw [h.nil_left]; simpa using LR.nil M
    | cons v l => obtain ⟨v', t, rfl, hv, ht⟩ := h.cases; simpa using LR.cons hv (ih ht)
theorem LR.agg {M : Mp} {l l' : List Value} (h : LR M l l') (one : l.all Value.oneCell' = true) : VR M (.agg l.toArray) (.agg l'.toArray) := by
  refine .agg (by simpa using h.1) (fun i hi => ?_) (fun i hi => ?_)
  · have := h.2 i (by simpa using hi)
    simpa using this
  · have hi' : i < l.length := by simpa using hi
    have := List.all_eq_true.1 one l[i] (List.getElem_mem hi')
    simpa [hi'] using this
theorem LR.tuple {M : Mp} {l l' : List Value} (h : LR M l l') : VR M (.tuple l.toArray) (.tuple l'.toArray) := by
  refine .tuple (by simpa using h.1) (fun i hi => ?_)
  have := h.2 i (by simpa using hi)
  simpa using this
theorem VR.agg_list {M : Mp} {cs : Array Value} {v' : Value} (h : VR M (.agg cs) v') : ∃ ds : Array Value, v' = .agg ds ∧ LR M cs.toList ds.toList ∧ cs.toList.all Value.oneCell' = true := by
  cases h with
  | agg hs h one =>
    refine ⟨_, rfl, ⟨by simpa using hs, fun i hi => ?_⟩, ?_⟩
    · have := h i (by simpa using hi)
      simpa using this
    · rw [List.all_eq_true]
      intro x hx
      obtain ⟨i, hi, rfl⟩ := List.getElem_of_mem hx
      have := one i (by simpa using hi)
      have hi' : i < cs.size := by simpa using hi
      simpa [hi'] using this
theorem VR.tuple_list {M : Mp} {cs : Array Value} {v' : Value} (h : VR M (.tuple cs) v') : ∃ ds : Array Value, v' = .tuple ds ∧ LR M cs.toList ds.toList := by
  cases h with
  | tuple hs h =>
    refine ⟨_, rfl, ⟨by simpa using hs, fun i hi => ?_⟩⟩
    have := h i (by simpa using hi)
    simpa using this
theorem VR.func_list {M : Mp} {fn : Fn} {fs cs : Array Value} {v' : Value} (h : VR M (.func fn fs cs) v') :
    ∃ fs' cs' : Array Value, v' = .func fn fs' cs' ∧ LR M fs.toList fs'.toList ∧ LR M cs.toList cs'.toList := by
  cases h with
  | func _ hf hF hc hC =>
    refine ⟨_, _, rfl, ⟨by simpa using hf, fun i hi => ?_⟩, ⟨by simpa using hc, fun i hi => ?_⟩⟩
    · have := hF i (by simpa using hi); simpa using this
    · have := hC i (by simpa using hi); simpa using this
theorem LR.func {M : Mp} (fn : Fn) {fs fs' cs cs' : List Value} (hf : LR M fs fs') (hc : LR M cs cs') : VR M (.func fn fs.toArray cs.toArray) (.func fn fs'.toArray cs'.toArray) := by
  refine .func fn (by simpa using hf.1) (fun i hi => ?_) (by simpa using hc.1) (fun i hi => ?_)
  · have := hf.2 i (by simpa using hi); simpa using this
  · have := hc.2 i (by simpa using hi); simpa using this
theorem VR.cells {M : Mp} {v v' : Value} (h : VR M v v') : LR M v.cells.toList v'.cells.toList := by
  cases h with
  | agg hs h one =>
    obtain ⟨ds, hd, hl, _⟩ := VR.agg_list (VR.agg hs h one)
    injection hd with hd
    subst hd
    simpa [Value.cells] using hl
  | _ => exact LR.cons (by constructor <;> assumption) (LR.nil M)

/-- one entry of a map -/
def ER (M : Mp) (e e' : MapEntry) : Prop := VR M e.key e'.key ∧ VR M e.val e'.val ∧ e.born = e'.born

abbrev EsR (M : Mp) (l l' : List MapEntry) : Prop := All2 (ER M) l l'

inductive OR (M : Mp) : Ob → Pl → Obj → Prop
  | ro {c : List Value} {e : TypeId} {p : Pl} {c' : Array Value} {fz : Nat × Nat} (hk : p.k = .ro) (hs : p.sh = 0) (h : LR M c c'.toList) (ho : c.all Value.oneCell' = true) : OR M (.cells c e .ro) p (.cells c' e fz)
  | rw {c : List Value} {e : TypeId} {p : Pl} {c' : Array Value} {fz : Nat × Nat} (hk : p.k = .rw) (hs : p.sh = 0) (h : LR M c c'.toList) (hz : fz.2 ≤ fz.1) (ho : c.all Value.oneCell' = true) : OR M (.cells c e .rw) p (.cells c' e fz)
  | opn {c : List Value} {e : TypeId} {p : Pl} {c' : Array Value} {fz : Nat × Nat} {tot sz : Nat} (hk : p.k = .opn tot sz) (ht : c'.size = tot) (hn : sz ≠ 0)
      (h : LR M c ((c'.toList.drop p.sh).take c.length)) (hz : fz.2 ≤ fz.1 ∨ c'.size ≤ fz.1) (ho : c.all Value.oneCell' = true) : OR M (.cells c e (.opn sz)) p (.cells c' e fz)
  | map {es : List MapEntry} {clock : Nat} {p : Pl} {es' : Array MapEntry} (hk : p.k = .rw) (h : EsR M es es'.toList) : OR M (.map es clock) p (.map es' clock)
  | inil {since : Nat} {seen : List Nat} {st : Nat} {p : Pl} (hk : p.k = .rw) (hs : p.sh = 0) : OR M (.iter none since seen st) p (.mapIter none since seen.toArray st)
  | iter {m since : Nat} {seen : List Nat} {st : Nat} {p q : Pl} (hk : p.k = .rw) (hs : p.sh = 0) (hm : M m = some q) : OR M (.iter (some m) since seen st) p (.mapIter (some q.b) since seen.toArray st)
  | sit {s : ByteArray} {pos : Nat} {p : Pl} (hk : p.k = .rw) (hs : p.sh = 0) : OR M (.sit s pos) p (.stringIter s pos)

def Ob.live : Ob → Bool
  | .dead => false
  | _ => true

structure HR (B : Nat) (M : Mp) (h : Hp) (w : World) : Prop where
  wf : ∀ id, h.next ≤ id → h.get id = none
  inHeap : ∀ id p, M id = some p → p.b < w.heap.size
  fresh : ∀ id p, M id = some p → id < h.next ∨ B ≤ id
  one : ∀ i j p q o o', M i = some p → M j = some q → h.get i = some o → h.get j = some o' → o.live = true → o'.live = true → p.b = q.b → i = j
  ob : ∀ id p o, M id = some p → h.get id = some o → o.live = true → ∃ x, w.heap[p.b]? = some x ∧ OR M o p x

/-- which blocks may be touched -/
def may (M : Mp) (h : Hp) (b : Nat) : Prop := ∃ id p o, M id = some p ∧ h.get id = some o ∧ o.live = true ∧ p.b = b ∧ p.k ≠ .ro

structure Ext (M : Mp) (h : Hp) (w : World) (M' : Mp) (h' : Hp) (w' : World) : Prop where
  le : M.le M'
  next : h.next ≤ h'.next
  size : w.heap.size ≤ w'.heap.size
  keep : ∀ b, b < w.heap.size → ¬ may M h b → w'.heap[b]? = w.heap[b]?
  touch : ∀ b, may M' h' b → b < w.heap.size → may M h b
  newb : ∀ id p, M' id = some p → M id = none → w.heap.size ≤ p.b ∨ may M h p.b
  range : ∀ id p, M' id = some p → M id = none → h.next ≤ id ∧ id < h'.next
  held : ∀ id, M id = none → id < h.next → h'.get id = h.get id
  os : w'.os = w.os
  out : w'.output = w.output
  tape : w'.tape = w.tape

theorem Ext.refl (M : Mp) (h : Hp) (w : World) : Ext M h w M h w :=
  ⟨Mp.le_refl M, Nat.le_refl _, Nat.le_refl _, fun _ _ _ => rfl, fun _ h _ => h, (fun _ _ h h' => by rw [h'] at h; cases h), (fun _ _ h h' => by rw [h'] at h; cases h), (fun _ _ _ => rfl), rfl, rfl, rfl⟩
theorem Ext.trans {M M' M'' : Mp} {h h' h'' : Hp} {w w' w'' : World} (e : Ext M h w M' h' w') (e' : Ext M' h' w' M'' h'' w'') : Ext M h w M'' h'' w'' where
  le := e.le.trans e'.le
  next := Nat.le_trans e.next e'.next
  size := Nat.le_trans e.size e'.size
  keep b hb hm := by
    rw [e'.keep b (Nat.lt_of_lt_of_le hb e.size) (fun hm' => hm (e.touch b hm' hb)), e.keep b hb hm]
  touch b hm hb := e.touch b (e'.touch b hm (Nat.lt_of_lt_of_le hb e.size)) hb
  newb id p hp hn := by
    cases hm : M' id with
    | some q =>
      have := e'.le _ _ hm
      rw [hp] at this; injection this with this; subst this
      exact e.newb id _ hm hn
    | none =>
      rcases e'.newb id p hp hm with hs | hs
      · exact .inl (Nat.le_trans e.size hs)
      · rcases Nat.lt_or_ge p.b w.heap.size with hl | hl
        · exact .inr (e.touch _ hs hl)
        · exact .inl hl
  range id p hp hn := by
    cases hm : M' id with
    | some q =>
      have := e.range id q hm hn
      exact ⟨this.1, Nat.lt_of_lt_of_le this.2 e'.next⟩
    | none =>
      have := e'.range id p hp hm
      exact ⟨Nat.le_trans e.next this.1, this.2⟩
  held id hn hlt := by
    have hn' : M' id = none := by
      cases hm : M' id with
      | none => rfl
      | some q => exact absurd (e.range id q hm hn).1 (by omega)
    rw [e'.held id hn' (Nat.lt_of_lt_of_le hlt e.next), e.held id hn hlt]
  os := e'.os.trans e.os
  out := e'.out.trans e.out
  tape := e'.tape.trans e.tape

/-- environments -/
structure EnvR (M : Mp) (e : Env) (a : Act) : Prop where
  vals : ∀ t, VR M (e.val t) (a.tmps.getD t undef)
  size : a.tmps.size = e.n
  defers : All2 (fun d d' : Deferred => ∃ f c c', d.target = .fn (.func f) c ∧ d'.target = .fn (.func f) c' ∧ LR M c.toList c'.toList ∧ LR M d.args.toList d'.args.toList) e.defers a.defers

end Go.AE

namespace Go.AE

def _root_.Go.World.atBlock (w : World) (b : Nat) (o : Obj) : World := { w with heap := w.heap.setIfInBounds b o }

def Mp.upd (M : Mp) (n : Nat) (p : Pl) : Mp := fun id => if id = n then some p else M id

theorem Mp.le_upd {M : Mp} {n : Nat} {p : Pl} (h : M n = none) : M.le (M.upd n p) := by
  intro id q hq
  unfold Mp.upd
  split
  · rename_i e; subst e; rw [h] at hq; cases hq
  · exact hq
theorem Mp.upd_same (M : Mp) (n : Nat) (p : Pl) : (M.upd n p) n = some p := by simp [Mp.upd]

section
variable {B : Nat} {M : Mp} {h : Hp} {w : World}

theorem Hp.wf_put (hw : ∀ id, h.next ≤ id → h.get id = none) {b : Nat} {o : Ob} (o' : Ob) (hb : h.get b = some o) : ∀ id, (h.put b o').next ≤ id → (h.put b o').get id = none := by
  intro id hid
  rw [Hp.get_put]
  split
  · rename_i e; subst e; rw [hw _ hid] at hb; cases hb
  · exact hw _ hid
theorem Hp.wf_new (hw : ∀ id, h.next ≤ id → h.get id = none) (o : Ob) : ∀ id, (h.new o).next ≤ id → (h.new o).get id = none := by
  intro id hid
  rw [Hp.next_new] at hid
  rw [Hp.get_new, if_neg (by omega)]
  exact hw _ (by omega)

theorem HR.none_next (H : HR B M h w) (hB : h.next < B) : M h.next = none := by
  cases hm : M h.next with
  | none => rfl
  | some p => rcases H.fresh _ _ hm with h | h <;> omega

theorem HR.drawn (H : HR B M h w) (n : Nat) : HR B M h { w with drawn := n } := ⟨H.wf, H.inHeap, H.fresh, H.one, H.ob⟩
theorem Ext.drawn (M : Mp) (h : Hp) (w : World) (n : Nat) : Ext M h w M h { w with drawn := n } :=
  ⟨Mp.le_refl M, Nat.le_refl _, Nat.le_refl _, fun _ _ _ => rfl, fun _ h _ => h, (fun _ _ h h' => by rw [h'] at h; cases h), (fun _ _ h h' => by rw [h'] at h; cases h), (fun _ _ _ => rfl), rfl, rfl, rfl⟩

theorem EsR.mono {M M' : Mp} (hM : M.le M') {l l' : List MapEntry} (h : EsR M l l') : EsR M' l l' := by
  induction h with
  | nil => exact .nil
  | cons h _ ih => exact .cons ⟨h.1.mono hM, h.2.1.mono hM, h.2.2⟩ ih

theorem OR.mono {M M' : Mp} (hM : M.le M') {o : Ob} {p : Pl} {x : Obj} (h : OR M o p x) : OR M' o p x := by
  cases h with
  | ro hk hs h ho => exact .ro hk hs (h.mono hM) ho
  | rw hk hs h hz ho => exact .rw hk hs (h.mono hM) hz ho
  | opn hk ht hn h hz ho => exact .opn hk ht hn (h.mono hM) hz ho
  | map hk h => exact .map hk (h.mono hM)
  | inil hk hs => exact .inil hk hs
  | iter hk hs hm => exact .iter hk hs (hM _ _ hm)
  | sit hk hs => exact .sit hk hs

/-- a name that leads nowhere yet is given a block of its own -/
theorem HR.fill (H : HR B M h w) {id : Nat} {x : Obj} {k : Kd} (hn : M id = none) (hf : id < h.next ∨ B ≤ id)
    (ho : ∀ o, h.get id = some o → o.live = true → OR (M.upd id ⟨w.heap.size, 0, k⟩) o ⟨w.heap.size, 0, k⟩ x) :
    HR B (M.upd id ⟨w.heap.size, 0, k⟩) h (w.alloc x) := by
  have hle : M.le (M.upd id ⟨w.heap.size, 0, k⟩) := Mp.le_upd hn
  refine ⟨H.wf, ?_, ?_, ?_, ?_⟩
  · intro i p hp
    simp only [World.alloc, Array.size_push]
    unfold Mp.upd at hp
    split at hp
    · injection hp with hp; subst hp; exact Nat.lt_succ_self _
    · exact Nat.lt_succ_of_lt (H.inHeap _ _ hp)
  · intro i p hp
    unfold Mp.upd at hp
    split at hp
    · rename_i e; subst e; exact hf
    · exact H.fresh _ _ hp
  · intro i j p q oi oj hi hj gi gj li lj hb
    unfold Mp.upd at hi hj
    split at hi
    · rename_i ei
      split at hj
      · rename_i ej; rw [ei, ej]
      · injection hi with hi; subst hi
        have := H.inHeap _ _ hj
        simp only at hb; omega
    · rename_i ei
      split at hj
      · injection hj with hj; subst hj
        have := H.inHeap _ _ hi
        simp only at hb; omega
      · exact H.one i j p q oi oj hi hj gi gj li lj hb
  · intro i p oo hp hg hl
    unfold Mp.upd at hp
    split at hp
    · rename_i e
      subst e
      injection hp with hp; subst hp
      exact ⟨x, by unfold World.alloc; simp, ho oo hg hl⟩
    · obtain ⟨y, hy, hr⟩ := H.ob i p oo hp hg hl
      refine ⟨y, ?_, hr.mono hle⟩
      have := H.inHeap _ _ hp
      simp only [World.alloc]
      rw [Array.getElem?_push_lt this]
      rw [Array.getElem?_eq_getElem this] at hy
      exact hy

/-- a new name that leads nowhere -/
theorem HR.name (H : HR B M h w) (hB : h.next < B) (o : Ob) : HR B M (h.new o) w := by
  have hn := H.none_next hB
  have key : ∀ i p, M i = some p → i ≠ h.next := fun i p hp e => by subst e; rw [hn] at hp; cases hp
  refine ⟨Hp.wf_new H.wf o, H.inHeap, ?_, ?_, ?_⟩
  · intro i p hp
    rw [Hp.next_new]
    rcases H.fresh _ _ hp with h | h
    · exact .inl (by omega)
    · exact .inr h
  · intro i j p q oi oj hi hj gi gj li lj hb
    rw [Hp.get_new, if_neg (key _ _ hi)] at gi
    rw [Hp.get_new, if_neg (key _ _ hj)] at gj
    exact H.one i j p q oi oj hi hj gi gj li lj hb
  · intro i p oo hp hg hl
    rw [Hp.get_new, if_neg (key _ _ hp)] at hg
    exact H.ob i p oo hp hg hl

/-- a new block -/
theorem HR.new (H : HR B M h w) (hB : h.next < B) {o : Ob} {x : Obj} {k : Kd} (ho : OR (M.upd h.next ⟨w.heap.size, 0, k⟩) o ⟨w.heap.size, 0, k⟩ x) :
    HR B (M.upd h.next ⟨w.heap.size, 0, k⟩) (h.new o) (w.alloc x) := by
  refine (H.name hB o).fill (H.none_next hB) (.inl (by rw [Hp.next_new]; omega)) fun o' ho' hl' => ?_
  rw [Hp.get_new, if_pos rfl] at ho'
  injection ho' with ho'; subst ho'
  exact ho

theorem Ext.new (H : HR B M h w) (hB : h.next < B) (o : Ob) (x : Obj) (k : Kd) : Ext M h w (M.upd h.next ⟨w.heap.size, 0, k⟩) (h.new o) (w.alloc x) := by
  have hn := H.none_next hB
  refine ⟨Mp.le_upd hn, by rw [Hp.next_new]; omega, by unfold World.alloc; simp, fun b hb _ => ?_, fun b hm hb => ?_, fun id p hp hnn => ?_, fun id p hp hnn => ?_, (fun id _ hlt => by rw [Hp.get_new, if_neg (by omega)]), rfl, rfl, rfl⟩
  · simp only [World.alloc]
    rw [Array.getElem?_push_lt hb, Array.getElem?_eq_getElem hb]
  · obtain ⟨id, p, oo, hp, hg, hl, hpb, hk⟩ := hm
    unfold Mp.upd at hp
    split at hp
    · injection hp with hp; subst hp; simp only at hpb; omega
    · rename_i e
      rw [Hp.get_new, if_neg e] at hg
      exact ⟨id, p, oo, hp, hg, hl, hpb, hk⟩
  · unfold Mp.upd at hp
    split at hp
    · injection hp with hp; subst hp; exact .inl (Nat.le_refl _)
    · rw [hnn] at hp; cases hp
  · unfold Mp.upd at hp
    split at hp
    · rename_i e; subst e; rw [Hp.next_new]; omega
    · rw [hnn] at hp; cases hp

/-- a changed block -/
theorem HR.at_put (H : HR B M h w) {id : Nat} {p : Pl} {o o' : Ob} {x : Obj} (hM : M id = some p) (hg : h.get id = some o) (hl : o.live = true) (ho : OR M o' p x) :
    HR B M (h.put id o') (w.atBlock p.b x) := by
  refine ⟨Hp.wf_put H.wf o' hg, ?_, H.fresh, ?_, ?_⟩
  · intro i q hq
    simpa [World.atBlock] using H.inHeap i q hq
  · intro i j pi pj oi oj hi hj gi gj li lj hb
    rw [Hp.get_put] at gi gj
    by_cases ei : i = id
    · by_cases ej : j = id
      · omega
      · subst ei; rw [if_neg ej] at gj
        exact H.one i j pi pj o oj hi hj hg gj hl lj hb
    · rw [if_neg ei] at gi
      by_cases ej : j = id
      · subst ej
        exact H.one i j pi pj oi o hi hj gi hg li hl hb
      · rw [if_neg ej] at gj
        exact H.one i j pi pj oi oj hi hj gi gj li lj hb
  · intro i q oo hq hgi hli
    rw [Hp.get_put] at hgi
    by_cases ei : i = id
    · subst ei
      rw [if_pos rfl] at hgi
      injection hgi with hgi; subst hgi
      rw [hM] at hq; injection hq with hq; subst hq
      refine ⟨x, ?_, ho⟩
      have := H.inHeap _ _ hM
      simp [World.atBlock, this]
    · rw [if_neg ei] at hgi
      obtain ⟨y, hy, hr⟩ := H.ob i q oo hq hgi hli
      refine ⟨y, ?_, hr⟩
      have hne : p.b ≠ q.b := fun hb => ei (H.one i id q p oo o hq hM hgi hg hli hl hb.symm)
      simp only [World.atBlock]
      rw [Array.getElem?_setIfInBounds_ne hne]
      exact hy

theorem Ext.at_put {id : Nat} {p : Pl} {o : Ob} (o' : Ob) (x : Obj) (hM : M id = some p) (hg : h.get id = some o) (hl : o.live = true) (hk : p.k ≠ .ro) :
    Ext M h w M (h.put id o') (w.atBlock p.b x) := by
  refine ⟨Mp.le_refl M, Nat.le_refl _, by simp [World.atBlock], fun b _ hm => ?_, fun b hm _ => ?_, (fun _ _ h h' => by rw [h'] at h; cases h), (fun _ _ h h' => by rw [h'] at h; cases h), (fun i hn _ => by rw [Hp.get_put, if_neg (fun e => by subst e; rw [hM] at hn; cases hn)]), rfl, rfl, rfl⟩
  · have hne : p.b ≠ b := fun e => hm ⟨id, p, o, hM, hg, hl, e, hk⟩
    simp only [World.atBlock]
    exact Array.getElem?_setIfInBounds_ne hne
  · obtain ⟨i, q, oo, hq, hgi, hli, hqb, hqk⟩ := hm
    rw [Hp.get_put] at hgi
    by_cases e : i = id
    · subst e
      rw [hM] at hq; injection hq with hq; subst hq
      exact ⟨i, p, o, hM, hg, hl, hqb, hk⟩
    · rw [if_neg e] at hgi
      exact ⟨i, q, oo, hq, hgi, hli, hqb, hqk⟩

/-- a dead row -/
theorem HR.kill (H : HR B M h w) (id : Nat) {ob : Ob} (hg : h.get id = some ob) : HR B M (h.put id .dead) w := by
  refine ⟨Hp.wf_put H.wf .dead hg, H.inHeap, H.fresh, ?_, ?_⟩
  · intro i j p q oi oj hi hj gi gj li lj hb
    rw [Hp.get_put] at gi gj
    by_cases ei : i = id
    · rw [if_pos ei] at gi; injection gi with gi; subst gi; cases li
    · by_cases ej : j = id
      · rw [if_pos ej] at gj; injection gj with gj; subst gj; cases lj
      · rw [if_neg ei] at gi; rw [if_neg ej] at gj
        exact H.one i j p q oi oj hi hj gi gj li lj hb
  · intro i p oo hp hg hl
    rw [Hp.get_put] at hg
    by_cases ei : i = id
    · rw [if_pos ei] at hg; injection hg with hg; subst hg; cases hl
    · rw [if_neg ei] at hg; exact H.ob i p oo hp hg hl
theorem Ext.kill (M : Mp) (h : Hp) (w : World) (id : Nat) {p : Pl} (hM : M id = some p) : Ext M h w M (h.put id .dead) w := by
  refine ⟨Mp.le_refl M, Nat.le_refl _, Nat.le_refl _, fun b _ hm => rfl, fun b hm _ => ?_, (fun _ _ h h' => by rw [h'] at h; cases h), (fun _ _ h h' => by rw [h'] at h; cases h), (fun i hn _ => by rw [Hp.get_put, if_neg (fun e => by subst e; rw [hM] at hn; cases hn)]), rfl, rfl, rfl⟩
  obtain ⟨i, q, oo, hq, hgi, hli, hqb, hqk⟩ := hm
  rw [Hp.get_put] at hgi
  by_cases e : i = id
  · rw [if_pos e] at hgi; injection hgi with hgi; subst hgi; cases hli
  · rw [if_neg e] at hgi
    exact ⟨i, q, oo, hq, hgi, hli, hqb, hqk⟩

/-- the row of an open block, under a new name; the block may have changed -/
theorem HR.move (H : HR B M h w) (hB : h.next < B) {id : Nat} {p : Pl} {o o' : Ob} {x : Obj} {sh : Nat} {k : Kd} (hM : M id = some p) (hg : h.get id = some o) (hl : o.live = true)
    (ho : OR (M.upd h.next ⟨p.b, sh, k⟩) o' ⟨p.b, sh, k⟩ x) :
    HR B (M.upd h.next ⟨p.b, sh, k⟩) ((h.put id .dead).new o') (w.atBlock p.b x) := by
  have hn := H.none_next hB
  have hle : M.le (M.upd h.next ⟨p.b, sh, k⟩) := Mp.le_upd hn
  refine ⟨Hp.wf_new (Hp.wf_put H.wf .dead hg) o', ?_, ?_, ?_, ?_⟩
  · intro i q hq
    simp only [World.atBlock, Array.size_setIfInBounds]
    unfold Mp.upd at hq
    split at hq
    · injection hq with hq; subst hq; exact H.inHeap _ p hM
    · exact H.inHeap _ _ hq
  · intro i q hq
    rw [Hp.next_new, Hp.next_put]
    unfold Mp.upd at hq
    split at hq
    · rename_i e; left; omega
    · rcases H.fresh _ _ hq with h | h
      · left; omega
      · right; exact h
  · intro i j pi pj oi oj hi hj gi gj li lj hb
    unfold Mp.upd at hi hj
    rw [Hp.get_new, Hp.next_put] at gi gj
    rw [Hp.get_put] at gi gj
    split at hi
    · rename_i ei
      split at hj
      · rename_i ej; omega
      · rename_i ej
        injection hi with hi; subst hi
        rw [if_neg ej] at gj
        by_cases e : j = id
        · rw [if_pos e] at gj; injection gj with gj; subst gj; cases lj
        · rw [if_neg e] at gj
          exact absurd (H.one id j p pj o oj hM hj hg gj hl lj hb) (fun e' => e e'.symm)
    · rename_i ei
      rw [if_neg ei] at gi
      by_cases e : i = id
      · rw [if_pos e] at gi; injection gi with gi; subst gi; cases li
      · rw [if_neg e] at gi
        split at hj
        · injection hj with hj; subst hj
          exact absurd (H.one i id pi p oi o hi hM gi hg li hl hb) e
        · rename_i ej
          rw [if_neg ej] at gj
          by_cases e2 : j = id
          · rw [if_pos e2] at gj; injection gj with gj; subst gj; cases lj
          · rw [if_neg e2] at gj
            exact H.one i j pi pj oi oj hi hj gi gj li lj hb
  · intro i q oo hq hgi hli
    rw [Hp.get_new, Hp.next_put, Hp.get_put] at hgi
    unfold Mp.upd at hq
    split at hq
    · rename_i e
      rw [if_pos e] at hgi
      injection hq with hq; subst hq
      injection hgi with hgi; subst hgi
      refine ⟨x, ?_, ho⟩
      have := H.inHeap _ _ hM
      simp [World.atBlock, this]
    · rename_i e
      rw [if_neg e] at hgi
      by_cases e2 : i = id
      · rw [if_pos e2] at hgi; injection hgi with hgi; subst hgi; cases hli
      · rw [if_neg e2] at hgi
        obtain ⟨y, hy, hr⟩ := H.ob i q oo hq hgi hli
        refine ⟨y, ?_, hr.mono hle⟩
        have hne : p.b ≠ q.b := fun hb => e2 (H.one i id q p oo o hq hM hgi hg hli hl hb.symm)
        simp only [World.atBlock]
        rw [Array.getElem?_setIfInBounds_ne hne]
        exact hy

theorem Ext.move (H : HR B M h w) (hB : h.next < B) {id : Nat} {p : Pl} {o : Ob} (o' : Ob) (x : Obj) (sh : Nat) (k : Kd) (hM : M id = some p) (hg : h.get id = some o) (hl : o.live = true) (hk : p.k ≠ .ro) :
    Ext M h w (M.upd h.next ⟨p.b, sh, k⟩) ((h.put id .dead).new o') (w.atBlock p.b x) := by
  have hn := H.none_next hB
  refine ⟨Mp.le_upd hn, by rw [Hp.next_new, Hp.next_put]; omega, by simp [World.atBlock], fun b _ hm => ?_, fun b hm hb => ?_, fun i q hq hnn => ?_, fun i q hq hnn => ?_, (fun i hnn hlt => by rw [Hp.get_new, Hp.next_put, if_neg (by omega), Hp.get_put, if_neg (fun e => by subst e; rw [hM] at hnn; cases hnn)]), rfl, rfl, rfl⟩
  · have hne : p.b ≠ b := fun e => hm ⟨id, p, o, hM, hg, hl, e, hk⟩
    simp only [World.atBlock]
    exact Array.getElem?_setIfInBounds_ne hne
  · obtain ⟨i, q, oo, hq, hgi, hli, hqb, hqk⟩ := hm
    rw [Hp.get_new, Hp.next_put, Hp.get_put] at hgi
    unfold Mp.upd at hq
    split at hq
    · injection hq with hq; subst hq; exact ⟨id, p, o, hM, hg, hl, hqb, hk⟩
    · rename_i e
      rw [if_neg e] at hgi
      by_cases e2 : i = id
      · rw [if_pos e2] at hgi; injection hgi with hgi; subst hgi; cases hli
      · rw [if_neg e2] at hgi
        exact ⟨i, q, oo, hq, hgi, hli, hqb, hqk⟩
  · unfold Mp.upd at hq
    split at hq
    · injection hq with hq; subst hq; exact .inr ⟨id, p, o, hM, hg, hl, rfl, hk⟩
    · rw [hnn] at hq; cases hq
  · unfold Mp.upd at hq
    split at hq
    · rename_i e; subst e; rw [Hp.next_new, Hp.next_put]; omega
    · rw [hnn] at hq; cases hq

end
end Go.AE

namespace Go.AE

structure Tabs.Fits (G : Tabs) (P : Program) : Prop where
  und : ∀ t d, G.und t = some d → P.underlying t = some d
  held : ∀ t fs, G.und t = some (.struct fs) → P.stoodInHeld t = false
  info : ∀ t i, G.info t = some i → P.info? t = some i
  zero : ∀ t i z, G.info t = some i → i.zero = some z → VR (fun _ => none) z z ∧ z.cells.size = i.size ∧ z.cells.toList.all Value.oneCell' = true ∧ fits z = true

section
variable {G : Tabs} {P : Program} {M : Mp} {w : World}

theorem VR.of_none {v v' : Value} (hv : VR (fun _ => none) v v') : VR M v v' := hv.mono fun _ _ h => by cases h

theorem run_und {t : TypeId} {d : TypeDesc} (hu : P.underlying t = some d) (w : World) : (underlying t).run P w = .ok d w := by
  simp [underlying, hu]
theorem run_inf {t : TypeId} {i : TypeInfo} (hi : P.info? t = some i) (w : World) : (typeInfo t).run P w = .ok i w := by
  simp [typeInfo, hi]
theorem run_isAgg_of {t : TypeId} {d : TypeDesc} (hu : P.underlying t = some d) (w : World) : (isAgg t).run P w = .ok (isAggD d) w := by
  cases d <;> simp [isAgg, underlying, hu, isAggD]

theorem aSize_run (hG : G.Fits P) {t : TypeId} {n : Nat} (h : aSize G t = some n) (w : World) : (sizeOf t).run P w = .ok n w := by
  unfold aSize at h
  cases hi : G.info t with
  | none => rw [hi] at h; cases h
  | some i => rw [hi] at h; injection h with h; subst h; simp [sizeOf, typeInfo, hG.info _ _ hi]
theorem aSize_cellsOf (hG : G.Fits P) {t : TypeId} {n : Nat} (h : aSize G t = some n) : P.cellsOf t = n ∧ ∃ i, P.info? t = some i := by
  unfold aSize at h
  cases hi : G.info t with
  | none => rw [hi] at h; cases h
  | some i => rw [hi] at h; injection h with h; subst h; exact ⟨by simp [Program.cellsOf, hG.info _ _ hi], i, hG.info _ _ hi⟩
theorem aZero_run (hG : G.Fits P) {t : TypeId} {z : Value} (h : aZero G t = some z) (w : World) :
    (zeroValue t).run P w = .ok z w ∧ (∀ M, VR M z z) ∧ z.cells.toList.all Value.oneCell' = true ∧ fits z = true := by
  unfold aZero at h
  cases hi : G.info t with
  | none => rw [hi] at h; cases h
  | some i =>
    rw [hi] at h
    have hz : i.zero = some z := h
    exact ⟨by simp [zeroValue, typeInfo, hG.info _ _ hi, hz], fun M => (hG.zero _ _ _ hi hz).1.of_none, (hG.zero _ _ _ hi hz).2.2.1, (hG.zero _ _ _ hi hz).2.2.2⟩

theorem aPart_run (hG : G.Fits P) {t : TypeId} {cs ds : Array Value} {off : Nat} {v : Value} (hl : LR M cs.toList ds.toList) (one : cs.toList.all Value.oneCell' = true)
    (h : aPart G t cs.toList off = some v) (w : World) : ∃ v', (part t ds off).run P w = .ok v' w ∧ VR M v v' := by
  unfold aPart at h
  cases hu : G.und t with
  | none => rw [hu] at h; cases h
  | some d =>
    rw [hu] at h
    simp only [Option.bind_some] at h
    simp only [part, Sem.run_bind, run_isAgg_of (hG.und _ _ hu), Result.andThen_ok]
    cases hd : isAggD d with
    | true =>
      rw [hd] at h
      simp only [cond_true] at h
      cases hn : aSize G t with
      | none => rw [hn] at h; cases h
      | some n =>
        rw [hn] at h
        injection h with h
        subst h
        refine ⟨.agg (ds.extract off (off + n)), by simp [aSize_run hG hn], ?_⟩
        have h1 := (hl.drop off).take n
        have h2 : ds.extract off (off + n) = (List.take n (List.drop off ds.toList)).toArray := by
          apply Array.toList_inj.1
          simp [Array.toList_extract]
        rw [h2]
        refine LR.agg h1 ?_
        rw [List.all_eq_true] at one ⊢
        exact fun x hx => one x (List.mem_of_mem_drop (List.mem_of_mem_take hx))
    | false =>
      rw [hd] at h
      simp only [cond_false] at h
      obtain ⟨v', h1, h2⟩ := hl.get h
      refine ⟨v', ?_, h2⟩
      have : ds[off]? = some v' := by rw [← Array.getElem?_toList]; exact h1
      simp [this]

theorem bytesEq_eq (a b : ByteArray) : bytesEq a b = (a == b) := by
  rw [beq_toListBytes, ByteArray.toList_eq, ByteArray.toList_eq]; rfl

theorem aEq_run (hG : G.Fits P) : ∀ (d : Nat) (t : TypeId) (x y x' y' : Value) (b : Bool), aEq G d t x y = some b → VR M x x' → VR M y y' →
    ∀ (n : Nat), d ≤ n → ∀ w, (Op.equalIn n t x' y').run P w = .ok b w := by
  intro d
  induction d with
  | zero => intro t x y x' y' b h; simp [aEq] at h
  | succ d ih =>
    intro t x y x' y' b h hx hy n hn w
    obtain ⟨n, rfl⟩ : ∃ m, n = m + 1 := ⟨n - 1, by omega⟩
    unfold aEq at h
    cases hu : G.und t with
    | none => rw [hu] at h; cases h
    | some ds =>
      rw [hu] at h
      simp only [Option.bind_some] at h
      have hu' := hG.und _ _ hu
      split at h
      · injection h with h; subst h; cases hx; cases hy; simp [Op.equalIn, run_und hu']
      · cases hx; cases hy
        split at h
        · rename_i hk; injection h with h; subst h; simp [Op.equalIn, run_und hu', hk]
        · cases h
      · injection h with h; subst h; cases hx; cases hy; simp [Op.equalIn, run_und hu', bytesEq_eq]
      · rename_i fs xs ys
        obtain ⟨xs', rfl, hlx, ox⟩ := hx.agg_list
        obtain ⟨ys', rfl, hly, oy⟩ := hy.agg_list
        have hf : P.fieldsOf t = fs := by simp [Program.fieldsOf, hu']
        rw [run_equalIn_struct w n t xs' ys' (by rw [hf]; exact hu') (hG.held _ _ hu), hf]
        generalize fs.toList = l at h
        clear hf hu hu'
        induction l generalizing b w with
        | nil => simp [aEqFields] at h; subst h; simp [Op.eqFields]
        | cons f l il =>
          simp only [aEqFields] at h
          cases hname : (f.name == "_") with
          | true => rw [hname] at h; simp at h
          | false =>
            rw [hname] at h
            simp only [cond_false] at h
            have hne : f.name ≠ "_" := by simpa using hname
            cases h1 : aPart G f.type xs.toList f.offset with
            | none => rw [h1] at h; cases h
            | some a =>
              rw [h1] at h
              simp only [Option.bind_some] at h
              cases h2 : aPart G f.type ys.toList f.offset with
              | none => rw [h2] at h; cases h
              | some c =>
                rw [h2] at h
                simp only [Option.bind_some] at h
                cases h3 : aEq G d f.type a c with
                | none => rw [h3] at h; cases h
                | some r =>
                  rw [h3] at h
                  simp only [Option.bind_some] at h
                  obtain ⟨a', ra, va⟩ := aPart_run hG hlx ox h1 w
                  obtain ⟨c', rc, vc⟩ := aPart_run hG hly oy h2 w
                  have r3 := ih _ _ _ _ _ _ h3 va vc n (by omega) w
                  simp only [Op.eqFields, hne, ne_eq, not_false_eq_true, if_true, Sem.run_bind, ra, rc, r3, Result.andThen_ok]
                  cases r with
                  | true => simp only [cond_true] at h; simpa using il b w h
                  | false => simp only [cond_false] at h; injection h with h; subst h; simp
      · rename_i len e xs ys
        obtain ⟨xs', rfl, hlx, ox⟩ := hx.agg_list
        obtain ⟨ys', rfl, hly, oy⟩ := hy.agg_list
        cases hs : aSize G e with
        | none => rw [hs] at h; cases h
        | some m =>
          rw [hs] at h
          simp only [Option.bind_some] at h
          obtain ⟨hc, i, hi⟩ := aSize_cellsOf hG hs
          rw [run_equalIn_array (w := w) n xs' ys' hu' hi, hc]
          generalize List.range len = l at h
          induction l generalizing b w with
          | nil => simp [aEqElems] at h; subst h; simp [Op.eqItems]
          | cons j l il =>
            simp only [aEqElems] at h
            cases h1 : aPart G e xs.toList (j * m) with
            | none => rw [h1] at h; cases h
            | some a =>
              rw [h1] at h
              simp only [Option.bind_some] at h
              cases h2 : aPart G e ys.toList (j * m) with
              | none => rw [h2] at h; cases h
              | some c =>
                rw [h2] at h
                simp only [Option.bind_some] at h
                cases h3 : aEq G d e a c with
                | none => rw [h3] at h; cases h
                | some r =>
                  rw [h3] at h
                  simp only [Option.bind_some] at h
                  obtain ⟨a', ra, va⟩ := aPart_run hG hlx ox h1 w
                  obtain ⟨c', rc, vc⟩ := aPart_run hG hly oy h2 w
                  have r3 := ih _ _ _ _ _ _ h3 va vc n (by omega) w
                  simp only [Op.eqItems, Sem.run_bind, ra, rc, r3, Result.andThen_ok]
                  cases r with
                  | true => simp only [cond_true] at h; simpa using il b w h
                  | false => simp only [cond_false] at h; injection h with h; subst h; simp
      · cases h

theorem noIface_guard (hG : G.Fits P) : ∀ (d : Nat) (t : TypeId), noIface G d t = true → ∀ n, d ≤ n → P.eqGuardType n t = false := by
  intro d
  induction d with
  | zero => intro t h; simp [noIface] at h
  | succ d ih =>
    intro t h n hn
    obtain ⟨n, rfl⟩ : ∃ m, n = m + 1 := ⟨n - 1, by omega⟩
    unfold noIface at h
    cases hu : G.und t with
    | none => rw [hu] at h; simp at h
    | some ds =>
      rw [hu] at h
      have hu' := hG.und _ _ hu
      unfold Program.eqGuardType
      rw [hu']
      cases ds <;> simp only at h ⊢
      case struct fs =>
        rw [Array.any_eq_false]
        intro i hi
        have h1 := List.all_eq_true.1 h fs[i] (by simp)
        have := ih _ h1 n (by omega)
        simp [this]
      case array len e => exact ih _ h n (by omega)
      case interface ms => cases h

theorem depth_ge (P : Program) : 20 ≤ P.depth := by unfold Program.depth Made.depth; omega

set_option maxHeartbeats 2000000 in
theorem aEql_run (hG : G.Fits P) {op : BinOp} (hop : op = .eql ∨ op = .neq) {nilOk : Bool} {t : TypeId} {x y : Operand} {a c a' c' : Value} {b : Bool} (hn : nilOk = true → (isConst x || isConst y) = true)
    (h : aEql G nilOk t a c = some b) (ha : VR M a a') (hc : VR M c c') (hni : ∀ k n, a ≠ .int k n) (w : World) :
    (eqGuard op t x y a' c').run P w = .ok () w ∧ (Op.equal t a' c').run P w = .ok b w := by
  have hopm : (!(op matches .eql | .neq)) = false := by rcases hop with rfl | rfl <;> rfl
  unfold aEql at h
  split at h
  · -- agg
    cases hi : noIface G 20 t with
    | false => rw [hi] at h; simp at h
    | true =>
      rw [hi] at h
      simp only [cond_true] at h
      obtain ⟨xs', rfl, _, _⟩ := ha.agg_list
      obtain ⟨ys', rfl, _, _⟩ := hc.agg_list
      refine ⟨run_eqGuard_agg w op t x y xs' ys' (noIface_guard hG 20 t hi _ (depth_ge P)), ?_⟩
      exact aEq_run hG 20 t _ _ _ _ b h ha hc 10000 (by omega) w
  all_goals first
    | (cases h; done)
    | skip
  all_goals
    first
    | (cases hu : G.und t with
        | none => rw [hu] at h; cases h
        | some d =>
          rw [hu] at h
          simp only [Option.bind_some] at h
          have hu' := hG.und _ _ hu
          cases d <;> simp only [reduceCtorEq] at h
          all_goals
            injection h with h
            subst h
            cases ha <;> cases hc <;> (refine ⟨by rcases hop with rfl | rfl <;> simp [eqGuard], ?_⟩; refine (?_ : ∀ n, (Op.equalIn (n + 1) t _ _).run P w = _) 9999; intro n; simp [Op.equalIn, run_und hu']))
    | (cases hno : nilOk with
        | false => rw [hno] at h; simp at h
        | true =>
          rw [hno] at h
          simp only [cond_true] at h
          have hco := hn hno
          cases hu : G.und t with
          | none => rw [hu] at h; cases h
          | some d =>
            rw [hu] at h
            simp only [Option.bind_some] at h
            have hu' := hG.und _ _ hu
            cases d <;> simp only [reduceCtorEq] at h
            all_goals
              injection h with h
              subst h
              cases ha; cases hc
              refine ⟨?_, (by refine (?_ : ∀ n, (Op.equalIn (n + 1) t _ _).run P w = _) 9999; intro n; simp [Op.equalIn, run_und hu'])⟩
              rcases hop with rfl | rfl <;> (cases x <;> cases y <;> simp_all [eqGuard, isConst]))

theorem aStr_run {op : BinOp} {a b : ByteArray} {v : Value} (h : aStr op a b = some v) (t : TypeId) (w : World) : (binOp op t (.string a) (.string b)).run P w = .ok v w ∧ VR M v v := by
  unfold aStr bytesEq at h
  cases op <;> simp only [reduceCtorEq] at h
  case add =>
    split at h
    · rename_i hlt
      injection h with h; subst h
      refine ⟨?_, .str _⟩
      have : ¬ (((a.size + b.size : Nat) : Int) > IntKind.i64.max) := by
        have : IntKind.i64.max = 9223372036854775807 := by decide
        unfold small at hlt
        omega
      simp only [binOp, Op.stringOp]
      rw [if_neg this]
      rfl
    · cases h
  all_goals
    injection h with h; subst h
    refine ⟨?_, .bool _⟩
    simp [binOp, Op.stringOp, ByteArray.toList_eq]

theorem aInt_run {op : BinOp} {k : IntKind} {a b : Int} {v : Value} (h : aInt op k a b = some v) (t : TypeId) (w : World) : (binOp op t (.int k a) (.int k b)).run P w = .ok v w ∧ VR M v v := by
  unfold aInt at h
  cases op <;> simp only [reduceCtorEq] at h
  case quo =>
    split at h
    · cases h
    · rename_i hz; injection h with h; subst h; exact ⟨by simp [binOp, Op.intDiv, hz], .int _ _⟩
  case rem =>
    split at h
    · cases h
    · rename_i hz; injection h with h; subst h; exact ⟨by simp [binOp, Op.intDiv, hz], .int _ _⟩
  case add => injection h with h; subst h; exact ⟨by simp [binOp, Op.intArith], .int _ _⟩
  case sub => injection h with h; subst h; exact ⟨by simp [binOp, Op.intArith], .int _ _⟩
  case mul => injection h with h; subst h; exact ⟨by simp [binOp, Op.intArith], .int _ _⟩
  case and => injection h with h; subst h; exact ⟨by simp only [binOp, ne_eq, not_true_eq_false, if_false]; rfl, .int _ _⟩
  case or => injection h with h; subst h; exact ⟨by simp only [binOp, ne_eq, not_true_eq_false, if_false]; rfl, .int _ _⟩
  case xor => injection h with h; subst h; exact ⟨by simp only [binOp, ne_eq, not_true_eq_false, if_false]; rfl, .int _ _⟩
  case andNot => injection h with h; subst h; exact ⟨by simp only [binOp, ne_eq, not_true_eq_false, if_false]; rfl, .int _ _⟩
  all_goals
    injection h with h; subst h
    exact ⟨by simp [binOp, Op.intCmp], .bool _⟩

theorem aShift_run {op : BinOp} (hop : op = .shl ∨ op = .shr) {k k' : IntKind} {a b : Int} {v : Value} (h : aShift op k a b = some v) (t : TypeId) (w : World) :
    (binOp op t (.int k a) (.int k' b)).run P w = .ok v w ∧ VR M v v := by
  unfold aShift at h
  split at h
  · cases h
  · rename_i hb
    rcases hop with rfl | rfl
    all_goals
      injection h with h; subst h
      exact ⟨by simp [binOp, Op.shift, hb], .int _ _⟩

theorem run_eqGuard_int (op : BinOp) (t : TypeId) (x y : Operand) (k k' : IntKind) (a b : Int) (w : World) : (eqGuard op t x y (.int k a) (.int k' b)).run P w = .ok () w := by
  cases op <;> simp [eqGuard]
theorem run_eqGuard_str (op : BinOp) (t : TypeId) (x y : Operand) (a b : ByteArray) (w : World) : (eqGuard op t x y (.string a) (.string b)).run P w = .ok () w := by
  cases op <;> simp [eqGuard]

theorem binOp_eql_run {t : TypeId} {x y : Value} {b : Bool} (h : (Op.equal t x y).run P w = .ok b w) (hi : (∀ k n, x ≠ .int k n)) (hs : ∀ s, x ≠ .string s)
    (hf : ∀ k n, x ≠ .float k n) (hc : ∀ k n m, x ≠ .complex k n m) : (binOp .eql t x y).run P w = .ok (.bool b) w ∧ (binOp .neq t x y).run P w = .ok (.bool (!b)) w := by
  cases x <;> first
    | (exact absurd rfl (hi _ _))
    | (exact absurd rfl (hs _))
    | (exact absurd rfl (hf _ _))
    | (exact absurd rfl (hc _ _ _))
    | (constructor <;> simp [binOp, h])

theorem aBin_run (hG : G.Fits P) {op : BinOp} {t : TypeId} {x y : Operand} {a c a' c' v : Value} (h : aBin G (isConst x || isConst y) op t a c = some v) (ha : VR M a a') (hc : VR M c c') (w : World) :
    ∃ v', (do eqGuard op t x y a' c'; binOp op t a' c' : Sem Value).run P w = .ok v' w ∧ VR M v v' := by
  unfold aBin at h
  split at h
  · cases ha; cases hc
    split at h
    · rename_i k' _ _
      obtain ⟨h1, h2⟩ := aShift_run (P := P) (M := M) (k' := k') (.inl rfl) h t w
      exact ⟨v, by simp [run_eqGuard_int, h1], h2⟩
    · rename_i k' _ _
      obtain ⟨h1, h2⟩ := aShift_run (P := P) (M := M) (k' := k') (.inr rfl) h t w
      exact ⟨v, by simp [run_eqGuard_int, h1], h2⟩
    · split at h
      · rename_i hk
        subst hk
        obtain ⟨h1, h2⟩ := aInt_run (P := P) (M := M) h t w
        exact ⟨v, by simp [run_eqGuard_int, h1], h2⟩
      · cases h
  · cases ha; cases hc
    obtain ⟨h1, h2⟩ := aStr_run (P := P) (M := M) h t w
    exact ⟨v, by simp [run_eqGuard_str, h1], h2⟩
  · rename_i hni hns
    split at h
    · cases he : aEql G (isConst x || isConst y) t a c with
      | none => rw [he] at h; cases h
      | some b =>
        rw [he] at h; injection h with h; subst h
        have hai : ∀ k n, a ≠ .int k n := by
          intro k n e; subst e; unfold aEql at he; split at he <;> simp_all
        have hstr : ∀ s, a ≠ .string s := by
          intro s e; subst e; unfold aEql at he; split at he <;> simp_all
        obtain ⟨g1, g2⟩ := aEql_run hG (.inl rfl) (x := x) (y := y) (fun h => h) he ha hc hai w
        have hb := binOp_eql_run (t := t) g2 (by cases ha <;> simp_all) (by cases ha <;> simp_all) (by cases ha <;> simp) (by cases ha <;> simp)
        exact ⟨.bool b, by simp [g1, hb.1], .bool _⟩
    · cases he : aEql G (isConst x || isConst y) t a c with
      | none => rw [he] at h; cases h
      | some b =>
        rw [he] at h; injection h with h; subst h
        have hai : ∀ k n, a ≠ .int k n := by
          intro k n e; subst e; unfold aEql at he; split at he <;> simp_all
        have hstr : ∀ s, a ≠ .string s := by
          intro s e; subst e; unfold aEql at he; split at he <;> simp_all
        obtain ⟨g1, g2⟩ := aEql_run hG (.inr rfl) (x := x) (y := y) (fun h => h) he ha hc hai w
        have hb := binOp_eql_run (t := t) g2 (by cases ha <;> simp_all) (by cases ha <;> simp_all) (by cases ha <;> simp) (by cases ha <;> simp)
        exact ⟨.bool (!b), by simp [g1, hb.2], .bool _⟩
    · cases h

theorem aUn_run {op : UnOp} {a a' v : Value} (h : aUn op a = some v) (ha : VR M a a') (w : World) : ∃ v', (Op.unary op a').run P w = .ok v' w ∧ VR M v v' := by
  unfold aUn at h
  split at h
  · injection h with h; subst h; cases ha; exact ⟨_, by simp [Op.unary, Op.intArith], .int _ _⟩
  · injection h with h; subst h; cases ha; exact ⟨_, by simp [Op.unary], .bool _⟩
  · cases h

end
end Go.AE

namespace Go.AE

section
variable {G : Tabs} {P : Program} {B : Nat} {M : Mp} {h : Hp} {w : World}

/-- what is known of a live row -/
structure RowAt (M : Mp) (w : World) (p : Pl) (c : List Value) (e : TypeId) (md : Md) (c' : Array Value) (fz : Nat × Nat) : Prop where
  at_ : w.heap[p.b]? = some (.cells c' e fz)
  rel : LR M c ((c'.toList.drop p.sh).take c.length)
  one : c.all Value.oneCell' = true
  kind : (md = .ro ∧ p.k = .ro ∧ p.sh = 0 ∧ c'.size = c.length) ∨ (md = .rw ∧ p.k = .rw ∧ p.sh = 0 ∧ c'.size = c.length ∧ fz.2 ≤ fz.1) ∨
    (∃ tot sz, md = .opn sz ∧ p.k = .opn tot sz ∧ c'.size = tot ∧ sz ≠ 0 ∧ (fz.2 ≤ fz.1 ∨ c'.size ≤ fz.1))

theorem HR.row (H : HR B M h w) {b : Nat} {p : Pl} {c : List Value} {e : TypeId} {md : Md} (hM : M b = some p) (hb : h.get b = some (.cells c e md)) :
    ∃ c' fz, RowAt M w p c e md c' fz := by
  obtain ⟨x, hx, ho⟩ := H.ob b p _ hM hb rfl
  cases ho with
  | ro hk hs hl ho =>
    refine ⟨_, _, hx, ?_, ho, .inl ⟨rfl, hk, hs, by simpa using hl.1.symm⟩⟩
    rw [hs, List.drop_zero, List.take_of_length_le (Nat.le_of_eq hl.1.symm)]; exact hl
  | rw hk hs hl hz ho =>
    refine ⟨_, _, hx, ?_, ho, .inr (.inl ⟨rfl, hk, hs, by simpa using hl.1.symm, hz⟩)⟩
    rw [hs, List.drop_zero, List.take_of_length_le (Nat.le_of_eq hl.1.symm)]; exact hl
  | opn hk ht hn hl hz ho => exact ⟨_, _, hx, hl, ho, .inr (.inr ⟨_, _, rfl, hk, ht, hn, hz⟩)⟩

theorem RowAt.len {p : Pl} {c : List Value} {e : TypeId} {md : Md} {c' : Array Value} {fz : Nat × Nat} (R : RowAt M w p c e md c' fz) : p.sh + c.length ≤ c'.size ∨ c = [] := by
  have := R.rel.1
  simp only [List.length_take, List.length_drop, Array.length_toList] at this
  by_cases hc : c = []
  · exact .inr hc
  · left
    have : 0 < c.length := List.length_pos_iff.2 hc
    omega

theorem cell_at {b o : Nat} {c : Array Value} {e : TypeId} {fz : Nat × Nat} (hb : w.heap[b]? = some (.cells c e fz)) : w.cell? ⟨b, o, none⟩ = c[o]? := by
  simp [World.cell?, hb]

theorem LR.get_at {c l : List Value} {sh o : Nat} (hl : LR M c ((l.drop sh).take c.length)) {v : Value} (hv : c[o]? = some v) :
    ∃ v', l[o + sh]? = some v' ∧ VR M v v' := by
  obtain ⟨v', h1, h2⟩ := hl.get hv
  refine ⟨v', ?_, h2⟩
  have hlt : o < c.length := by
    rcases Nat.lt_or_ge o c.length with h | h
    · exact h
    · rw [List.getElem?_eq_none h] at hv; cases hv
  rw [List.getElem?_take_of_lt hlt, List.getElem?_drop] at h1
  rwa [Nat.add_comm]

theorem add_addr (b o n : Nat) : (Addr.add ⟨b, o, none⟩ n) = ⟨b, o + n, none⟩ := by
  unfold Addr.add
  split
  · rename_i h; subst h; rfl
  · rfl

theorem run_loadCellsFrom {b o : Nat} {l : List Value} : ∀ (n i : Nat) (acc : Array Value), (∀ j, j < n → w.cell? ⟨b, o + (i + j), none⟩ = l[i + j]?) → i + n ≤ l.length →
    (loadCellsFrom ⟨b, o, none⟩ i n acc).run P w = .ok (acc ++ ((l.drop i).take n).toArray) w := by
  intro n
  induction n with
  | zero => intro i acc _ _; simp [loadCellsFrom]
  | succ n ih =>
    intro i acc hc hl
    have h0 := hc 0 (by omega)
    have hlt : i < l.length := by omega
    simp only [Nat.add_zero] at h0
    rw [List.getElem?_eq_getElem hlt] at h0
    simp only [loadCellsFrom, Sem.run_bind, run_load, add_addr, h0, Result.andThen_ok]
    rw [ih (i + 1) (acc.push l[i]) (fun j hj => by
      have := hc (j + 1) (by omega)
      rw [show i + 1 + j = i + (j + 1) by omega]; exact this) (by omega)]
    congr 1
    rw [List.drop_eq_getElem_cons hlt, List.take_succ_cons, Array.push_eq_append]; simp

theorem cut_some {c l : List Value} {o n : Nat} (h : cut c o n = some l) : (l = (c.drop o).take n ∧ l.length = n) ∧ (o + n ≤ c.length ∨ n = 0) := by
  unfold cut at h
  simp only at h
  split at h
  · rename_i hn
    injection h with h
    subst h
    refine ⟨⟨rfl, hn⟩, ?_⟩
    simp only [List.length_take, List.length_drop] at hn
    omega
  · cases h

theorem RowAt.cut {p : Pl} {c : List Value} {e : TypeId} {md : Md} {c' : Array Value} {fz : Nat × Nat} (R : RowAt M w p c e md c' fz) {o n : Nat} {l : List Value} (hc : cut c o n = some l) :
    LR M l ((c'.toList.drop (o + p.sh)).take n) ∧ (loadCells ⟨p.b, o + p.sh, none⟩ n).run P w = .ok ((c'.toList.drop (o + p.sh)).take n).toArray w := by
  obtain ⟨⟨hl, hlen⟩, hle⟩ := cut_some hc
  rcases hle with hle | hz
  · constructor
    · have h1 := (R.rel.drop o).take n
      have h2 : List.take n (List.drop o (List.take c.length (List.drop p.sh c'.toList))) = (c'.toList.drop (o + p.sh)).take n := by
        rw [List.drop_take, List.drop_drop, List.take_take, Nat.min_eq_left (by omega), Nat.add_comm]
      rw [hl]
      rwa [h2] at h1
    · unfold loadCells
      rw [run_loadCellsFrom (l := c'.toList.drop (o + p.sh)) n 0 #[]]
      · simp
      · intro j hj
        rw [cell_at R.at_]
        simp [List.getElem?_drop]
      · have := R.rel.1
        simp only [List.length_take, List.length_drop] at this ⊢
        omega
  · subst hz
    have : l = [] := by simpa using hlen
    subst this
    exact ⟨by simpa using LR.nil M, by simp [loadCells, loadCellsFrom]⟩

theorem all_sub {c : List Value} (one : c.all Value.oneCell' = true) (o n : Nat) : ((c.drop o).take n).all Value.oneCell' = true := by
  rw [List.all_eq_true] at one ⊢
  exact fun x hx => one x (List.mem_of_mem_drop (List.mem_of_mem_take hx))

theorem loadVar_sound (hG : G.Fits P) (H : HR B M h w) {t : TypeId} {b o : Nat} {p : Pl} {v : Value} (hM : M b = some p) (hv : aLoad G h t (.pointer (some ⟨b, o, none⟩)) = some v) :
    ∃ v', (loadVar t ⟨p.b, o + p.sh, none⟩).run P w = .ok v' w ∧ VR M v v' := by
  unfold aLoad at hv
  simp only at hv
  split at hv
  · rename_i c e md hb
    obtain ⟨c', fz, R⟩ := H.row hM hb
    cases hu : G.und t with
    | none => rw [hu] at hv; cases hv
    | some d =>
      rw [hu] at hv
      simp only [Option.bind_some] at hv
      unfold loadVar
      simp only [Sem.run_bind, run_isAgg_of (hG.und _ _ hu), Result.andThen_ok]
      cases hd : isAggD d with
      | true =>
        rw [hd] at hv
        simp only [cond_true] at hv
        cases hn : aSize G t with
        | none => rw [hn] at hv; cases hv
        | some n =>
          rw [hn] at hv
          simp only [Option.bind_some] at hv
          cases hc : cut c o n with
          | none => rw [hc] at hv; cases hv
          | some l =>
            rw [hc] at hv
            injection hv with hv
            subst hv
            obtain ⟨h1, h2⟩ := R.cut (P := P) hc
            obtain ⟨⟨hl, _⟩, _⟩ := cut_some hc
            exact ⟨_, by simp [aSize_run hG hn, h2], LR.agg h1 (by rw [hl]; exact all_sub R.one o n)⟩
      | false =>
        rw [hd] at hv
        simp only [cond_false] at hv
        obtain ⟨v', hv', hr⟩ := R.rel.get_at hv
        refine ⟨v', ?_, hr⟩
        simp only [if_false, Bool.false_eq_true, run_load, cell_at R.at_]
        rw [← Array.getElem?_toList, hv']
  · cases hv

theorem aLoad_ptr {t : TypeId} {a v : Value} (hv : aLoad G h t a = some v) : ∃ b o, a = .pointer (some ⟨b, o, none⟩) := by
  unfold aLoad at hv
  split at hv
  · exact ⟨_, _, rfl⟩
  · cases hv

theorem loadAt_sound (hG : G.Fits P) (H : HR B M h w) {t : TypeId} {a a' v : Value} (ha : VR M a a') (hv : aLoad G h t a = some v) :
    ∃ v', (Instr.loadAt t a').run P w = .ok v' w ∧ VR M v v' := by
  obtain ⟨b, o, rfl⟩ := aLoad_ptr hv
  cases ha with
  | ptr hM =>
    obtain ⟨v', h1, h2⟩ := loadVar_sound hG H hM hv
    exact ⟨v', by simpa [Instr.loadAt, Instr.sureAddr] using h1, h2⟩

theorem aField_sound (hG : G.Fits P) {t : TypeId} {a a' v : Value} {i : Nat} (ha : VR M a a') (hv : aField G t a i = some v) (w : World) :
    ∃ v', (Instr.fieldAt t a' i).run P w = .ok v' w ∧ VR M v v' := by
  unfold aField at hv
  split at hv
  · rename_i b o
    cases ha with
    | ptr hM =>
      rename_i p
      split at hv
      · rename_i fs hu
        cases hf : fs[i]? with
        | none => rw [hf] at hv; cases hv
        | some f =>
          rw [hf] at hv
          simp only [Option.bind_some] at hv
          cases hs : aSize G f.type with
          | none => rw [hs] at hv; cases hv
          | some n =>
            rw [hs] at hv
            simp only [Option.bind_some] at hv
            cases hn : Nat.beq n 0 with
            | true => rw [hn] at hv; cases hv
            | false =>
              rw [hn] at hv
              injection hv with hv
              subst hv
              have hn' : n ≠ 0 := Nat.ne_of_beq_eq_false hn
              refine ⟨.pointer (some ⟨p.b, o + p.sh + f.offset, none⟩), ?_, ?_⟩
              · simp [Instr.fieldAt, run_und (hG.und _ _ hu), hf, Instr.sureAddr, fieldPlace, aSize_run hG hs, hn', add_addr]
              · have := VR.ptr (M := M) (o := o + f.offset) hM
                rw [show o + f.offset + p.sh = o + p.sh + f.offset by omega] at this
                exact this
      · cases hv
  · cases hv

theorem aIndexAddr_sound (hG : G.Fits P) {t : TypeId} {x x' i i' v : Value} (hx : VR M x x') (hi : VR M i i') (hv : aIndexAddr G t x i = some v) (w : World) :
    ∃ v', (Instr.indexAt t x' i').run P w = .ok v' w ∧ VR M v v' := by
  unfold aIndexAddr at hv
  split at hv
  · rename_i k i
    cases hi
    split at hv
    · rename_i len e b o hu
      cases hx with
      | ptr hM =>
        rename_i p
        cases hs : aSize G e with
        | none => rw [hs] at hv; cases hv
        | some n =>
          rw [hs] at hv
          simp only [Option.bind_some] at hv
          split at hv
          · rename_i hb
            injection hv with hv
            subst hv
            refine ⟨.pointer (some ⟨p.b, o + p.sh + i.toNat * n, none⟩), ?_, ?_⟩
            · simp [Instr.indexAt, asIntOf, run_und (hG.und _ _ hu), Instr.sureAddr, hb, aSize_run hG hs, add_addr]
            · have := VR.ptr (M := M) (o := o + i.toNat * n) hM
              rw [show o + i.toNat * n + p.sh = o + p.sh + i.toNat * n by omega] at this
              exact this
          · cases hv
    · rename_i e b o len cap hu
      cases hs : aSize G e with
      | none => rw [hs] at hv; cases hv
      | some n =>
        rw [hs] at hv
        simp only [Option.bind_some] at hv
        split at hv
        · rename_i hb
          injection hv with hv
          subst hv
          have key : ∀ (p : Pl) (c' : Nat), M b = some p → ∃ v', (Instr.indexAt t (.slice (some ⟨p.b, o + p.sh, none⟩) len c') (.int k i)).run P w = .ok v' w ∧ VR M (aAdd b o (i.toNat * n)) v' := by
            intro p c' hM
            refine ⟨.pointer (some ⟨p.b, o + p.sh + i.toNat * n, none⟩), ?_, ?_⟩
            · simp [Instr.indexAt, asIntOf, run_und (hG.und _ _ hu), hb, aSize_run hG hs, add_addr]
            · have := VR.ptr (M := M) (o := o + i.toNat * n) hM
              rw [show o + i.toNat * n + p.sh = o + p.sh + i.toNat * n by omega] at this
              exact this
          cases hx with
          | slc l c hM hk => exact key _ _ hM
          | slo l c c' hM hk hc hl => exact key _ _ hM
          | sle c hM hk a => simp at hb; omega
        · cases hv
    · cases hv
  · cases hv

theorem aFieldV_sound (hG : G.Fits P) {t : TypeId} {x x' v : Value} {i : Nat} (hx : VR M x x') (hv : aFieldV G t x i = some v) (w : World) :
    ∃ v', (Instr.field t x' i).run P w = .ok v' w ∧ VR M v v' := by
  unfold aFieldV at hv
  split at hv
  · rename_i fs cs hu
    obtain ⟨ds, rfl, hl, one⟩ := hx.agg_list
    cases hf : fs[i]? with
    | none => rw [hf] at hv; cases hv
    | some f =>
      rw [hf] at hv
      simp only [Option.bind_some] at hv
      obtain ⟨v', h1, h2⟩ := aPart_run hG hl one hv w
      exact ⟨v', by simp [Instr.field, run_und (hG.und _ _ hu), hf, asAgg, h1], h2⟩
  · cases hv

theorem aIndex_sound (hG : G.Fits P) {t : TypeId} {x x' i i' v : Value} (hx : VR M x x') (hi : VR M i i') (hv : aIndex G t x i = some v) (w : World) :
    ∃ v', (Instr.index t x' i').run P w = .ok v' w ∧ VR M v v' := by
  unfold aIndex at hv
  split at hv
  · rename_i k i
    cases hi
    split at hv
    · rename_i len e cs hu
      obtain ⟨ds, rfl, hl, one⟩ := hx.agg_list
      cases hs : aSize G e with
      | none => rw [hs] at hv; cases hv
      | some n =>
        rw [hs] at hv
        simp only [Option.bind_some] at hv
        split at hv
        · rename_i hb
          obtain ⟨v', h1, h2⟩ := aPart_run hG hl one hv w
          exact ⟨v', by simp [Instr.index, asIntOf, run_und (hG.und _ _ hu), hb, aSize_run hG hs, h1], h2⟩
        · cases hv
    · rename_i s hu
      cases hx
      split at hv
      · rename_i hb
        cases hc : s.data.toList[i.toNat]? with
        | none => rw [hc] at hv; cases hv
        | some c =>
          rw [hc] at hv
          injection hv with hv
          subst hv
          refine ⟨_, ?_, .int _ _⟩
          have hc' : s[i.toNat]? = some c := by
            have hlt : i.toNat < s.data.size := by
              rcases Nat.lt_or_ge i.toNat s.data.toList.length with h | h
              · simpa using h
              · rw [List.getElem?_eq_none h] at hc; cases hc
            have : i.toNat < s.size := hlt
            rw [getElem?_pos s i.toNat this]
            rw [Array.getElem?_toList, Array.getElem?_eq_getElem hlt] at hc
            injection hc with hc
            rw [← hc]; rfl
          simp [Instr.index, asIntOf, run_und (hG.und _ _ hu), hb, hc']
      · cases hv
    · cases hv
  · cases hv

theorem aLen_sound (hG : G.Fits P) (H : HR B M h w) {t : TypeId} {x x' v : Value} {ts : Array TypeId} {ty : TypeId} (ht : ts[0]? = some t) (hx : VR M x x') (hv : aLen G h t x = some v) :
    (Builtin.len_ ts ty #[x']).run P w = .ok v w ∧ VR M v v := by
  unfold aLen at hv
  split at hv
  · rename_i hu; injection hv with hv; subst hv; cases hx; exact ⟨by simp [Builtin.len_, ht, run_und (hG.und _ _ hu), goInt, iv], .int _ _⟩
  · rename_i hu; injection hv with hv; subst hv; refine ⟨?_, .int _ _⟩; cases hx <;> simp [Builtin.len_, ht, run_und (hG.und _ _ hu), goInt, iv]
  · rename_i hu; injection hv with hv; subst hv; refine ⟨?_, .int _ _⟩; cases hx <;> simp [Builtin.len_, ht, run_und (hG.und _ _ hu), goInt, iv]
  · rename_i hu; injection hv with hv; subst hv; cases hx; exact ⟨by simp [Builtin.len_, ht, run_und (hG.und _ _ hu), goInt, iv], .int _ _⟩
  · rename_i r hu
    cases hx with
    | map hM =>
      split at hv
      · rename_i es cl hb
        injection hv with hv; subst hv
        obtain ⟨y, hy, ho⟩ := H.ob _ _ _ hM hb rfl
        cases ho with
        | map hk he =>
          have hlen : es.length = _ := All2.length he
          refine ⟨?_, .int _ _⟩
          simp [Builtin.len_, ht, run_und (hG.und _ _ hu), goInt, iv, getObj, Sem.run, hy, hlen]
      · cases hv
  · cases hv

end
end Go.AE
