/- Tables of a program for the evaluator, and calls that are taken whole. -/
import Derived.Test.YtkkohgaaemgojaaGreatDoorAEd
import Derived.Shelf.SlMaps.Clone
import Derived.Below
import Derived.Laws.AppendOwn
import Derived.Lib.Join
namespace Go.AE

def Tr.AllA {α : Type} (Q : Nat → α → Prop) : Tr α → Nat → Nat → Prop
  | .nil, _, _ => True
  | .node l v r, p, s => (match v with | some x => Q p x | none => True) ∧ Tr.AllA Q l (p + s) (2 * s) ∧ Tr.AllA Q r (p + 2 * s) (2 * s)

theorem Tr.AllA.get {α : Type} {Q : Nat → α → Prop} : ∀ {t : Tr α} {p s n : Nat} {x : α}, t.AllA Q p s → t.get n = some x → Q (p + s * n) x
  | .nil, p, s, n, x, _, hx => by cases hx
  | .node l v r, p, s, 0, x, h, hx => by
    have hx : v = some x := hx
    subst hx
    simpa using h.1
  | .node l v r, p, s, n + 1, x, h, hx => by
    rw [Tr.get_succ] at hx
    rcases Nat.mod_two_eq_zero_or_one n with hn | hn
    · rw [hn] at hx
      have := h.2.1.get (n := n / 2) hx
      have e : p + s + 2 * s * (n / 2) = p + s * (n + 1) := by
        have h3 : n = 2 * (n / 2) := by omega
        have h4 : 2 * s * (n / 2) = s * (2 * (n / 2)) := by rw [Nat.mul_comm 2 s, Nat.mul_assoc]
        rw [h4, ← h3, Nat.mul_add]; omega
      rwa [e] at this
    · rw [hn] at hx
      have := h.2.2.get (n := n / 2) hx
      have e : p + 2 * s + 2 * s * (n / 2) = p + s * (n + 1) := by
        have h3 : n = 2 * (n / 2) + 1 := by omega
        have h4 : 2 * s * (n / 2) = s * (2 * (n / 2)) := by rw [Nat.mul_comm 2 s, Nat.mul_assoc]
        have h5 : s * (n + 1) = s * (2 * (n / 2)) + 2 * s := by
          conv => lhs; rw [h3]
          rw [show 2 * (n / 2) + 1 + 1 = 2 * (n / 2) + 2 by omega, Nat.mul_add]; omega
        rw [h4, h5]; omega
      rwa [e] at this

def Tr.allB {α : Type} (q : Nat → α → Bool) : Tr α → Nat → Nat → Bool
  | .nil, _, _ => true
  | .node l v r, p, s => (match v with | some x => q p x | none => true) && (Tr.allB q l (p + s) (2 * s) && Tr.allB q r (p + 2 * s) (2 * s))

theorem Tr.allB.all {α : Type} {q : Nat → α → Bool} : ∀ {t : Tr α} {p s : Nat}, t.allB q p s = true → t.AllA (fun n x => q n x = true) p s
  | .nil, _, _, _ => trivial
  | .node l v r, p, s, h => by
    simp only [Tr.allB, Bool.and_eq_true] at h
    refine ⟨?_, Tr.allB.all h.2.1, Tr.allB.all h.2.2⟩
    cases v with
    | none => trivial
    | some x => exact h.1
theorem Tr.allB.get {α : Type} {q : Nat → α → Bool} {t : Tr α} {n : Nat} {x : α} (h : t.allB q 0 1 = true) (hx : t.get n = some x) : q n x = true := by
  have := Tr.AllA.get (Tr.allB.all h) hx
  simpa using this
theorem Tr.AllA.at {α : Type} {Q : Nat → α → Prop} {t : Tr α} {n : Nat} {x : α} (h : t.AllA Q 0 1) (hx : t.get n = some x) : Q n x := by
  have := Tr.AllA.get h hx
  simpa using this

noncomputable def tabs (ty : Tr (TypeInfo × TypeDesc)) (fn : Tr Func) (rg : Tr (List (Nat × RegInfo))) : Tabs :=
  ⟨fun t => (ty.get t).map Prod.snd, fun t => (ty.get t).map Prod.fst, fun f => fn.get f, fun f id => (rg.get f).bind fun l => (l.find? fun p => Nat.beq p.1 id).map Prod.snd, fun _ => none⟩

theorem info_of {P : Program} (t : TypeId) (i : TypeInfo) (h : P.types[t]? = some i) : P.info? t = some i := by
  unfold Tables.info?
  have hlt : t < P.types.size := (Array.getElem?_eq_some_iff.1 h).1
  rw [if_pos hlt]
  exact h

def isSome' {α : Type} : Option α → Bool
  | some _ => true
  | none => false

/-- what is asked of one type -/
noncomputable def tyOk (P : Program) (ty : Tr (TypeInfo × TypeDesc)) (t : Nat) (x : TypeInfo × TypeDesc) : Bool :=
  (match x.1.zero with
   | some z => plainC z && (Nat.beq z.cells.toList.length x.1.size && (z.cells.toList.all Value.oneCell' && fits z))
   | none => true) &&
  (match x.2 with
   | .struct fs => (bif P.stoodInHeld t then false else true) && fs.toList.all fun f => isSome' (ty.get f.type)
   | _ => true)
noncomputable def fnOk (G : Tabs) (f : Nat) (fn : Func) : Bool := match fn.body with | some c => codeOk G f c | none => true

theorem tabs_fits {P : Program} {ty : Tr (TypeInfo × TypeDesc)} {fn : Tr Func} {rg : Tr (List (Nat × RegInfo))}
    (hty : ty.AllA (fun t x => P.types[t]? = some x.1 ∧ P.underlying t = some x.2) 0 1)
    (hfn : fn.AllA (fun f x => P.funcs[f]? = some x ∧ ∀ args w, (callFunc f args).run P w = .ok (.enter f args) w) 0 1)
    (hinfo : ∀ t i, P.types[t]? = some i → P.info? t = some i)
    (htok : ty.allB (tyOk P ty) 0 1 = true) (hfok : fn.allB (fnOk (tabs ty fn rg)) 0 1 = true) (hmix : P.follows .mixedOrders = true) : (tabs ty fn rg).Fits3 P := by
  have T : ∀ t y, (ty.get t).map Prod.snd = some y → ∃ x, ty.get t = some x ∧ x.2 = y := by
    intro t y h
    obtain ⟨x, h1, h2⟩ := map_some h
    exact ⟨x, h1, h2⟩
  have I : ∀ t y, (ty.get t).map Prod.fst = some y → ∃ x, ty.get t = some x ∧ x.1 = y := by
    intro t y h
    obtain ⟨x, h1, h2⟩ := map_some h
    exact ⟨x, h1, h2⟩
  have S : ∀ t fs, (tabs ty fn rg).und t = some (.struct fs) → P.stoodInHeld t = false ∧ ∀ f ∈ fs.toList, ∃ x, ty.get f.type = some x := by
    intro t fs h
    obtain ⟨x, h1, h2⟩ := T t _ h
    have h3 := Tr.allB.get htok h1
    unfold tyOk at h3
    rw [h2] at h3
    simp only [Bool.and_eq_true, List.all_eq_true] at h3
    refine ⟨?_, fun f hf => ?_⟩
    · cases hb : P.stoodInHeld t with
      | false => rfl
      | true => rw [hb] at h3; cases h3.2.1
    · have := h3.2.2 f hf
      cases hg : ty.get f.type with
      | some x => exact ⟨x, rfl⟩
      | none => rw [hg] at this; cases this
  refine ⟨⟨⟨?_, ?_, ?_, ?_⟩, ?_⟩, ?_, ?_, hmix, ?_⟩
  · intro t d h
    obtain ⟨x, h1, rfl⟩ := T t d h
    exact (hty.at h1).2
  · intro t fs h; exact (S t fs h).1
  · intro t i h
    obtain ⟨x, h1, rfl⟩ := I t i h
    exact hinfo _ _ (hty.at h1).1
  · intro t i z h hz
    obtain ⟨x, h1, rfl⟩ := I t i h
    have h3 := Tr.allB.get htok h1
    unfold tyOk at h3
    rw [hz] at h3
    simp only [Bool.and_eq_true] at h3
    obtain ⟨⟨k1, k2, k3, k4⟩, _⟩ := h3
    refine ⟨plainC_VR k1, ?_, k3, k4⟩
    have := Nat.eq_of_beq_eq_true k2
    simpa using this
  · intro t fs h f hf
    obtain ⟨x, hx⟩ := (S t fs h).2 f hf
    exact ⟨x.1, hinfo _ _ (hty.at hx).1⟩
  · intro f x h; exact hfn.at h
  · intro f x c h hc
    have h3 := Tr.allB.get hfok h
    unfold fnOk at h3
    rw [hc] at h3
    exact h3
  · intro f s args h v h' hs
    cases hs

end Go.AE

namespace Go.AE

/-- one value is another, its blocks renamed by a list -/
def isRen (l : List Nat) : Nat → Value → Value → Bool
  | 0, _, _ => false
  | n + 1, v, u =>
    match v, u with
    | .bool a, .bool b => a == b
    | .int k a, .int k' b => decide (k = k') && decide (a = b)
    | .string a, .string b => bytesEq a b
    | .pointer none, .pointer none => true
    | .pointer (some ⟨b, o, none⟩), .pointer (some ⟨b', o', none⟩) => (match l[b]? with | some x => Nat.beq x b' | none => false) && Nat.beq o o'
    | .slice none a c, .slice none a' c' => Nat.beq a a' && Nat.beq c c'
    | .slice (some ⟨b, o, none⟩) a c, .slice (some ⟨b', o', none⟩) a' c' => ((match l[b]? with | some x => Nat.beq x b' | none => false) && Nat.beq o o') && (Nat.beq a a' && Nat.beq c c')
    | .nilFunc, .nilFunc => true
    | .nilIface, .nilIface => true
    | .map none, .map none => true
    | .agg a, .agg b => lBeq (isRen l n) a.toList b.toList
    | .tuple a, .tuple b => lBeq (isRen l n) a.toList b.toList
    | _, _ => false

/-- blocks counted from k -/
def shiftV (k : Nat) : Nat → Value → Value
  | 0, v => v
  | n + 1, v =>
    match v with
    | .pointer (some ⟨b, o, none⟩) => .pointer (some ⟨k + b, o, none⟩)
    | .slice (some ⟨b, o, none⟩) a c => .slice (some ⟨k + b, o, none⟩) a c
    | .agg a => .agg (a.toList.map (shiftV k n)).toArray
    | .tuple a => .tuple (a.toList.map (shiftV k n)).toArray
    | v => v

def isRenO (l : List Nat) (n : Nat) : Ob → Ob → Bool
  | .cells c e md, .cells c' e' md' => (Nat.beq e e' && decide (md = md')) && lBeq (isRen l n) c c'
  | _, _ => false
def shiftO (k n : Nat) : Ob → Ob
  | .cells c e md => .cells (c.map (shiftV k n)) e md
  | o => o

theorem lBeq_length {f : Value → Value → Bool} : ∀ {a b : List Value}, lBeq f a b = true → a.length = b.length
  | [], [], _ => rfl
  | x :: a, y :: b, h => by
    simp only [lBeq, Bool.and_eq_true] at h
    simp [lBeq_length h.2]
  | [], _ :: _, h => by cases h
  | _ :: _, [], h => by cases h

theorem lBeq_LR {M M' : Mp} {f : Value → Value → Bool} {g : Value → Value} (hf : ∀ v u v', f v u = true → VR M u v' → VR M' (g v) v') :
    ∀ {a b : List Value} {c : List Value}, lBeq f a b = true → LR M b c → LR M' (a.map g) c
  | [], [], c, _, hl => by rw [hl.nil_left]; exact LR.nil _
  | x :: a, y :: b, c, h, hl => by
    simp only [lBeq, Bool.and_eq_true] at h
    obtain ⟨v', r, rfl, hv, ht⟩ := hl.cases
    exact LR.cons (hf _ _ _ h.1 hv) (lBeq_LR hf h.2 ht)
  | [], _ :: _, _, h, _ => by cases h
  | _ :: _, [], _, h, _ => by cases h

theorem isRen_one {l : List Nat} {k : Nat} : ∀ {n : Nat} {v u : Value}, isRen l n v u = true → (shiftV k n v).oneCell' = u.oneCell'
  | 0, _, _, h => by cases h
  | n + 1, v, u, h => by
    unfold isRen at h
    split at h <;> first | rfl | cases h

theorem all_one {l : List Nat} {k n : Nat} : ∀ {a b : List Value}, lBeq (isRen l n) a b = true → b.all Value.oneCell' = true → (a.map (shiftV k n)).all Value.oneCell' = true
  | [], [], _, _ => rfl
  | x :: a, y :: b, h, ho => by
    simp only [lBeq, Bool.and_eq_true] at h
    simp only [List.all_cons, Bool.and_eq_true] at ho
    simp only [List.map_cons, List.all_cons, Bool.and_eq_true]
    exact ⟨by rw [isRen_one h.1]; exact ho.1, all_one h.2 ho.2⟩
  | [], _ :: _, h, _ => by cases h
  | _ :: _, [], h, _ => by cases h

theorem look_inv {l : List Nat} {b b' : Nat} (h : (match l[b]? with | some x => Nat.beq x b' | none => false) = true) : l[b]? = some b' := by
  split at h
  · rename_i x hx; rw [hx, Nat.eq_of_beq_eq_true h]
  · cases h

theorem isRen_VR {M M' : Mp} {l : List Nat} {k : Nat} (hm : ∀ b b', l[b]? = some b' → M' (k + b) = M b') : ∀ {n : Nat} {v u v' : Value}, isRen l n v u = true → VR M u v' → VR M' (shiftV k n v) v'
  | 0, _, _, _, h, _ => by cases h
  | n + 1, v, u, v', h, hv => by
    unfold isRen at h
    split at h
    · rw [eq_of_beq h]; cases hv; exact .bool _
    · simp only [Bool.and_eq_true, decide_eq_true_eq] at h; rw [h.1, h.2]; cases hv; exact .int _ _
    · rw [bytesEq_true h]; cases hv; exact .str _
    · cases hv; exact .pnil
    · simp only [Bool.and_eq_true] at h
      have h1 := look_inv h.1
      have h2 := Nat.eq_of_beq_eq_true h.2
      subst h2
      cases hv with
      | ptr hM => exact .ptr (by rw [hm _ _ h1]; exact hM)
    · simp only [Bool.and_eq_true] at h
      have h1 := Nat.eq_of_beq_eq_true h.1
      have h2 := Nat.eq_of_beq_eq_true h.2
      subst h1; subst h2
      cases hv; exact .snil _ _
    · simp only [Bool.and_eq_true] at h
      have h1 := look_inv h.1.1
      have h2 := Nat.eq_of_beq_eq_true h.1.2
      have h3 := Nat.eq_of_beq_eq_true h.2.1
      have h4 := Nat.eq_of_beq_eq_true h.2.2
      subst h2; subst h3; subst h4
      cases hv with
      | slc l c hM hk => exact .slc _ _ (by rw [hm _ _ h1]; exact hM) hk
      | slo l c c' hM hk hc hl => exact .slo _ _ _ (by rw [hm _ _ h1]; exact hM) hk hc hl
      | sle c hM hk a => exact .sle _ (by rw [hm _ _ h1]; exact hM) hk a
    · cases hv; exact .nilFunc
    · cases hv; exact .nilIface
    · cases hv; exact .mnil
    · rename_i a b
      obtain ⟨ds, rfl, hl, ho⟩ := hv.agg_list
      have := LR.agg (lBeq_LR (g := shiftV k n) (fun v u v' h1 h2 => isRen_VR hm h1 h2) h hl) (all_one h ho)
      simpa [shiftV] using this
    · rename_i a b
      obtain ⟨ds, rfl, hl⟩ := hv.tuple_list
      have := LR.tuple (lBeq_LR (g := shiftV k n) (fun v u v' h1 h2 => isRen_VR hm h1 h2) h hl)
      simpa [shiftV] using this
    · cases h

theorem isRenO_OR {M M' : Mp} {l : List Nat} {k n : Nat} (hm : ∀ b b', l[b]? = some b' → M' (k + b) = M b') {o o' : Ob} {p : Pl} {x : Obj} (h : isRenO l n o o' = true) (hx : OR M o' p x) : OR M' (shiftO k n o) p x ∧ o'.live = true := by
  unfold isRenO at h
  split at h
  · rename_i c e md c' e' md'
    simp only [Bool.and_eq_true, decide_eq_true_eq] at h
    obtain ⟨⟨h1, h2⟩, h3⟩ := h
    have h1 := Nat.eq_of_beq_eq_true h1
    subst h1; subst h2
    refine ⟨?_, rfl⟩
    have hl := @lBeq_LR M M' (isRen l n) (shiftV k n) (fun v u v' h1 h2 => isRen_VR hm h1 h2)
    have hlen := lBeq_length h3
    cases hx with
    | ro hk hs hL ho => exact .ro hk hs (hl h3 hL) (all_one h3 ho)
    | rw hk hs hL hz ho => exact .rw hk hs (hl h3 hL) hz (all_one h3 ho)
    | opn hk ht hn hL hz ho => exact .opn hk ht hn (by rw [List.length_map, hlen]; exact hl h3 hL) hz (all_one h3 ho)
  · cases h
theorem isRenO_live {l : List Nat} {n : Nat} {o o' : Ob} (h : isRenO l n o o' = true) : o'.live = true := by
  unfold isRenO at h
  split at h
  · rfl
  · cases h

/-- blocks laid one behind the other -/
noncomputable def addL (k n : Nat) : List Ob → Hp → Hp
  | [], g => g
  | o :: r, g => addL k n r (g.new (shiftO k n o))
theorem addL_next (k n : Nat) : ∀ (bs : List Ob) (g : Hp), (addL k n bs g).next = g.next + bs.length
  | [], g => rfl
  | o :: r, g => by rw [addL, addL_next k n r, Hp.next_new, List.length_cons]; omega
theorem addL_get (k n : Nat) : ∀ (bs : List Ob) (g : Hp) (id : Nat), (addL k n bs g).get id = if id < g.next then g.get id else match bs[id - g.next]? with | some o => some (shiftO k n o) | none => g.get id
  | [], g, id => by simp [addL]
  | o :: r, g, id => by
    rw [addL, addL_get k n r, Hp.next_new, Hp.get_new]
    by_cases h1 : id < g.next
    · rw [if_pos (by omega), if_neg (by omega), if_pos h1]
    · by_cases h2 : id = g.next
      · subst h2
        rw [if_pos (by omega), if_pos rfl, if_neg h1]
        simp
      · rw [if_neg (by omega), if_neg h2, if_neg h1]
        have : id - g.next = (id - (g.next + 1)) + 1 := by omega
        rw [this, List.getElem?_cons_succ]

def incr : List Nat → Bool
  | [] => true
  | [_] => true
  | a :: b :: r => Nat.blt a b && incr (b :: r)
theorem incr_lt : ∀ {l : List Nat}, incr l = true → ∀ {i j : Nat} {a b : Nat}, i < j → l[i]? = some a → l[j]? = some b → a < b
  | [], _, i, j, a, b, _, h, _ => by cases h
  | [x], _, i, j, a, b, hij, _, h => by
    cases j with
    | zero => omega
    | succ j => simp at h
  | x :: y :: r, h, i, j, a, b, hij, ha, hb => by
    simp only [incr, Bool.and_eq_true] at h
    have hxy : x < y := by simpa [Nat.blt_eq] using h.1
    cases j with
    | zero => omega
    | succ j =>
      rw [List.getElem?_cons_succ] at hb
      cases i with
      | succ i => rw [List.getElem?_cons_succ] at ha; exact incr_lt h.2 (by omega) ha hb
      | zero =>
        simp only [List.getElem?_cons_zero, Option.some.injEq] at ha
        subst ha
        cases j with
        | zero => simp only [List.getElem?_cons_zero, Option.some.injEq] at hb; subst hb; exact hxy
        | succ j => exact Nat.lt_trans hxy (incr_lt h.2 (i := 0) (j := j + 1) (by omega) (by simp) hb)
theorem incr_inj {l : List Nat} (h : incr l = true) {i j a : Nat} (hi : l[i]? = some a) (hj : l[j]? = some a) : i = j := by
  rcases Nat.lt_trichotomy i j with g | g | g
  · exact absurd (incr_lt h g hi hj) (Nat.lt_irrefl _)
  · exact g
  · exact absurd (incr_lt h g hj hi) (Nat.lt_irrefl _)

noncomputable def obsOk (l0 : List Nat) (n : Nat) (h : Hp) : List Nat → List Ob → Bool
  | [], [] => true
  | b :: l, o :: bs => (match h.get b with | some o' => isRenO l0 n o o' | none => false) && obsOk l0 n h l bs
  | _, _ => false
theorem obsOk_len {l0 : List Nat} {n : Nat} {h : Hp} : ∀ {l : List Nat} {bs : List Ob}, obsOk l0 n h l bs = true → l.length = bs.length
  | [], [], _ => rfl
  | _ :: l, _ :: bs, g => by simp only [obsOk, Bool.and_eq_true] at g; simp [obsOk_len g.2]
  | [], _ :: _, g => by cases g
  | _ :: _, [], g => by cases g
theorem obsOk_get {l0 : List Nat} {n : Nat} {h : Hp} : ∀ {l : List Nat} {bs : List Ob}, obsOk l0 n h l bs = true → ∀ {i : Nat} {b : Nat} {o : Ob}, l[i]? = some b → bs[i]? = some o → ∃ o', h.get b = some o' ∧ isRenO l0 n o o' = true
  | [], [], _, i, b, o, hb, _ => by cases hb
  | x :: l, y :: bs, g, i, b, o, hb, ho => by
    simp only [obsOk, Bool.and_eq_true] at g
    cases i with
    | zero =>
      simp only [List.getElem?_cons_zero, Option.some.injEq] at hb ho
      subst hb; subst ho
      have := g.1
      split at this
      · exact ⟨_, by assumption, this⟩
      · cases this
    | succ i => rw [List.getElem?_cons_succ] at hb ho; exact obsOk_get g.2 hb ho
  | [], _ :: _, g, _, _, _, _, _ => by cases g
  | _ :: _, [], g, _, _, _, _, _ => by cases g

/-- the answer and what hangs on it, of what a closed run ended with -/
noncomputable def subOk (n : Nat) (l : List Nat) (bs : List Ob) (v : Value) (x : Option (Out × Hp)) : Bool :=
  match x with
  | some (.ret u, h) => (incr l && obsOk l n h l bs) && isRen l n v u
  | _ => false

def Mf (M : Mp) (k : Nat) (l : List Nat) (M1 : Mp) : Mp := fun id =>
  match M id with
  | some p => some p
  | none => if k ≤ id then match l[id - k]? with | some b => M1 b | none => none else none

section
variable {G : Tabs} {P : Program}

theorem scalars_eq {M : Mp} {v v' : Value} (h : scalarC v = true) (hv : VR M v v') : v' = v := by
  unfold scalarC at h
  split at h <;> first | (cases h; done) | (cases hv; rfl)
theorem scalars_LR (M : Mp) : ∀ {l : List Value}, l.all scalarC = true → LR M l l
  | [], _ => LR.nil M
  | v :: l, h => by
    simp only [List.all_cons, Bool.and_eq_true] at h
    exact LR.cons (scalarC_VR h.1) (scalars_LR M h.2)
theorem scalars_args {M : Mp} : ∀ {l l' : List Value}, l.all scalarC = true → LR M l l' → l' = l
  | [], l', _, hl => hl.nil_left
  | v :: l, l', h, hl => by
    simp only [List.all_cons, Bool.and_eq_true] at h
    obtain ⟨v', r, rfl, hv, ht⟩ := hl.cases
    rw [scalars_eq h.1 hv, scalars_args h.2 ht]

theorem closed_calls (hG : G.Fits3 P) {n : Nat} {f : FuncId} {args : List Value} {N : Nat} {l : List Nat} {bs : List Ob} {v : Value} (hsp : G.spec f = none) (ha : args.all scalarC = true)
    (hs : subOk N l bs v ((kev G (n + 1)).ev.call f args ⟨fun _ => none, .nil, 0⟩) = true) (h : Hp) :
    (∃ fn c, P.funcs[f]? = some fn ∧ (∀ args w, (callFunc f args).run P w = .ok (.enter f args) w) ∧ fn.body = some c) ∧
    ∀ B, h.next + bs.length ≤ B → CallsOK P B f args h (.ret (shiftV h.next N v)) (addL h.next N bs h) := by
  unfold subOk at hs
  split at hs
  · rename_i u h1 heq
    simp only [Bool.and_eq_true] at hs
    obtain ⟨⟨hi, ho⟩, hv⟩ := hs
    have hr := kev_good hG n
    obtain ⟨g0, g1, g2⟩ := callStep_calls (P := P) (r := ⟨codeK G (kev G n), (kev G n).ev.call, (kev G n).ev.dcode⟩) hG (codeK_ok hG hr) hr.dcode hsp (callK_ok G heq)
    refine ⟨g0, fun B hB M w args' hl H => ?_⟩
    have hargs : args'.toList = args := scalars_args ha hl
    have hw : HR h1.next (fun _ => none) ⟨fun _ => none, .nil, 0⟩ w := by
      refine ⟨fun id _ => rfl, fun id p h => ?_, fun id p h => ?_, fun i j p q o o' h => ?_, fun id p o h => ?_⟩ <;> cases h
    refine (g2 h1.next (Nat.le_refl _) _ w args' (by rw [hargs]; exact scalars_LR _ ha) hw).mono fun e w' hh => ?_
    obtain ⟨M1, E, H1, hO⟩ := hh
    have hlen := obsOk_len ho
    have hnone : ∀ b, may (fun _ => none) (⟨fun _ => none, .nil, 0⟩ : Hp) b → False := by
      rintro b ⟨id, p, o, g, _⟩; cases g
    have hfree : ∀ i, i < bs.length → M (h.next + i) = none := by
      intro i hi
      cases hm : M (h.next + i) with
      | none => rfl
      | some p => rcases H.fresh _ _ hm with g | g <;> omega
    have hnew : ∀ b p, M1 b = some p → w.heap.size ≤ p.b := by
      intro b p hp
      rcases E.newb b p hp rfl with g | g
      · exact g
      · exact (hnone _ g).elim
    have hmap : ∀ b b', l[b]? = some b' → Mf M h.next l M1 (h.next + b) = M1 b' := by
      intro b b' hb
      have hlt : b < l.length := (List.getElem?_eq_some_iff.1 hb).1
      simp only [Mf, hfree b (by omega), Nat.le_add_right, if_true, Nat.add_sub_cancel_left, hb]
    have hold : ∀ id p, M id = some p → Mf M h.next l M1 id = some p := by
      intro id p hp; simp only [Mf, hp]
    have hinv : ∀ id p, Mf M h.next l M1 id = some p → M id = some p ∨ (M id = none ∧ h.next ≤ id ∧ ∃ b, l[id - h.next]? = some b ∧ M1 b = some p) := by
      intro id p hp
      unfold Mf at hp
      cases hm : M id with
      | some q => rw [hm] at hp; exact .inl hp
      | none =>
        rw [hm] at hp
        simp only at hp
        by_cases hle : h.next ≤ id
        · rw [if_pos hle] at hp
          cases hb : l[id - h.next]? with
          | none => rw [hb] at hp; cases hp
          | some b => rw [hb] at hp; exact .inr ⟨rfl, hle, b, rfl, hp⟩
        · rw [if_neg hle] at hp; cases hp
    have hgold : ∀ id, id < h.next → (addL h.next N bs h).get id = h.get id := fun id hid => by rw [addL_get, if_pos hid]
    have hgnew : ∀ id, h.next ≤ id → (addL h.next N bs h).get id = (bs[id - h.next]?).map (shiftO h.next N) := fun id hid => by
      rw [addL_get, if_neg (by omega)]
      cases bs[id - h.next]? with
      | none => exact H.wf id hid
      | some o => rfl
    have hcase : ∀ id p o, Mf M h.next l M1 id = some p → (addL h.next N bs h).get id = some o → (M id = some p ∧ id < h.next ∧ h.get id = some o) ∨
        (h.next ≤ id ∧ ∃ b o1 o2, l[id - h.next]? = some b ∧ M1 b = some p ∧ bs[id - h.next]? = some o1 ∧ o = shiftO h.next N o1 ∧ h1.get b = some o2 ∧ isRenO l N o1 o2 = true) := by
      intro id p o hp hg
      rcases hinv id p hp with g | ⟨g, hle, b, hb, hp1⟩
      · by_cases hid : id < h.next
        · exact .inl ⟨g, hid, by rw [← hgold id hid]; exact hg⟩
        · rw [hgnew id (by omega)] at hg
          obtain ⟨o1, ho1, _⟩ := map_some hg
          have hlt : id - h.next < bs.length := (List.getElem?_eq_some_iff.1 ho1).1
          have := hfree _ hlt
          rw [show h.next + (id - h.next) = id by omega, g] at this
          cases this
      · rw [hgnew id hle] at hg
        obtain ⟨o1, ho1, rfl⟩ := map_some hg
        obtain ⟨o2, g1, g2⟩ := obsOk_get ho hb ho1
        exact .inr ⟨hle, b, o1, o2, hb, hp1, ho1, rfl, g1, g2⟩
    refine ⟨Mf M h.next l M1, ?_, ?_, ?_⟩
    · refine ⟨hold, by rw [addL_next]; omega, E.size, fun b hb _ => E.keep b hb (hnone b), ?_, ?_, ?_, ?_, E.os, E.out, E.tape⟩
      · rintro b ⟨id, p, o, g1, g2, g3, g4, g5⟩ hb
        rcases hcase id p o g1 g2 with ⟨k1, _, k2⟩ | ⟨_, b', o1, o2, _, k2, _⟩
        · exact ⟨id, p, o, k1, k2, g3, g4, g5⟩
        · have := hnew _ _ k2; omega
      · intro id p hp hn
        rcases hinv id p hp with g | ⟨_, _, b, _, g⟩
        · rw [hn] at g; cases g
        · exact .inl (hnew _ _ g)
      · intro id p hp hn
        rcases hinv id p hp with g | ⟨_, hle, b, hb, g⟩
        · rw [hn] at g; cases g
        · have hlt : id - h.next < l.length := (List.getElem?_eq_some_iff.1 hb).1
          exact ⟨hle, by rw [addL_next]; omega⟩
      · intro id _ hid; exact hgold id hid
    · refine ⟨fun id hid => ?_, fun id p hp => ?_, fun id p hp => ?_, fun i j p q o o' hi' hj' gi gj li lj hpq => ?_, fun id p o hp hg hlv => ?_⟩
      · rw [addL_next] at hid
        rw [hgnew id (by omega), List.getElem?_eq_none (by omega)]; rfl
      · rcases hinv id p hp with g | ⟨_, _, b, _, g⟩
        · exact Nat.lt_of_lt_of_le (H.inHeap _ _ g) E.size
        · exact H1.inHeap _ _ g
      · rcases hinv id p hp with g | ⟨_, hle, b, hb, g⟩
        · rcases H.fresh _ _ g with k | k
          · left; rw [addL_next]; omega
          · exact .inr k
        · have hlt : id - h.next < l.length := (List.getElem?_eq_some_iff.1 hb).1
          left; rw [addL_next]; omega
      · rcases hcase i p o hi' gi with ⟨a1, a2, a3⟩ | ⟨a1, b, o1, o2, a2, a3, a4, rfl, a5, a6⟩
        · rcases hcase j q o' hj' gj with ⟨c1, c2, c3⟩ | ⟨c1, b', o1', o2', c2, c3, c4, rfl, c5, c6⟩
          · exact H.one i j p q o o' a1 c1 a3 c3 li lj hpq
          · have k1 := H.inHeap _ _ a1
            have k2 := hnew _ _ c3
            omega
        · rcases hcase j q o' hj' gj with ⟨c1, c2, c3⟩ | ⟨c1, b', o1', o2', c2, c3, c4, rfl, c5, c6⟩
          · have k1 := H.inHeap _ _ c1
            have k2 := hnew _ _ a3
            omega
          · have := H1.one b b' p q o2 o2' a3 c3 a5 c5 (isRenO_live a6) (isRenO_live c6) hpq
            subst this
            have := incr_inj hi a2 c2
            omega
      · rcases hcase id p o hp hg with ⟨a1, a2, a3⟩ | ⟨a1, b, o1, o2, a2, a3, a4, rfl, a5, a6⟩
        · obtain ⟨x, k1, k2⟩ := H.ob id p o a1 a3 hlv
          refine ⟨x, ?_, k2.mono hold⟩
          rw [E.keep _ (H.inHeap _ _ a1) (hnone _)]; exact k1
        · obtain ⟨x, k1, k2⟩ := H1.ob b p o2 a3 a5 (isRenO_live a6)
          exact ⟨x, k1, (isRenO_OR hmap a6 k2).1⟩
    · cases hO with
      | ret hv1 => exact .ret (isRen_VR hmap hv hv1)
  · cases hs

theorem closed_upon (hG : G.Fits3 P) {n : Nat} {f : FuncId} {args : List Value} {N : Nat} {l : List Nat} {bs : List Ob} {v : Value} (hsp : G.spec f = none) (ha : args.all scalarC = true)
    (hs : subOk N l bs v ((kev G (n + 1)).ev.call f args ⟨fun _ => none, .nil, 0⟩) = true) (h : Hp) :
    h.next ≤ (addL h.next N bs h).next ∧ ∀ B, (addL h.next N bs h).next ≤ B → UponOK P B f args h (.ret (shiftV h.next N v)) (addL h.next N bs h) := by
  obtain ⟨⟨fn, c, k1, k2, k3⟩, g⟩ := closed_calls hG hsp ha hs h
  exact ⟨by rw [addL_next]; omega, fun B hB => CallsOK.upon k2 (g B (by rw [addL_next] at hB; exact hB))⟩

/-- a call whose answer is known: its arguments, the answer, the blocks that hang on it -/
structure Done where
  args : List Value
  v : Value
  bs : List Ob

theorem isRen_nil : ∀ {n : Nat} {v u : Value}, isRen [] n v u = true → v = u
  | 0, _, _, h => by cases h
  | n + 1, v, u, h => by
    have hl : ∀ {a b : List Value}, lBeq (isRen [] n) a b = true → a = b := fun h => lBeq_eq (fun x y h => isRen_nil h) _ _ h
    unfold isRen at h
    split at h
    · rw [eq_of_beq h]
    · simp only [Bool.and_eq_true, decide_eq_true_eq] at h; rw [h.1, h.2]
    · rw [bytesEq_true h]
    · rfl
    · simp at h
    · simp only [Bool.and_eq_true] at h; rw [Nat.eq_of_beq_eq_true h.1, Nat.eq_of_beq_eq_true h.2]
    · simp at h
    · rfl
    · rfl
    · rfl
    · rw [Array.ext' (hl h)]
    · rw [Array.ext' (hl h)]
    · cases h

/-- a list of such calls, as a law of the function -/
noncomputable def doneSpec (N : Nat) : List Done → List Value → Hp → Option (Value × Hp)
  | [], _, _ => none
  | d :: ds, args, h => bif lBeq (isRen [] 2) d.args args then some (shiftV h.next N d.v, addL h.next N d.bs h) else doneSpec N ds args h

theorem doneSpec_ok {N : Nat} {f : FuncId} : ∀ {ds : List Done}, (∀ d, d ∈ ds → ∀ h : Hp, h.next ≤ (addL h.next N d.bs h).next ∧ ∀ B, (addL h.next N d.bs h).next ≤ B → UponOK P B f d.args h (.ret (shiftV h.next N d.v)) (addL h.next N d.bs h)) →
    ∀ {args : List Value} {h : Hp} {v : Value} {h' : Hp}, doneSpec N ds args h = some (v, h') → h.next ≤ h'.next ∧ ∀ B, h'.next ≤ B → UponOK P B f args h (.ret v) h'
  | [], _, args, h, v, h', hs => by cases hs
  | d :: ds, hd, args, h, v, h', hs => by
    unfold doneSpec at hs
    cases hb : lBeq (isRen [] 2) d.args args with
    | false => rw [hb] at hs; exact doneSpec_ok (fun d h => hd d (List.mem_cons_of_mem _ h)) hs
    | true =>
      rw [hb] at hs
      simp only [cond_true, Option.some.injEq, Prod.mk.injEq] at hs
      obtain ⟨rfl, rfl⟩ := hs
      have := lBeq_eq (fun x y h => isRen_nil h) _ _ hb
      subst this
      exact hd d (List.mem_cons_self ..) h
end
end Go.AE

namespace Go.AE
section
variable {P : Program}

theorem clone_upon {f : FuncId} (hx : ∀ args w v w', (Extern.MapsClone.clone args).run P w = .ok v w' → (callFunc f args).run P w = .ok (.value v) w') {args : List Value} {h : Hp} {v : Value} {h' : Hp}
    (hs : specClone args h = some (v, h')) : h.next ≤ h'.next ∧ ∀ B, h'.next ≤ B → UponOK P B f args h (.ret v) h' := by
  unfold specClone at hs
  split at hs
  · rename_i t r
    split at hs
    · rename_i es clock hg
      injection hs with hs; injection hs with e1 e2; subst e1; subst e2
      refine ⟨by rw [Hp.next_new]; omega, fun B hB M w args' hl H o a K Q hk => ?_⟩
      rw [Hp.next_new] at hB
      have hlt : h.next < B := by omega
      obtain ⟨v', rest, hl1, hv, hl2⟩ := hl.cases
      have := hl2.nil_left
      subst this
      cases hv with
      | iface _ hv =>
        cases hv with
        | map hM =>
          rename_i p
          obtain ⟨es', hw, he, _⟩ := H.map hM hg
          have ha : args' = #[.iface t (.map (some p.b))] := by rw [← Array.toArray_toList (xs := args'), hl1]
          subst ha
          rw [hx _ _ _ _ (Go.Proofs.run_maps_clone_sl w t hw), Oper.upon_value]
          have hle := Mp.le_upd (p := ⟨w.heap.size, 0, .rw⟩) (H.none_next hlt)
          exact hk _ _ (.returned _) (Ext.new H hlt _ _ .rw) (H.new hlt (.map rfl (he.mono hle))) (.ret (.iface _ (.map (p := ⟨w.heap.size, 0, .rw⟩) (Mp.upd_same _ _ _))))
    · cases hs
  · cases hs
end
end Go.AE

namespace Go.AE
open Go.RowKit

noncomputable def specKeys (g : FuncId) (et : TypeId) (n : Nat) (okKey : Value → Bool) (args : List Value) (h : Hp) : Option (Value × Hp) :=
  match args with
  | [.slice none 0 0, .func (.func g') first captured] =>
    match first.toList, captured.toList with
    | [], [.pointer (some ⟨b, 0, none⟩)] =>
      bif Nat.beq g' g then
        match h.get b with
        | some (.cells [.map none] _ .rw) => some (.slice none 0 0, h)
        | some (.cells [.map (some r)] _ .rw) =>
          match h.get r with
          | some (.map [] _) => some (.slice none 0 0, h)
          | some (.map [x] cl) => bif okKey x.key && Nat.blt x.born cl then some (.slice (some ⟨h.next, 0, none⟩) 1 0, h.new (.cells x.key.cells.toList et (.opn n))) else none
          | _ => none
        | _ => none
      else none
    | _, _ => none
  | _ => none

section
variable {P : Program} {B : Nat} {M : Mp} {h : Hp} {w w' : World}


theorem below_same (H : HR B M h w) (hb : RowKit.Below w.heap.size w w') : Ext M h w M h w' ∧ HR B M h w' := by
  refine ⟨⟨Mp.le_refl M, Nat.le_refl _, hb.size, fun b hl _ => hb.block b hl, fun _ hm _ => hm, (fun _ _ g g' => by rw [g'] at g; cases g), (fun _ _ g g' => by rw [g'] at g; cases g), (fun _ _ _ => rfl), hb.os, hb.output, hb.tape⟩, ?_⟩
  refine ⟨H.wf, fun id p hp => Nat.lt_of_lt_of_le (H.inHeap id p hp) hb.size, H.fresh, H.one, fun id p o hp hg hl => ?_⟩
  obtain ⟨x, hx, ho⟩ := H.ob id p o hp hg hl
  exact ⟨x, (hb.block _ (H.inHeap id p hp)).trans hx, ho⟩

theorem below_new (H : HR B M h w) (hlt : h.next < B) (hb : RowKit.Below w.heap.size w w') {o : Ob} {p : Pl} {x : Obj} (hp : w.heap.size ≤ p.b) (hx : w'.heap[p.b]? = some x) (ho : OR (M.upd h.next p) o p x) :
    Ext M h w (M.upd h.next p) (h.new o) w' ∧ HR B (M.upd h.next p) (h.new o) w' := by
  have hn := H.none_next hlt
  have hle := Mp.le_upd (p := p) hn
  have hinv : ∀ id q, (M.upd h.next p) id = some q → (id = h.next ∧ q = p) ∨ (id ≠ h.next ∧ M id = some q) := by
    intro id q hq
    unfold Mp.upd at hq
    by_cases e : id = h.next
    · rw [if_pos e] at hq; injection hq with hq; exact .inl ⟨e, hq.symm⟩
    · rw [if_neg e] at hq; exact .inr ⟨e, hq⟩
  refine ⟨⟨hle, by rw [Hp.next_new]; omega, hb.size, fun b hl _ => hb.block b hl, ?_, ?_, ?_, fun id _ hid => by rw [Hp.get_new, if_neg (by omega)], hb.os, hb.output, hb.tape⟩, ?_⟩
  · rintro b ⟨id, q, o', g1, g2, g3, g4, g5⟩ hbl
    rcases hinv id q g1 with ⟨_, rfl⟩ | ⟨e, g⟩
    · omega
    · rw [Hp.get_new, if_neg e] at g2
      exact ⟨id, q, o', g, g2, g3, g4, g5⟩
  · intro id q g1 g2
    rcases hinv id q g1 with ⟨_, rfl⟩ | ⟨e, g⟩
    · exact .inl hp
    · rw [g2] at g; cases g
  · intro id q g1 g2
    rcases hinv id q g1 with ⟨e, rfl⟩ | ⟨e, g⟩
    · rw [Hp.next_new]; omega
    · rw [g2] at g; cases g
  · refine ⟨fun id hid => ?_, fun id q hq => ?_, fun id q hq => ?_, fun i j q q' o1 o2 hi hj gi gj li lj hqq => ?_, fun id q o' hq hg hl => ?_⟩
    · rw [Hp.next_new] at hid
      rw [Hp.get_new, if_neg (by omega)]; exact H.wf id (by omega)
    · rcases hinv id q hq with ⟨_, rfl⟩ | ⟨_, g⟩
      · exact (Array.getElem?_eq_some_iff.1 hx).1
      · exact Nat.lt_of_lt_of_le (H.inHeap _ _ g) hb.size
    · rcases hinv id q hq with ⟨e, rfl⟩ | ⟨_, g⟩
      · left; rw [Hp.next_new]; omega
      · rcases H.fresh _ _ g with k | k
        · left; rw [Hp.next_new]; omega
        · exact .inr k
    · rcases hinv i q hi with ⟨e, rfl⟩ | ⟨e, g⟩
      · rcases hinv j q' hj with ⟨e', rfl⟩ | ⟨e', g'⟩
        · omega
        · have := H.inHeap _ _ g'; omega
      · rcases hinv j q' hj with ⟨e', rfl⟩ | ⟨e', g'⟩
        · have := H.inHeap _ _ g; omega
        · rw [Hp.get_new, if_neg e] at gi
          rw [Hp.get_new, if_neg e'] at gj
          exact H.one i j q q' o1 o2 g g' gi gj li lj hqq
    · rcases hinv id q hq with ⟨e, rfl⟩ | ⟨e, g⟩
      · rw [Hp.get_new, if_pos e] at hg
        injection hg with hg; subst hg
        exact ⟨x, hx, ho⟩
      · rw [Hp.get_new, if_neg e] at hg
        obtain ⟨y, k1, k2⟩ := H.ob id q o' g hg hl
        exact ⟨y, (hb.block _ (H.inHeap _ _ g)).trans k1, k2.mono hle⟩

theorem box_cell (H : HR B M h w) {b : Nat} {p : Pl} {v : Value} {t : TypeId} (hM : M b = some p) (hg : h.get b = some (.cells [v] t .rw)) :
    ∃ v', w.cell? ⟨p.b, 0 + p.sh, none⟩ = some v' ∧ VR M v v' ∧ p.b < w.heap.size := by
  obtain ⟨x, hx, ho⟩ := H.ob b p _ hM hg rfl
  cases ho with
  | rw hk hs hL hz ho =>
    rename_i c' fz
    obtain ⟨v', r, e, hv, hr⟩ := hL.cases
    have := hr.nil_left
    subst this
    have hc : c' = #[v'] := by rw [← Array.toArray_toList (xs := c'), e]
    subst hc
    exact ⟨v', by simp [World.cell?, hx, hs], hv, H.inHeap _ _ hM⟩

theorem keys_upon {f g : FuncId} {et : TypeId} {n : Nat} {okKey : Value → Bool} (hx : ∀ args w, (callFunc f args).run P w = .ok (.enter f args) w) (hn : n ≠ 0)
    (hkey : ∀ M k k', okKey k = true → VR M k k' → k' = k ∧ k.cells.toList.all Value.oneCell' = true ∧ k.cells.toList.length = n)
    (hZ : ∀ (ad : Addr) (mb : Option Nat) (w : World), w.cell? ad = some (.map mb) → (∀ r, mb = some r → ∃ cl, w.heap[r]? = some (.map #[] cl)) → ad.block < w.heap.size →
      Calls P f #[.slice none 0 0, .func (.func g) #[] #[.pointer (some ad)]] w fun en w' => en = .returned (.slice none 0 0) ∧ RowKit.Below w.heap.size w w')
    (hO : ∀ (ad : Addr) (m cl : Nat) (e : MapEntry) (w : World), okKey e.key = true → w.cell? ad = some (.map (some m)) → w.heap[m]? = some (.map #[e] cl) → e.born < cl → ad.block < w.heap.size →
      Calls P f #[.slice none 0 0, .func (.func g) #[] #[.pointer (some ad)]] w fun en w' => ∃ v, en = .returned v ∧ w'.ownsRow w.heap.size et n v 1 e.key.cells.toList ∧ RowKit.Below w.heap.size w w')
    {args : List Value} {h : Hp} {v : Value} {h' : Hp} (hs : specKeys g et n okKey args h = some (v, h')) : h.next ≤ h'.next ∧ ∀ B, h'.next ≤ B → UponOK P B f args h (.ret v) h' := by
  have main : h.next ≤ h'.next ∧ ∀ B, h'.next ≤ B → CallsOK P B f args h (.ret v) h' := by
    unfold specKeys at hs
    split at hs
    · rename_i g' first captured
      split at hs
      · rename_i b hfi hca
        cases hgg : Nat.beq g' g with
        | false => rw [hgg] at hs; cases hs
        | true =>
          have hgg := Nat.eq_of_beq_eq_true hgg
          subst hgg
          rw [Nat.beq_refl] at hs
          simp only [cond_true] at hs
          have hargs : ∀ {B M w} (args' : Array Value), LR M [.slice none 0 0, .func (.func g') first captured] args'.toList → HR B M h w →
              ∃ p, M b = some p ∧ args' = #[.slice none 0 0, .func (.func g') #[] #[.pointer (some ⟨p.b, 0 + p.sh, none⟩)]] := by
            intro B M w args' hl H
            obtain ⟨v1, r1, e1, k1, k2⟩ := hl.cases
            obtain ⟨v2, r2, e2, k3, k4⟩ := k2.cases
            have := k4.nil_left
            subst this
            subst e2
            cases k1
            obtain ⟨fs', cs', rfl, l1, l2⟩ := k3.func_list
            rw [hfi] at l1
            rw [hca] at l2
            have q1 := l1.nil_left
            obtain ⟨v3, r3, e3, k5, k6⟩ := l2.cases
            have := k6.nil_left
            subst this
            cases k5 with
            | ptr hM =>
              rename_i p
              refine ⟨p, hM, ?_⟩
              have a1 : fs' = #[] := by rw [← Array.toArray_toList (xs := fs'), q1]
              have a2 : cs' = #[.pointer (some ⟨p.b, 0 + p.sh, none⟩)] := by rw [← Array.toArray_toList (xs := cs'), e3]
              rw [← Array.toArray_toList (xs := args'), e1, a1, a2]
          split at hs
          · rename_i t hgb
            simp only [Option.some.injEq, Prod.mk.injEq] at hs
            obtain ⟨rfl, rfl⟩ := hs
            refine ⟨Nat.le_refl _, fun B hB M w args' hl H => ?_⟩
            obtain ⟨p, hM, rfl⟩ := hargs args' hl H
            obtain ⟨v', c1, c2, c3⟩ := box_cell H hM hgb
            cases c2
            refine (hZ _ none w c1 (fun r e => by cases e) c3).mono fun e w' ⟨he, hb⟩ => ?_
            subst he
            obtain ⟨E, H'⟩ := below_same H hb
            exact ⟨M, E, H', .ret (.snil 0 0)⟩
          · rename_i r t hgb
            split at hs
            · rename_i cl hgr
              simp only [Option.some.injEq, Prod.mk.injEq] at hs
              obtain ⟨rfl, rfl⟩ := hs
              refine ⟨Nat.le_refl _, fun B hB M w args' hl H => ?_⟩
              obtain ⟨p, hM, rfl⟩ := hargs args' hl H
              obtain ⟨v', c1, c2, c3⟩ := box_cell H hM hgb
              cases c2 with
              | map hMr =>
                rename_i q
                obtain ⟨es', k1, k2, _⟩ := H.map hMr hgr
                have hes : es' = #[] := by
                  rw [← Array.toArray_toList (xs := es')]
                  generalize es'.toList = l at k2
                  cases k2; rfl
                subst hes
                refine (hZ _ (some q.b) w c1 (fun r e => by cases e; exact ⟨_, k1⟩) c3).mono fun e w' ⟨he, hb⟩ => ?_
                subst he
                obtain ⟨E, H'⟩ := below_same H hb
                exact ⟨M, E, H', .ret (.snil 0 0)⟩
            · rename_i x cl hgr
              cases hok : okKey x.key && Nat.blt x.born cl with
              | false => rw [hok] at hs; cases hs
              | true =>
                rw [hok] at hs
                simp only [cond_true, Option.some.injEq, Prod.mk.injEq] at hs
                obtain ⟨rfl, rfl⟩ := hs
                simp only [Bool.and_eq_true] at hok
                obtain ⟨hok1, hok2⟩ := hok
                have hok2 : x.born < cl := by simpa [Nat.blt_eq] using hok2
                refine ⟨by rw [Hp.next_new]; omega, fun B hB M w args' hl H => ?_⟩
                rw [Hp.next_new] at hB
                obtain ⟨p, hM, rfl⟩ := hargs args' hl H
                obtain ⟨v', c1, c2, c3⟩ := box_cell H hM hgb
                cases c2 with
                | map hMr =>
                  rename_i q
                  obtain ⟨es', k1, k2, _⟩ := H.map hMr hgr
                  obtain ⟨y, hes, hy⟩ : ∃ y, es' = #[y] ∧ ER M x y := by
                    have he := Array.toArray_toList (xs := es')
                    generalize es'.toList = l at k2 he
                    cases k2 with
                    | cons hh ht => cases ht; exact ⟨_, he.symm, hh⟩
                  subst hes
                  obtain ⟨hy1, hy2, hy3⟩ := hy
                  obtain ⟨e1, e2, e3⟩ := hkey M _ _ hok1 hy1
                  refine (hO _ q.b cl y w (by rw [e1]; exact hok1) c1 k1 (by rw [← hy3]; exact hok2) c3).mono fun e w' ⟨v, he, hown, hb⟩ => ?_
                  subst he
                  obtain ⟨hlen, hrow⟩ := hown
                  rcases hrow with ⟨_, h0⟩ | ⟨gb, cap, cur, rfl, hbase, hgb', hr1, hr2, hr3, hr4⟩
                  · cases h0
                  rw [e1] at hr4 hlen
                  have hlt : h.next < B := by omega
                  have hLR : LR (M.upd h.next ⟨gb, 0, .opn (cap * n) n⟩) x.key.cells.toList x.key.cells.toList := by
                    have := (VR.cells hy1).mono (Mp.le_upd (p := ⟨gb, 0, .opn (cap * n) n⟩) (H.none_next hlt))
                    rwa [e1] at this
                  obtain ⟨E, H'⟩ := below_new (o := .cells x.key.cells.toList et (.opn n)) (p := ⟨gb, 0, .opn (cap * n) n⟩) H hlt hb hbase hgb'
                    (.opn rfl hr3 hn (by rw [List.drop_zero, e3]; rw [Nat.one_mul] at hr4; rw [hr4]; exact hLR) (.inl (Nat.le_refl _)) e2)
                  exact ⟨_, E, H', .ret (.slo 1 0 cap (p := ⟨gb, 0, .opn (cap * n) n⟩) (Mp.upd_same _ _ _) rfl (by simp) hr1)⟩
            · cases hs
          · cases hs
      · cases hs
    · cases hs
  exact ⟨main.1, fun B hB => CallsOK.upon hx (main.2 B hB)⟩
end
end Go.AE

namespace Go.AE
open Go.RowKit

def strsOf : List Value → Option (List ByteArray)
  | [] => some []
  | .string s :: r => (strsOf r).map (s :: ·)
  | _ => none

/-- the elements of a row of its own, joined -/
noncomputable def specJoin (args : List Value) (h : Hp) : Option (Value × Hp) :=
  match args with
  | [.slice (some ⟨b, 0, none⟩) n _, .string sep] =>
    match h.get b with
    | some (.cells c _ (.opn 1)) => bif Nat.beq n c.length then (strsOf c).bind fun l =>
        bif (Nat.ble n 1000 && Nat.blt 0 n) && Nat.ble (Lib.join (l.map (·.data.toList)) sep.data.toList).length 1000000 then some (.string ⟨(Lib.join (l.map (·.data.toList)) sep.data.toList).toArray⟩, h) else none
      else none
    | _ => none
  | _ => none

theorem strsOf_LR {M : Mp} : ∀ {c : List Value} {l : List ByteArray} {c' : List Value}, strsOf c = some l → LR M c c' → c' = l.map .string
  | [], l, c', h, hl => by
    injection h with h; subst h
    exact hl.nil_left
  | v :: r, l, c', h, hl => by
    unfold strsOf at h
    split at h
    · rename_i heq; cases heq
    · rename_i s r' heq
      injection heq with h1 h2
      subst h1; subst h2
      obtain ⟨l', h1, rfl⟩ := map_some h
      obtain ⟨v', t, rfl, hv, ht⟩ := hl.cases
      cases hv
      rw [strsOf_LR h1 ht]; rfl
    · cases h

section
variable {P : Program}
theorem join_upon {f : FuncId} (hx : ∀ args w, (callFunc f args).run P w = .ok (.enter f args) w)
    (hJ : ∀ (bk o c : Nat) (xs : List ByteArray) (sep : ByteArray) (w : World), (∀ (j : Nat) x, xs[j]? = some x → w.cell? ⟨bk, o + j, none⟩ = some (.string x)) → bk < w.heap.size → xs.length ≤ 140737488355328 → xs.length ≤ c →
      (Lib.join (xs.map (·.data.toList)) sep.data.toList).length ≤ 140737488355328 →
      Calls P f #[.slice (some ⟨bk, o, none⟩) xs.length c, .string sep] w fun e w' => e = .returned (.string ⟨(Lib.join (xs.map (·.data.toList)) sep.data.toList).toArray⟩) ∧ RowKit.Below w.heap.size w w')
    {args : List Value} {h : Hp} {v : Value} {h' : Hp} (hs : specJoin args h = some (v, h')) : h.next ≤ h'.next ∧ ∀ B, h'.next ≤ B → UponOK P B f args h (.ret v) h' := by
  have main : h.next ≤ h'.next ∧ ∀ B, h'.next ≤ B → CallsOK P B f args h (.ret v) h' := by
    unfold specJoin at hs
    split at hs
    · rename_i b n cc sep
      split at hs
      · rename_i c e hg
        cases hn : Nat.beq n c.length with
        | false => rw [hn] at hs; cases hs
        | true =>
          rw [hn] at hs
          have hn := Nat.eq_of_beq_eq_true hn
          simp only [cond_true] at hs
          obtain ⟨l, hl0, hs⟩ := bind_some hs
          cases hb : (Nat.ble n 1000 && Nat.blt 0 n) && Nat.ble (Lib.join (l.map (·.data.toList)) sep.data.toList).length 1000000 with
          | false => rw [hb] at hs; cases hs
          | true =>
            rw [hb] at hs
            simp only [Bool.and_eq_true] at hb
            have hb1 := Nat.le_of_ble_eq_true hb.1.1
            have hb0 : 0 < n := by simpa [Nat.blt_eq] using hb.1.2
            have hb2 := Nat.le_of_ble_eq_true hb.2
            simp only [cond_true, Option.some.injEq, Prod.mk.injEq] at hs
            obtain ⟨rfl, rfl⟩ := hs
            refine ⟨Nat.le_refl _, fun B hB M w args' hl H => ?_⟩
            obtain ⟨v1, r1, e1, k1, k2⟩ := hl.cases
            obtain ⟨v2, r2, e2, k3, k4⟩ := k2.cases
            have := k4.nil_left
            subst this
            subst e2
            cases k3
            have hlen : ∀ (c : List Value) (l : List ByteArray), strsOf c = some l → l.length = c.length := by
              intro c
              induction c with
              | nil => intro l h; injection h with h; subst h; rfl
              | cons v r ih =>
                intro l h
                unfold strsOf at h
                split at h
                · rename_i heq; cases heq
                · rename_i heq
                  injection heq with h1 h2
                  subst h1; subst h2
                  obtain ⟨l', h1, rfl⟩ := map_some h
                  simp [ih l' h1]
                · cases h
            have hll : l.length = n := by rw [hlen c l hl0, hn]
            have fin : ∀ (p : Pl) (c' : Nat) (x : Obj), n ≤ c' → w.heap[p.b]? = some x → OR M (.cells c e (.opn 1)) p x → p.b < w.heap.size → args' = #[.slice (some ⟨p.b, 0 + p.sh, none⟩) n c', .string sep] →
                Calls P f args' w fun e w' => ∃ M', Ext M h w M' h w' ∧ HR B M' h w' ∧ OutR M' (.ret (.string ⟨(Lib.join (l.map (·.data.toList)) sep.data.toList).toArray⟩)) e := by
              intro p c' x hc' hx' ho hlt ha
              have hrow : ∃ cells fz, x = .cells cells e fz ∧ ((cells.toList.drop p.sh).take n) = l.map .string := by
                cases ho with
                | opn hk ht hn' hL hz ho' =>
                  rename_i cells fz tot
                  refine ⟨cells, fz, rfl, ?_⟩
                  have := strsOf_LR hl0 hL
                  rw [hn]; exact this
              obtain ⟨cells, fz, rfl, hcells⟩ := hrow
              subst ha
              have := hJ p.b (0 + p.sh) c' l sep w (fun j s hj => by
                have h2 : ((cells.toList.drop p.sh).take n)[j]? = some (.string s) := by rw [hcells, List.getElem?_map, hj]; rfl
                have hjn : j < n := by have := (List.getElem?_eq_some_iff.1 hj).1; omega
                rw [List.getElem?_take, if_pos hjn, List.getElem?_drop, Array.getElem?_toList] at h2
                simp only [World.cell?, hx', Nat.zero_add]
                exact h2) hlt (by omega) (by omega) (by omega)
              rw [hll] at this
              refine this.mono fun e' w' ⟨he, hbel⟩ => ?_
              subst he
              obtain ⟨E, H'⟩ := below_same H hbel
              exact ⟨M, E, H', .ret (.str _)⟩
            have hb' : ∀ v1, args'.toList = v1 :: [.string sep] → args' = #[v1, .string sep] := fun v1 hv => by rw [← Array.toArray_toList (xs := args'), hv]
            cases k1 with
            | slc l' c' hM hk =>
              rename_i p
              obtain ⟨x, hx', ho⟩ := H.ob b p _ hM hg rfl
              cases ho with
              | opn hk' ht hn' hL hz ho' => rw [hk'] at hk; cases hk
            | slo l' c' c'' hM hk hc hl' =>
              rename_i p tot sz
              obtain ⟨x, hx', ho⟩ := H.ob b p _ hM hg rfl
              exact fin p c'' x hl' hx' ho (H.inHeap _ _ hM) (hb' _ e1)
            | sle c' hM hk a => exact absurd hb0 (Nat.lt_irrefl 0)
      · cases hs
    · cases hs
  exact ⟨main.1, fun B hB => CallsOK.upon hx (main.2 B hB)⟩
end
end Go.AE

namespace Go.AE

theorem codeOk_reg {G G' : Tabs} (h : G.reg = G'.reg) (f : FuncId) : ∀ c, codeOk G f c = codeOk G' f c := by
  intro c
  induction c <;> simp_all [codeOk]

/-- the same tables, and functions taken whole -/
noncomputable def withSpec (G : Tabs) (sp : FuncId → Option (List Value → Hp → Option (Value × Hp))) : Tabs := ⟨G.und, G.info, G.fn, G.reg, sp⟩

theorem withSpec_fits {G : Tabs} {P : Program} {sp : FuncId → Option (List Value → Hp → Option (Value × Hp))} (h : G.Fits3 P)
    (hsp : ∀ f s args h v h', sp f = some s → s args h = some (v, h') → h.next ≤ h'.next ∧ ∀ B, h'.next ≤ B → UponOK P B f args h (.ret v) h') : (withSpec G sp).Fits3 P := by
  have h2 : (withSpec G sp).Fits2 P := { h.toFits2 with }
  exact { h2 with
    fn := h.fn
    ok := fun f fn c hf hc => by rw [← h.ok f fn c hf hc]; exact codeOk_reg (G := withSpec G sp) (G' := G) rfl f c
    mixed := h.mixed
    spec := hsp }
end Go.AE
