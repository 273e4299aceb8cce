/- What an abstract state says of a world: the relation, its growth, and the laws of tries and environments. -/
import Derived.Test.YtaceaifoajkgaaaGreatDoorAEcore
namespace Go.AE

inductive All2 {α β : Type} (R : α → β → Prop) : List α → List β → Prop
  | nil : All2 R [] []
  | cons {a : α} {b : β} {l : List α} {r : List β} (h : R a b) (t : All2 R l r) : All2 R (a :: l) (b :: r)

theorem All2.length {α β : Type} {R : α → β → Prop} {l : List α} {r : List β} (h : All2 R l r) : l.length = r.length := by
  induction h with
  | nil => rfl
  | cons _ _ ih => simp [ih]

/- tries -/
theorem Tr.get_setF {α : Type} (x : α) : ∀ (f : Nat) (t : Tr α) (n m : Nat), n < f → (Tr.setF f t n x).get m = if m = n then some x else t.get m := by
  intro f
  induction f with
  | zero => intro t n m h; omega
  | succ f ih =>
    intro t n m h
    have key : ∀ (l r : Tr α) (v : Option α) (n : Nat), n + 1 < f + 1 →
        (bif Nat.beq (n % 2) 0 then Tr.node (Tr.setF f l (n / 2) x) v r else Tr.node l v (Tr.setF f r (n / 2) x)).get m =
          if m = n + 1 then some x else (Tr.node l v r).get m := by
      intro l r v n hn
      cases hb : Nat.beq (n % 2) 0 with
      | true =>
        have hb' : n % 2 = 0 := Nat.eq_of_beq_eq_true hb
        cases m with
        | zero => simp [Tr.get_nil, Tr.get_zero, Tr.get_succ]
        | succ m =>
          simp only [cond_true, Tr.get_nil, Tr.get_zero, Tr.get_succ]
          cases hm : Nat.beq (m % 2) 0 with
          | true =>
            have hm' : m % 2 = 0 := Nat.eq_of_beq_eq_true hm
            simp only [cond_true]
            rw [ih _ _ _ (by omega)]
            by_cases e : m = n
            · subst e; simp
            · have : m / 2 ≠ n / 2 := by omega
              simp [e, this]
          | false =>
            have hm' : m % 2 ≠ 0 := Nat.ne_of_beq_eq_false hm
            have : m ≠ n := by omega
            simp [this]
      | false =>
        have hb' : n % 2 ≠ 0 := Nat.ne_of_beq_eq_false hb
        cases m with
        | zero => simp [Tr.get_nil, Tr.get_zero, Tr.get_succ]
        | succ m =>
          simp only [cond_false, Tr.get_nil, Tr.get_zero, Tr.get_succ]
          cases hm : Nat.beq (m % 2) 0 with
          | true =>
            have hm' : m % 2 = 0 := Nat.eq_of_beq_eq_true hm
            have : m ≠ n := by omega
            simp [this]
          | false =>
            have hm' : m % 2 ≠ 0 := Nat.ne_of_beq_eq_false hm
            simp only [cond_false]
            rw [ih _ _ _ (by omega)]
            by_cases e : m = n
            · subst e; simp
            · have : m / 2 ≠ n / 2 := by omega
              simp [e, this]
    have hnil : ∀ k, (Tr.nil : Tr α).get k = none := fun k => rfl
    have hnode : ∀ k, (Tr.node (.nil : Tr α) none .nil).get k = none := by
      intro k; cases k with
      | zero => rfl
      | succ k => simp only [Tr.get_nil, Tr.get_zero, Tr.get_succ]; cases Nat.beq (k % 2) 0 <;> rfl
    cases t with
    | nil =>
      cases n with
      | zero =>
        cases m with
        | zero => rfl
        | succ m => simp only [Tr.setF_nil_zero, Tr.get_nil, Tr.get_zero, Tr.get_succ]; cases Nat.beq (m % 2) 0 <;> simp [Tr.get_nil, Tr.get_zero, Tr.get_succ]
      | succ n =>
        have := key .nil .nil none n h
        simp only [Tr.setF_nil_succ]
        rw [this, hnode, hnil]
    | node l v r =>
      cases n with
      | zero =>
        cases m with
        | zero => rfl
        | succ m => simp [Tr.setF_node_zero, Tr.get_nil, Tr.get_zero, Tr.get_succ]
      | succ n => simpa only [Tr.setF_node_succ] using key l r v n h

theorem Tr.get_set {α : Type} (t : Tr α) (n m : Nat) (x : α) : (t.set n x).get m = if m = n then some x else t.get m :=
  Tr.get_setF x (n + 1) t n m (Nat.lt_succ_self n)

theorem Hp.get_put (h : Hp) (b m : Nat) (o : Ob) : (h.put b o).get m = if m = b then some o else h.get m := by
  unfold Hp.get Hp.put
  simp only [Tr.get_set]
  by_cases e : m = b <;> simp [e]

theorem Hp.get_new (h : Hp) (m : Nat) (o : Ob) : (h.new o).get m = if m = h.next then some o else h.get m := by
  unfold Hp.get Hp.new
  simp only [Tr.get_set]
  by_cases e : m = h.next <;> simp [e]

theorem Hp.next_put (h : Hp) (b : Nat) (o : Ob) : (h.put b o).next = h.next := rfl
theorem Hp.next_new (h : Hp) (o : Ob) : (h.new o).next = h.next + 1 := rfl

/- the relation -/
inductive Kd where
  | ro | rw
  | opn (tot sz : Nat)

structure Pl where
  b : Nat
  sh : Nat
  k : Kd

abbrev Mp := Nat → Option Pl

def Kd.closed : Kd → Bool
  | .opn _ _ => false
  | _ => true

inductive VR (M : Mp) : Value → Value → Prop
  | bool (b : Bool) : VR M (.bool b) (.bool b)
  | int (k : IntKind) (n : Int) : VR M (.int k n) (.int k n)
  | str (s : ByteArray) : VR M (.string s) (.string s)
  | pnil : VR M (.pointer none) (.pointer none)
  | ptr {b o : Nat} {p : Pl} (h : M b = some p) : VR M (.pointer (some ⟨b, o, none⟩)) (.pointer (some ⟨p.b, o + p.sh, none⟩))
  | snil (l c : Nat) : VR M (.slice none l c) (.slice none l c)
  | slc {b o : Nat} (l c : Nat) {p : Pl} (h : M b = some p) (hk : p.k.closed = true) : VR M (.slice (some ⟨b, o, none⟩) l c) (.slice (some ⟨p.b, o + p.sh, none⟩) l c)
  | slo {b o : Nat} (l c c' : Nat) {p : Pl} {tot sz : Nat} (h : M b = some p) (hk : p.k = .opn tot sz) (hc : o + p.sh + c' * sz = tot) (hl : l ≤ c') :
      VR M (.slice (some ⟨b, o, none⟩) l c) (.slice (some ⟨p.b, o + p.sh, none⟩) l c')
  | sle {b o : Nat} (c : Nat) {p : Pl} {tot sz : Nat} (h : M b = some p) (hk : p.k = .opn tot sz) (a : Addr) :
      VR M (.slice (some ⟨b, o, none⟩) 0 c) (.slice (some a) 0 0)
  | mnil : VR M (.map none) (.map none)
  | map {r : Nat} {p : Pl} (h : M r = some p) : VR M (.map (some r)) (.map (some p.b))
  | nilFunc : VR M .nilFunc .nilFunc
  | nilIface : VR M .nilIface .nilIface
  | iface (t : TypeId) {v v' : Value} (h : VR M v v') : VR M (.iface t v) (.iface t v')
  | agg {cs ds : Array Value} (hs : cs.size = ds.size) (h : ∀ i, i < cs.size → VR M (cs.getD i undef) (ds.getD i undef))
      (one : ∀ i, i < cs.size → (cs.getD i undef).oneCell' = true) : VR M (.agg cs) (.agg ds)
  | tuple {cs ds : Array Value} (hs : cs.size = ds.size) (h : ∀ i, i < cs.size → VR M (cs.getD i undef) (ds.getD i undef)) : VR M (.tuple cs) (.tuple ds)
  | func (fn : Fn) {fs fs' cs cs' : Array Value} (hf : fs.size = fs'.size) (hF : ∀ i, i < fs.size → VR M (fs.getD i undef) (fs'.getD i undef))
      (hc : cs.size = cs'.size) (hC : ∀ i, i < cs.size → VR M (cs.getD i undef) (cs'.getD i undef)) : VR M (.func fn fs cs) (.func fn fs' cs')

def Mp.le (M M' : Mp) : Prop := ∀ id p, M id = some p → M' id = some p
theorem Mp.le_refl (M : Mp) : M.le M := fun _ _ h => h
theorem Mp.le.trans {M M' M'' : Mp} (h : M.le M') (h' : M'.le M'') : M.le M'' := fun _ _ hx => h' _ _ (h _ _ hx)

theorem VR.mono {M M' : Mp} (hM : M.le M') {v v' : Value} (h : VR M v v') : VR M' v v' := by
  induction h with
  | bool b => exact .bool b
  | int k n => exact .int k n
  | str s => exact .str s
  | pnil => exact .pnil
  | ptr h => exact .ptr (hM _ _ h)
  | snil l c => exact .snil l c
  | slc l c h hk => exact .slc l c (hM _ _ h) hk
  | slo l c c' h hk hc hl => exact .slo l c c' (hM _ _ h) hk hc hl
  | sle c h hk a => exact .sle c (hM _ _ h) hk a
  | mnil => exact .mnil
  | map h => exact .map (hM _ _ h)
  | nilFunc => exact .nilFunc
  | nilIface => exact .nilIface
  | iface t _ ih => exact .iface t ih
  | agg hs _ one ih => exact .agg hs ih one
  | tuple hs _ ih => exact .tuple hs ih
  | func fn hf _ hc _ ihf ihc => exact .func fn hf ihf hc ihc

theorem VR.undef (M : Mp) : VR M undef undef := .tuple rfl (fun i h => absurd h (by simp))

theorem VR.oneCell' {M : Mp} {v v' : Value} (h : VR M v v') : v'.oneCell' = v.oneCell' := by cases h <;> rfl

/-- rows of values -/
def LR (M : Mp) (l l' : List Value) : Prop := l.length = l'.length ∧ ∀ i, i < l.length → VR M (l.getD i Go.undef) (l'.getD i Go.undef)

theorem LR.nil (M : Mp) : LR M [] [] := ⟨rfl, fun i h => absurd h (by simp)⟩
theorem LR.cons {M : Mp} {v v' : Value} {l l' : List Value} (hv : VR M v v') (h : LR M l l') : LR M (v :: l) (v' :: l') := by
  refine ⟨by simp [h.1], fun i hi => ?_⟩
  cases i with
  | zero => simpa using hv
  | succ i => simpa using h.2 i (by simpa using hi)
theorem LR.head {M : Mp} {v v' : Value} {l l' : List Value} (h : LR M (v :: l) (v' :: l')) : VR M v v' := by simpa using h.2 0 (by simp)
theorem LR.tail {M : Mp} {v v' : Value} {l l' : List Value} (h : LR M (v :: l) (v' :: l')) : LR M l l' :=
  ⟨by simpa using h.1, fun i hi => by simpa using h.2 (i + 1) (by simpa using hi)⟩
theorem LR.cases {M : Mp} {v : Value} {l l' : List Value} (h : LR M (v :: l) l') : ∃ v' r, l' = v' :: r ∧ VR M v v' ∧ LR M l r := by
  cases l' with
  | nil => exact absurd h.1 (by simp)
  | cons v' r => exact ⟨v', r, rfl, h.head, h.tail⟩
theorem LR.nil_left {M : Mp} {l' : List Value} (h : LR M [] l') : l' = [] := by
  cases l' with
  | nil => rfl
  | cons v' r => exact absurd h.1 (by simp)
theorem LR.mono {M M' : Mp} (hM : M.le M') {l l' : List Value} (h : LR M l l') : LR M' l l' := ⟨h.1, fun i hi => (h.2 i hi).mono hM⟩
theorem LR.append {M : Mp} {l l' r r' : List Value} (h : LR M l l') (h' : LR M r r') : LR M (l ++ r) (l' ++ r') := by
  induction l generalizing l' with
  | nil => rw [h.nil_left]; simpa using h'
  | cons v l ih =>
    obtain ⟨v', t, rfl, hv, ht⟩ := h.cases
    exact .cons hv (ih ht)
theorem LR.get {M : Mp} {l l' : List Value} (h : LR M l l') {i : Nat} {v : Value} (hi : l[i]? = some v) : ∃ v', l'[i]? = some v' ∧ VR M v v' := by
  have hlt : i < l.length := by
    rcases Nat.lt_or_ge i l.length with h | h
    · exact h
    · rw [List.getElem?_eq_none h] at hi; cases hi
  have hlt' : i < l'.length := h.1 ▸ hlt
  have := h.2 i hlt
  rw [List.getElem?_eq_getElem hlt] at hi
  refine ⟨l'[i], List.getElem?_eq_getElem hlt', ?_⟩
  simp only [List.getD_eq_getElem?_getD, List.getElem?_eq_getElem hlt, List.getElem?_eq_getElem hlt', Option.getD_some] at this
  injection hi with hi
  rwa [hi] at this
theorem LR.drop {M : Mp} {l l' : List Value} (h : LR M l l') (n : Nat) : LR M (l.drop n) (l'.drop n) := by
  induction n generalizing l l' with
  | zero => simpa using h
  | succ n ih =>
    cases l with
    | nil => rw [h.nil_left]; simpa using LR.nil M
    | cons v l => obtain ⟨v', t, rfl, _, ht⟩ := h.cases; simpa using ih ht
theorem LR.take {M : Mp} {l l' : List Value} (h : LR M l l') (n : Nat) : LR M (l.take n) (l'.take n) := by
  induction n generalizing l l' with
  | zero => simpa using LR.nil M
  | succ n ih =>
    cases l with
    | nil => rw [h.nil_left]; simpa using LR.nil M
    | cons v l => obtain ⟨v', t, rfl, hv, ht⟩ := h.cases; simpa using LR.cons hv (ih ht)
theorem LR.agg {M : Mp} {l l' : List Value} (h : LR M l l') (one : l.all Value.oneCell' = true) : VR M (.agg l.toArray) (.agg l'.toArray) := by
  refine .agg (by simpa using h.1) (fun i hi => ?_) (fun i hi => ?_)
  · have := h.2 i (by simpa using hi)
    simpa using this
  · have hi' : i < l.length := by simpa using hi
    have := List.all_eq_true.1 one l[i] (List.getElem_mem hi')
    simpa [hi'] using this
theorem LR.tuple {M : Mp} {l l' : List Value} (h : LR M l l') : VR M (.tuple l.toArray) (.tuple l'.toArray) := by
  refine .tuple (by simpa using h.1) (fun i hi => ?_)
  have := h.2 i (by simpa using hi)
  simpa using this
theorem VR.agg_list {M : Mp} {cs : Array Value} {v' : Value} (h : VR M (.agg cs) v') : ∃ ds : Array Value, v' = .agg ds ∧ LR M cs.toList ds.toList ∧ cs.toList.all Value.oneCell' = true := by
  cases h with
  | agg hs h one =>
    refine ⟨_, rfl, ⟨by simpa using hs, fun i hi => ?_⟩, ?_⟩
    · have := h i (by simpa using hi)
      simpa using this
    · rw [List.all_eq_true]
      intro x hx
      obtain ⟨i, hi, rfl⟩ := List.getElem_of_mem hx
      have := one i (by simpa using hi)
      have hi' : i < cs.size := by simpa using hi
      simpa [hi'] using this
theorem VR.tuple_list {M : Mp} {cs : Array Value} {v' : Value} (h : VR M (.tuple cs) v') : ∃ ds : Array Value, v' = .tuple ds ∧ LR M cs.toList ds.toList := by
  cases h with
  | tuple hs h =>
    refine ⟨_, rfl, ⟨by simpa using hs, fun i hi => ?_⟩⟩
    have := h i (by simpa using hi)
    simpa using this
theorem VR.func_list {M : Mp} {fn : Fn} {fs cs : Array Value} {v' : Value} (h : VR M (.func fn fs cs) v') :
    ∃ fs' cs' : Array Value, v' = .func fn fs' cs' ∧ LR M fs.toList fs'.toList ∧ LR M cs.toList cs'.toList := by
  cases h with
  | func _ hf hF hc hC =>
    refine ⟨_, _, rfl, ⟨by simpa using hf, fun i hi => ?_⟩, ⟨by simpa using hc, fun i hi => ?_⟩⟩
    · have := hF i (by simpa using hi); simpa using this
    · have := hC i (by simpa using hi); simpa using this
theorem LR.func {M : Mp} (fn : Fn) {fs fs' cs cs' : List Value} (hf : LR M fs fs') (hc : LR M cs cs') : VR M (.func fn fs.toArray cs.toArray) (.func fn fs'.toArray cs'.toArray) := by
  refine .func fn (by simpa using hf.1) (fun i hi => ?_) (by simpa using hc.1) (fun i hi => ?_)
  · have := hf.2 i (by simpa using hi); simpa using this
  · have := hc.2 i (by simpa using hi); simpa using this
theorem VR.cells {M : Mp} {v v' : Value} (h : VR M v v') : LR M v.cells.toList v'.cells.toList := by
  cases h with
  | agg hs h one =>
    obtain ⟨ds, hd, hl, _⟩ := VR.agg_list (VR.agg hs h one)
    injection hd with hd
    subst hd
    simpa [Value.cells] using hl
  | _ => exact LR.cons (by constructor <;> assumption) (LR.nil M)

/-- one entry of a map -/
def ER (M : Mp) (e e' : MapEntry) : Prop := VR M e.key e'.key ∧ VR M e.val e'.val ∧ e.born = e'.born

abbrev EsR (M : Mp) (l l' : List MapEntry) : Prop := All2 (ER M) l l'

inductive OR (M : Mp) : Ob → Pl → Obj → Prop
  | ro {c : List Value} {e : TypeId} {p : Pl} {c' : Array Value} {fz : Nat × Nat} (hk : p.k = .ro) (hs : p.sh = 0) (h : LR M c c'.toList) (ho : c.all Value.oneCell' = true) : OR M (.cells c e .ro) p (.cells c' e fz)
  | rw {c : List Value} {e : TypeId} {p : Pl} {c' : Array Value} {fz : Nat × Nat} (hk : p.k = .rw) (hs : p.sh = 0) (h : LR M c c'.toList) (hz : fz.2 ≤ fz.1) (ho : c.all Value.oneCell' = true) : OR M (.cells c e .rw) p (.cells c' e fz)
  | opn {c : List Value} {e : TypeId} {p : Pl} {c' : Array Value} {fz : Nat × Nat} {tot sz : Nat} (hk : p.k = .opn tot sz) (ht : c'.size = tot) (hn : sz ≠ 0)
      (h : LR M c ((c'.toList.drop p.sh).take c.length)) (hz : fz.2 ≤ fz.1 ∨ c'.size ≤ fz.1) (ho : c.all Value.oneCell' = true) : OR M (.cells c e (.opn sz)) p (.cells c' e fz)
  | map {es : List MapEntry} {clock : Nat} {p : Pl} {es' : Array MapEntry} (hk : p.k = .rw) (h : EsR M es es'.toList) : OR M (.map es clock) p (.map es' clock)
  | inil {since : Nat} {seen : List Nat} {st : Nat} {p : Pl} (hk : p.k = .rw) (hs : p.sh = 0) : OR M (.iter none since seen st) p (.mapIter none since seen.toArray st)
  | iter {m since : Nat} {seen : List Nat} {st : Nat} {p q : Pl} (hk : p.k = .rw) (hs : p.sh = 0) (hm : M m = some q) : OR M (.iter (some m) since seen st) p (.mapIter (some q.b) since seen.toArray st)
  | sit {s : ByteArray} {pos : Nat} {p : Pl} (hk : p.k = .rw) (hs : p.sh = 0) : OR M (.sit s pos) p (.stringIter s pos)

def Ob.live : Ob → Bool
  | .dead => false
  | _ => true

structure HR (B : Nat) (M : Mp) (h : Hp) (w : World) : Prop where
  wf : ∀ id, h.next ≤ id → h.get id = none
  inHeap : ∀ id p, M id = some p → p.b < w.heap.size
  fresh : ∀ id p, M id = some p → id < h.next ∨ B ≤ id
  one : ∀ i j p q o o', M i = some p → M j = some q → h.get i = some o → h.get j = some o' → o.live = true → o'.live = true → p.b = q.b → i = j
  ob : ∀ id p o, M id = some p → h.get id = some o → o.live = true → ∃ x, w.heap[p.b]? = some x ∧ OR M o p x

/-- which blocks may be touched -/
def may (M : Mp) (h : Hp) (b : Nat) : Prop := ∃ id p o, M id = some p ∧ h.get id = some o ∧ o.live = true ∧ p.b = b ∧ p.k ≠ .ro

structure Ext (M : Mp) (h : Hp) (w : World) (M' : Mp) (h' : Hp) (w' : World) : Prop where
  le : M.le M'
  next : h.next ≤ h'.next
  size : w.heap.size ≤ w'.heap.size
  keep : ∀ b, b < w.heap.size → ¬ may M h b → w'.heap[b]? = w.heap[b]?
  touch : ∀ b, may M' h' b → b < w.heap.size → may M h b
  newb : ∀ id p, M' id = some p → M id = none → w.heap.size ≤ p.b ∨ may M h p.b
  range : ∀ id p, M' id = some p → M id = none → h.next ≤ id ∧ id < h'.next
  held : ∀ id, M id = none → id < h.next → h'.get id = h.get id
  os : w'.os = w.os
  out : w'.output = w.output
  tape : w'.tape = w.tape

theorem Ext.refl (M : Mp) (h : Hp) (w : World) : Ext M h w M h w :=
  ⟨Mp.le_refl M, Nat.le_refl _, Nat.le_refl _, fun _ _ _ => rfl, fun _ h _ => h, (fun _ _ h h' => by rw [h'] at h; cases h), (fun _ _ h h' => by rw [h'] at h; cases h), (fun _ _ _ => rfl), rfl, rfl, rfl⟩
theorem Ext.trans {M M' M'' : Mp} {h h' h'' : Hp} {w w' w'' : World} (e : Ext M h w M' h' w') (e' : Ext M' h' w' M'' h'' w'') : Ext M h w M'' h'' w'' where
  le := e.le.trans e'.le
  next := Nat.le_trans e.next e'.next
  size := Nat.le_trans e.size e'.size
  keep b hb hm := by
    rw [e'.keep b (Nat.lt_of_lt_of_le hb e.size) (fun hm' => hm (e.touch b hm' hb)), e.keep b hb hm]
  touch b hm hb := e.touch b (e'.touch b hm (Nat.lt_of_lt_of_le hb e.size)) hb
  newb id p hp hn := by
    cases hm : M' id with
    | some q =>
      have := e'.le _ _ hm
      rw [hp] at this; injection this with this; subst this
      exact e.newb id _ hm hn
    | none =>
      rcases e'.newb id p hp hm with hs | hs
      · exact .inl (Nat.le_trans e.size hs)
      · rcases Nat.lt_or_ge p.b w.heap.size with hl | hl
        · exact .inr (e.touch _ hs hl)
        · exact .inl hl
  range id p hp hn := by
    cases hm : M' id with
    | some q =>
      have := e.range id q hm hn
      exact ⟨this.1, Nat.lt_of_lt_of_le this.2 e'.next⟩
    | none =>
      have := e'.range id p hp hm
      exact ⟨Nat.le_trans e.next this.1, this.2⟩
  held id hn hlt := by
    have hn' : M' id = none := by
      cases hm : M' id with
      | none => rfl
      | some q => exact absurd (e.range id q hm hn).1 (by omega)
    rw [e'.held id hn' (Nat.lt_of_lt_of_le hlt e.next), e.held id hn hlt]
  os := e'.os.trans e.os
  out := e'.out.trans e.out
  tape := e'.tape.trans e.tape

/-- environments -/
structure EnvR (M : Mp) (e : Env) (a : Act) : Prop where
  vals : ∀ t, VR M (e.val t) (a.tmps.getD t undef)
  size : a.tmps.size = e.n
  defers : All2 (fun d d' : Deferred => ∃ f c c', d.target = .fn (.func f) c ∧ d'.target = .fn (.func f) c' ∧ LR M c.toList c'.toList ∧ LR M d.args.toList d'.args.toList) e.defers a.defers

end Go.AE
