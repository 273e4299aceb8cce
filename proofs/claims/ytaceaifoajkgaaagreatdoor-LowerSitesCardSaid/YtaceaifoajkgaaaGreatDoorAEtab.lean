/- Tables of a program's types and functions, and what they must satisfy, asked of each entry. -/
import Derived.Test.YtaceaifoajkgaaaGreatDoorAEke
namespace Go.AE

def Tr.AllA {α : Type} (Q : Nat → α → Prop) : Tr α → Nat → Nat → Prop
  | .nil, _, _ => True
  | .node l v r, p, s => (match v with | some x => Q p x | none => True) ∧ Tr.AllA Q l (p + s) (2 * s) ∧ Tr.AllA Q r (p + 2 * s) (2 * s)

theorem Tr.AllA.get {α : Type} {Q : Nat → α → Prop} : ∀ {t : Tr α} {p s n : Nat} {x : α}, t.AllA Q p s → t.get n = some x → Q (p + s * n) x
  | .nil, p, s, n, x, _, hx => by cases hx
  | .node l v r, p, s, 0, x, h, hx => by
    have hx : v = some x := hx
    subst hx
    simpa using h.1
  | .node l v r, p, s, n + 1, x, h, hx => by
    rw [Tr.get_succ] at hx
    rcases Nat.mod_two_eq_zero_or_one n with hn | hn
    · rw [hn] at hx
      have := h.2.1.get (n := n / 2) hx
      have e : p + s + 2 * s * (n / 2) = p + s * (n + 1) := by
        have h3 : n = 2 * (n / 2) := by omega
        have h4 : 2 * s * (n / 2) = s * (2 * (n / 2)) := by rw [Nat.mul_comm 2 s, Nat.mul_assoc]
        rw [h4, ← h3, Nat.mul_add]; omega
      rwa [e] at this
    · rw [hn] at hx
      have := h.2.2.get (n := n / 2) hx
      have e : p + 2 * s + 2 * s * (n / 2) = p + s * (n + 1) := by
        have h3 : n = 2 * (n / 2) + 1 := by omega
        have h4 : 2 * s * (n / 2) = s * (2 * (n / 2)) := by rw [Nat.mul_comm 2 s, Nat.mul_assoc]
        have h5 : s * (n + 1) = s * (2 * (n / 2)) + 2 * s := by
          conv => lhs; rw [h3]
          rw [show 2 * (n / 2) + 1 + 1 = 2 * (n / 2) + 2 by omega, Nat.mul_add]; omega
        rw [h4, h5]; omega
      rwa [e] at this

def Tr.allB {α : Type} (q : Nat → α → Bool) : Tr α → Nat → Nat → Bool
  | .nil, _, _ => true
  | .node l v r, p, s => (match v with | some x => q p x | none => true) && (Tr.allB q l (p + s) (2 * s) && Tr.allB q r (p + 2 * s) (2 * s))

theorem Tr.allB.all {α : Type} {q : Nat → α → Bool} : ∀ {t : Tr α} {p s : Nat}, t.allB q p s = true → t.AllA (fun n x => q n x = true) p s
  | .nil, _, _, _ => trivial
  | .node l v r, p, s, h => by
    simp only [Tr.allB, Bool.and_eq_true] at h
    refine ⟨?_, Tr.allB.all h.2.1, Tr.allB.all h.2.2⟩
    cases v with
    | none => trivial
    | some x => exact h.1
theorem Tr.allB.get {α : Type} {q : Nat → α → Bool} {t : Tr α} {n : Nat} {x : α} (h : t.allB q 0 1 = true) (hx : t.get n = some x) : q n x = true := by
  have := Tr.AllA.get (Tr.allB.all h) hx
  simpa using this
theorem Tr.AllA.at {α : Type} {Q : Nat → α → Prop} {t : Tr α} {n : Nat} {x : α} (h : t.AllA Q 0 1) (hx : t.get n = some x) : Q n x := by
  have := Tr.AllA.get h hx
  simpa using this

noncomputable def tabs (ty : Tr (TypeInfo × TypeDesc)) (fn : Tr Func) (rg : Tr (List (Nat × RegInfo))) : Tabs :=
  ⟨fun t => (ty.get t).map Prod.snd, fun t => (ty.get t).map Prod.fst, fun f => fn.get f, fun f id => (rg.get f).bind fun l => (l.find? fun p => Nat.beq p.1 id).map Prod.snd, fun _ => none⟩

theorem info_of {P : Program} (t : TypeId) (i : TypeInfo) (h : P.types[t]? = some i) : P.info? t = some i := by
  unfold Tables.info?
  have hlt : t < P.types.size := (Array.getElem?_eq_some_iff.1 h).1
  rw [if_pos hlt]
  exact h

def isSome' {α : Type} : Option α → Bool
  | some _ => true
  | none => false

/-- what is asked of one type -/
noncomputable def tyOk (P : Program) (ty : Tr (TypeInfo × TypeDesc)) (t : Nat) (x : TypeInfo × TypeDesc) : Bool :=
  (match x.1.zero with
   | some z => plainC z && (Nat.beq z.cells.toList.length x.1.size && (z.cells.toList.all Value.oneCell' && fits z))
   | none => true) &&
  (match x.2 with
   | .struct fs => (bif P.stoodInHeld t then false else true) && fs.toList.all fun f => isSome' (ty.get f.type)
   | _ => true)
noncomputable def fnOk (G : Tabs) (f : Nat) (fn : Func) : Bool := match fn.body with | some c => codeOk G f c | none => true

theorem tabs_fits {P : Program} {ty : Tr (TypeInfo × TypeDesc)} {fn : Tr Func} {rg : Tr (List (Nat × RegInfo))}
    (hty : ty.AllA (fun t x => P.types[t]? = some x.1 ∧ P.underlying t = some x.2) 0 1)
    (hfn : fn.AllA (fun f x => P.funcs[f]? = some x ∧ ∀ args w, (callFunc f args).run P w = .ok (.enter f args) w) 0 1)
    (hinfo : ∀ t i, P.types[t]? = some i → P.info? t = some i)
    (htok : ty.allB (tyOk P ty) 0 1 = true) (hfok : fn.allB (fnOk (tabs ty fn rg)) 0 1 = true) (hmix : P.follows .mixedOrders = true) : (tabs ty fn rg).Fits3 P := by
  have T : ∀ t y, (ty.get t).map Prod.snd = some y → ∃ x, ty.get t = some x ∧ x.2 = y := by
    intro t y h
    obtain ⟨x, h1, h2⟩ := map_some h
    exact ⟨x, h1, h2⟩
  have I : ∀ t y, (ty.get t).map Prod.fst = some y → ∃ x, ty.get t = some x ∧ x.1 = y := by
    intro t y h
    obtain ⟨x, h1, h2⟩ := map_some h
    exact ⟨x, h1, h2⟩
  have S : ∀ t fs, (tabs ty fn rg).und t = some (.struct fs) → P.stoodInHeld t = false ∧ ∀ f ∈ fs.toList, ∃ x, ty.get f.type = some x := by
    intro t fs h
    obtain ⟨x, h1, h2⟩ := T t _ h
    have h3 := Tr.allB.get htok h1
    unfold tyOk at h3
    rw [h2] at h3
    simp only [Bool.and_eq_true, List.all_eq_true] at h3
    refine ⟨?_, fun f hf => ?_⟩
    · cases hb : P.stoodInHeld t with
      | false => rfl
      | true => rw [hb] at h3; cases h3.2.1
    · have := h3.2.2 f hf
      cases hg : ty.get f.type with
      | some x => exact ⟨x, rfl⟩
      | none => rw [hg] at this; cases this
  refine ⟨⟨⟨?_, ?_, ?_, ?_⟩, ?_⟩, ?_, ?_, hmix, ?_⟩
  · intro t d h
    obtain ⟨x, h1, rfl⟩ := T t d h
    exact (hty.at h1).2
  · intro t fs h; exact (S t fs h).1
  · intro t i h
    obtain ⟨x, h1, rfl⟩ := I t i h
    exact hinfo _ _ (hty.at h1).1
  · intro t i z h hz
    obtain ⟨x, h1, rfl⟩ := I t i h
    have h3 := Tr.allB.get htok h1
    unfold tyOk at h3
    rw [hz] at h3
    simp only [Bool.and_eq_true] at h3
    obtain ⟨⟨k1, k2, k3, k4⟩, _⟩ := h3
    refine ⟨plainC_VR k1, ?_, k3, k4⟩
    have := Nat.eq_of_beq_eq_true k2
    simpa using this
  · intro t fs h f hf
    obtain ⟨x, hx⟩ := (S t fs h).2 f hf
    exact ⟨x.1, hinfo _ _ (hty.at hx).1⟩
  · intro f x h; exact hfn.at h
  · intro f x c h hc
    have h3 := Tr.allB.get hfok h
    unfold fnOk at h3
    rw [hc] at h3
    exact h3
  · intro f s args h v h' hs
    cases hs

end Go.AE
