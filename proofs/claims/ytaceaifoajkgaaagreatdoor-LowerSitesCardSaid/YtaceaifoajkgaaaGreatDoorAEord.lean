/- The order of a region: what stands before what; what 'drawOk' says. -/
import Derived.Test.YtaceaifoajkgaaaGreatDoorAErow
import Derived.CheckFast
namespace Go.AE

inductive Below (ops : Array Oper) : Nat → Nat → Prop
  | edge {k : Nat} {o : Oper} {e : Edge} (ho : ops[k]? = some o) (he : e ∈ o.after) (hb : Region.binds .any e = true) : Below ops e.on k
  | step {i k : Nat} {o : Oper} {e : Edge} (ho : ops[k]? = some o) (he : e ∈ o.after) (hb : Region.binds .any e = true) (h : Below ops i e.on) : Below ops i k

/-- what is listed has all before it listed -/
def Closed (ops : Array Oper) (X : Nat → Prop) : Prop := ∀ k o e, X k → ops[k]? = some o → e ∈ o.after → Region.binds .any e = true → X e.on

theorem Below.closed {ops : Array Oper} {X : Nat → Prop} (hX : Closed ops X) {i k : Nat} (h : Below ops i k) : (∀ o e, ops[k]? = some o → e ∈ o.after → Region.binds .any e = true → X e.on) → X i := by
  induction h with
  | edge ho he hb => exact fun hk => hk _ _ ho he hb
  | step ho he hb _ ih => exact fun hk => ih fun o e ho' he' hb' => hX _ _ _ (hk _ _ ho he hb) ho' he' hb'

theorem one_bit (look : Nat → Nat) (o : Oper) (i : Nat) : (CheckFast.one look o).testBit i = true → ∃ e ∈ o.after, Region.binds .any e = true ∧ (e.on = i ∨ (look e.on).testBit i = true) := by
  unfold CheckFast.one
  rw [← Array.foldl_toList]
  have key : ∀ (l : List Edge) (s : Nat), (l.foldl (fun s e => if Region.binds .any e then s ||| 2 ^ e.on ||| look e.on else s) s).testBit i = true →
      s.testBit i = true ∨ ∃ e ∈ l, Region.binds .any e = true ∧ (e.on = i ∨ (look e.on).testBit i = true) := by
    intro l
    induction l with
    | nil => intro s h; exact .inl h
    | cons e l ih =>
      intro s h
      rw [List.foldl_cons] at h
      rcases ih _ h with h1 | ⟨e', he', h2⟩
      · cases hb : Region.binds .any e with
        | false => rw [hb] at h1; exact .inl h1
        | true =>
          rw [hb] at h1
          simp only [if_true, Nat.testBit_or, Bool.or_eq_true] at h1
          rcases h1 with (h1 | h1) | h1
          · exact .inl h1
          · refine .inr ⟨e, List.mem_cons_self, hb, .inl ?_⟩
            rw [Nat.testBit_two_pow] at h1
            exact of_decide_eq_true h1
          · exact .inr ⟨e, List.mem_cons_self, hb, .inr h1⟩
      · exact .inr ⟨e', List.mem_cons_of_mem _ he', h2⟩
  intro h
  rcases key _ _ h with h1 | ⟨e, he, h2⟩
  · simp at h1
  · exact ⟨e, by simpa using he, h2⟩

theorem before_below (ops : Array Oper) (k i : Nat) (h : ((Region.before ops).getD k 0).testBit i = true) : Below ops i k := by
  have key : ∀ (l : List Oper) (A : Array Nat), ops.toList.drop A.size = l → (∀ k i, (A.getD k 0).testBit i = true → Below ops i k) →
      ∀ k i, ((l.foldl (fun acc o => acc.push (CheckFast.one (fun i => acc.getD i 0) o)) A).getD k 0).testBit i = true → Below ops i k := by
    intro l
    induction l with
    | nil => intro A _ hA; exact hA
    | cons o l ih =>
      intro A hl hA
      rw [List.foldl_cons]
      have ho : ops[A.size]? = some o := by
        have : (ops.toList.drop A.size)[0]? = some o := by rw [hl]; rfl
        rw [List.getElem?_drop] at this
        simpa using this
      refine ih _ ?_ ?_
      · rw [Array.size_push]
        have := congrArg List.tail hl
        simpa [List.tail_drop] using this
      · intro k i hk
        by_cases e : k = A.size
        · subst e
          have : (A.push (CheckFast.one (fun i => A.getD i 0) o)).getD A.size 0 = CheckFast.one (fun i => A.getD i 0) o := by simp
          rw [this] at hk
          obtain ⟨e, he, hb, h1 | h1⟩ := one_bit _ _ _ hk
          · subst h1; exact .edge ho he hb
          · exact .step ho he hb (hA _ _ h1)
        · have : (A.push (CheckFast.one (fun i => A.getD i 0) o)).getD k 0 = A.getD k 0 := by
            simp only [Array.getD_eq_getD_getElem?, Array.getElem?_push, if_neg e]
          rw [this] at hk
          exact hA _ _ hk
  refine key ops.toList #[] (by simp) (by simp) k i ?_
  unfold Region.before at h
  rw [← Array.foldl_toList] at h
  exact h

def Ord (ops : Array Oper) (i k : Nat) : Prop := (i < k → Below ops i k) ∧ (k < i → Below ops k i)

theorem ordA_ord {ops : Array Oper} {i k : Nat} (h : ordA (Region.before ops) i k = true) : Ord ops i k := by
  unfold ordA at h
  have := before_below _ _ _ h
  refine ⟨fun hl => ?_, fun hl => ?_⟩
  · rwa [Nat.max_eq_right (by omega), Nat.min_eq_left (by omega)] at this
  · rwa [Nat.max_eq_left (by omega), Nat.min_eq_right (by omega)] at this

structure Pairs (info : RegInfo) (ops : Array Oper) (i k : Nat) (o p : Oper) : Prop where
  look : ∀ d, p.dst = some d → d ∈ looks ops o → Ord ops i k
  dst : ∀ d, o.dst = some d → p.dst ≠ some d
  eff : isEff p.op = true → isEff o.op = true → Ord ops i k
  rd : isEff p.op = true → reads o.op = true → Ord ops i k ∨ k ∈ looseOf info i
  last : i ∈ info.last → i < k → Below ops i k

theorem drawOk_spec {info : RegInfo} {ops : Array Oper} (h : drawOk info ops = true) :
    (∀ i o e, ops[i]? = some o → e ∈ o.after → Region.binds .any e = true → e.on < i) ∧
    ∀ i k o p, ops[i]? = some o → ops[k]? = some p → i ≠ k → Pairs info ops i k o p := by
  unfold drawOk at h
  have mem : ∀ i o, ops[i]? = some o → (o, i) ∈ ops.toList.zipIdx := by
    intro i o ho
    rw [List.mem_zipIdx_iff_getElem?]
    simpa using ho
  simp only [List.all_eq_true] at h
  refine ⟨fun i o e ho he hb => ?_, fun i k o p ho hp hne => ?_⟩
  · have h1 := h _ (mem i o ho)
    simp only [Bool.and_eq_true, List.all_eq_true] at h1
    have h2 := h1.1 e (by simpa using he)
    simp only [Bool.or_eq_true, hb, Bool.not_true, Bool.false_eq_true, false_or, decide_eq_true_eq] at h2
    exact h2
  · have h1 := h _ (mem i o ho)
    simp only [Bool.and_eq_true, List.all_eq_true] at h1
    have h2 := h1.2 _ (mem k p hp)
    have hbq : Nat.beq i k = false := by
      cases hb : Nat.beq i k with
      | false => rfl
      | true => exact absurd (Nat.eq_of_beq_eq_true hb) hne
    simp only [hbq, Bool.false_or, Bool.and_eq_true] at h2
    obtain ⟨⟨⟨ha, hb⟩, hc⟩, hd⟩ := h2
    refine ⟨fun d hd1 hd2 => ?_, fun d h1 h2 => ?_, fun h1 h2 => ?_, fun h1 h2 => ?_, fun h1 h2 => ?_⟩
    · rw [hd1] at ha
      simp only [Bool.or_eq_true, Bool.not_eq_true', List.contains_eq_mem, decide_eq_false_iff_not] at ha
      exact ordA_ord (ha.resolve_left (fun h => h hd2))
    · rw [h1, h2] at hb
      simp only [Bool.not_eq_true'] at hb
      have : Nat.beq d d = true := Nat.beq_refl d
      rw [this] at hb; cases hb
    · rw [h1] at hc
      simp only [Bool.not_true, Bool.false_or, Bool.and_eq_true, h2] at hc
      exact ordA_ord hc.1
    · rw [h1] at hc
      simp only [Bool.not_true, Bool.false_or, Bool.and_eq_true, h2, Bool.or_eq_true, List.contains_eq_mem, decide_eq_true_eq] at hc
      rcases hc.2 with h | h
      · exact .inl (ordA_ord h)
      · exact .inr h
    · simp only [List.contains_eq_mem, h1, h2, decide_true, Bool.and_self, Bool.not_true, Bool.false_or] at hd
      exact (ordA_ord hd).1 h2

end Go.AE
