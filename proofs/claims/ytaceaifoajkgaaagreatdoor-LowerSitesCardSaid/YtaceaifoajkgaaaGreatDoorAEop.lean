/- One operation, a row of operations. -/
import Derived.Test.YtaceaifoajkgaaaGreatDoorAEcopy
namespace Go.AE

/-- chains of panics -/
abbrev ChR (M : Mp) (l l' : List PanicEntry) : Prop := All2 (fun a b : PanicEntry => VR M a.v b.v ∧ a.recovered = b.recovered ∧ a.goexit = b.goexit) l l'

inductive OutR (M : Mp) : Out → Ending → Prop
  | ret {v v' : Value} (h : VR M v v') : OutR M (.ret v) (.returned v')
  | pan {c c' : List PanicEntry} (h : ChR M c c') : OutR M (.pan c) (.panicked c')

inductive ExR (M : Mp) : Ex → Exit → Prop
  | normal : ExR M .normal .normal
  | exit (id : Nat) : ExR M (.exit id) (.exit id)
  | ret : ExR M .ret .ret
  | pan {c c' : List PanicEntry} (h : ChR M c c') : ExR M (.pan c) (.panic c')

/-- a call, as an operation meets it -/
def UponOK (P : Program) (B : Nat) (f : FuncId) (args : List Value) (h : Hp) (out : Out) (h1 : Hp) : Prop :=
  ∀ (M : Mp) (w : World) (args' : Array Value), LR M args args'.toList → HR B M h w → ∀ (o : Oper) (a : Act) (K : Act → World → Prop) (Q : Exit → Act → World → Prop),
    (∀ M' w' e, Ext M h w M' h1 w' → HR B M' h1 w' → OutR M' out e → match e with
      | .returned v' => K (a.put o.dst v') w'
      | .panicked ch => Q (.panic ch) a w'
      | .outgrown => LetsOut Q) → o.upon P a K Q ((callFunc f args').run P w)

def CallsOK (P : Program) (B : Nat) (f : FuncId) (args : List Value) (h : Hp) (out : Out) (h1 : Hp) : Prop :=
  ∀ (M : Mp) (w : World) (args' : Array Value), LR M args args'.toList → HR B M h w →
    Calls P f args' w fun e w' => ∃ M', Ext M h w M' h1 w' ∧ HR B M' h1 w' ∧ OutR M' out e

abbrev DR (M : Mp) (d d' : Deferred) : Prop := ∃ f c c', d.target = .fn (.func f) c ∧ d'.target = .fn (.func f) c' ∧ LR M c.toList c'.toList ∧ LR M d.args.toList d'.args.toList

/-- environments at an end; behind a panic only what is sure -/
structure EnvP (M : Mp) (e : Env) (a : Act) : Prop where
  vals : ∀ t v, e.tmps.get t = some v → VR M v (a.tmps.getD t undef)
  defers : All2 (DR M) e.defers a.defers

def EndR (M : Mp) (ex : Ex) (e : Env) (a : Act) : Prop :=
  match ex with
  | .pan _ => EnvP M e a
  | _ => EnvR M e a

theorem EnvR.toP {M : Mp} {e : Env} {a : Act} (h : EnvR M e a) : EnvP M e a :=
  ⟨fun t v ht => by have := h.vals t; unfold Env.val at this; rw [ht] at this; exact this, h.defers⟩
theorem EnvR.toEnd {M : Mp} {e : Env} {a : Act} (ex : Ex) (h : EnvR M e a) : EndR M ex e a := by
  cases ex <;> first | exact h | exact h.toP

def CodeOK (P : Program) (B : Nat) (c : Code) (e : Env) (h : Hp) (ex : Ex) (e' : Env) (h' : Hp) : Prop :=
  ∀ (M : Mp) (a : Act) (w : World) (Q : Exit → Act → World → Prop), EnvR M e a → HR B M h w →
    (∀ M' a' w' x', Ext M h w M' h' w' → HR B M' h' w' → EndR M' ex e' a' → ExR M' ex x' → Q x' a' w') → c.wp P Q a w

structure CallOK (P : Program) (call : FuncId → List Value → Hp → Option (Out × Hp)) : Prop where
  next : ∀ f args h out h1, call f args h = some (out, h1) → h.next ≤ h1.next
  upon : ∀ f args h out h1, call f args h = some (out, h1) → ∀ B, h1.next ≤ B → UponOK P B f args h out h1

section
variable {G : Tabs} {P : Program} {B : Nat} {M : Mp} {h : Hp} {w : World}

def OpOK (P : Program) (B : Nat) (M : Mp) (h : Hp) (w : World) (a : Act) (o : Oper) : Res → Prop
  | .val v h1 => ∀ (K : Act → World → Prop) (Q : Exit → Act → World → Prop), (∀ M' v' w', Ext M h w M' h1 w' → HR B M' h1 w' → VR M' v v' → K (a.put o.dst v') w') → o.wp P a w K Q
  | .pan v h1 => ∀ (K : Act → World → Prop) (Q : Exit → Act → World → Prop), (∀ M' v' w', Ext M h w M' h1 w' → HR B M' h1 w' → VR M' v v' → Q (.panic [{ v := v', recovered := false }]) a w') → o.wp P a w K Q
  | .dfr d => ∀ (K : Act → World → Prop) (Q : Exit → Act → World → Prop), (∀ d', DR M d d' → K ({ a with defers := d' :: a.defers }.put o.dst undef) w) → o.wp P a w K Q

def Res.next (h : Hp) : Res → Nat
  | .val _ h1 => h1.next
  | .pan _ h1 => h1.next
  | .dfr _ => h.next

theorem OpOK.val {a : Act} {o : Oper} {v : Value} {h1 : Hp} {M' : Mp} {v' : Value} {w' : World} (hr : (execOp a.eval o).run P w = .ok (.value v') w') (E : Ext M h w M' h1 w') (H : HR B M' h1 w') (V : VR M' v v') :
    OpOK P B M h w a o (.val v h1) := by
  intro K Q hk
  show o.upon P a K Q ((execOp a.eval o).run P w)
  rw [hr, Oper.upon_value]
  exact hk M' v' w' E H V
theorem OpOK.skip {a : Act} {o : Oper} {h1 : Hp} {M' : Mp} {w' : World} (hr : (execOp a.eval o).run P w = .ok .skip w') (E : Ext M h w M' h1 w') (H : HR B M' h1 w') :
    OpOK P B M h w a o (.val undef h1) := by
  intro K Q hk
  show o.upon P a K Q ((execOp a.eval o).run P w)
  rw [hr, Oper.upon_skip]
  exact hk M' _ w' E H (.undef M')

theorem outRes_ok {call : FuncId → List Value → Hp → Option (Out × Hp)} (hC : CallOK P call) {f : FuncId} {args : List Value} {res : Res} (hc : ((call f args h).bind outRes) = some res) (H : HR B M h w) (hB : res.next h ≤ B)
    {args' : Array Value} (hl : LR M args args'.toList) {a : Act} {o : Oper} (hrun : (execOp a.eval o).run P w = (callFunc f args').run P w) : OpOK P B M h w a o res := by
  obtain ⟨⟨out, h1⟩, hc1, hc2⟩ := bind_some hc
  unfold outRes at hc2
  split at hc2
  · rename_i v hh heq
    injection heq with e1 e2; subst e1; subst e2
    injection hc2 with hc2; subst hc2
    intro K Q hk
    show o.upon P a K Q ((execOp a.eval o).run P w)
    rw [hrun]
    refine hC.upon _ _ _ _ _ hc1 B hB M w args' hl H o a K Q ?_
    intro M' w' e E H' hO
    cases hO with
    | ret hv => exact hk M' _ w' E H' hv
  · rename_i en hh heq
    injection heq with e1 e2; subst e1; subst e2
    obtain ⟨⟨hrec, hgo⟩, hc2⟩ := if_some hc2
    injection hc2 with hc2; subst hc2
    intro K Q hk
    show o.upon P a K Q ((execOp a.eval o).run P w)
    rw [hrun]
    refine hC.upon _ _ _ _ _ hc1 B hB M w args' hl H o a K Q ?_
    intro M' w' e E H' hO
    cases hO with
    | pan hch =>
      obtain ⟨en', rfl, hv, h2, h3⟩ := hch.one
      have : en' = { v := en'.v, recovered := false } := by
        obtain ⟨v1, r1, g1⟩ := en'
        simp only at h2 h3
        rw [hrec] at h2; rw [hgo] at h3
        subst h2; subst h3; rfl
      rw [this]
      exact hk M' _ w' E H' hv
  · cases hc2

theorem arr_append3 (a b c : Array Value) : (a ++ b ++ c).toList = a.toList ++ b.toList ++ c.toList := by simp

end
end Go.AE
