/- The evaluator's calls, rows of operations, and regions whose order is drawn, are sound. -/
import Derived.Test.YtkkohgaaemgojaaGreatDoorAEb
import Derived.CheckFast
namespace Go.AE

/-- chains of panics -/
abbrev ChR (M : Mp) (l l' : List PanicEntry) : Prop := All2 (fun a b : PanicEntry => VR M a.v b.v ∧ a.recovered = b.recovered ∧ a.goexit = b.goexit) l l'

inductive OutR (M : Mp) : Out → Ending → Prop
  | ret {v v' : Value} (h : VR M v v') : OutR M (.ret v) (.returned v')
  | pan {c c' : List PanicEntry} (h : ChR M c c') : OutR M (.pan c) (.panicked c')

inductive ExR (M : Mp) : Ex → Exit → Prop
  | normal : ExR M .normal .normal
  | exit (id : Nat) : ExR M (.exit id) (.exit id)
  | ret : ExR M .ret .ret
  | pan {c c' : List PanicEntry} (h : ChR M c c') : ExR M (.pan c) (.panic c')

/-- a call, as an operation meets it -/
def UponOK (P : Program) (B : Nat) (f : FuncId) (args : List Value) (h : Hp) (out : Out) (h1 : Hp) : Prop :=
  ∀ (M : Mp) (w : World) (args' : Array Value), LR M args args'.toList → HR B M h w → ∀ (o : Oper) (a : Act) (K : Act → World → Prop) (Q : Exit → Act → World → Prop),
    (∀ M' w' e, Ext M h w M' h1 w' → HR B M' h1 w' → OutR M' out e → match e with
      | .returned v' => K (a.put o.dst v') w'
      | .panicked ch => Q (.panic ch) a w'
      | .outgrown => LetsOut Q) → o.upon P a K Q ((callFunc f args').run P w)

def CallsOK (P : Program) (B : Nat) (f : FuncId) (args : List Value) (h : Hp) (out : Out) (h1 : Hp) : Prop :=
  ∀ (M : Mp) (w : World) (args' : Array Value), LR M args args'.toList → HR B M h w →
    Calls P f args' w fun e w' => ∃ M', Ext M h w M' h1 w' ∧ HR B M' h1 w' ∧ OutR M' out e

abbrev DR (M : Mp) (d d' : Deferred) : Prop := ∃ f c c', d.target = .fn (.func f) c ∧ d'.target = .fn (.func f) c' ∧ LR M c.toList c'.toList ∧ LR M d.args.toList d'.args.toList

/-- environments at an end; behind a panic only what is sure -/
structure EnvP (M : Mp) (e : Env) (a : Act) : Prop where
  vals : ∀ t v, e.tmps.get t = some v → VR M v (a.tmps.getD t undef)
  defers : All2 (DR M) e.defers a.defers

def EndR (M : Mp) (ex : Ex) (e : Env) (a : Act) : Prop :=
  match ex with
  | .pan _ => EnvP M e a
  | _ => EnvR M e a

theorem EnvR.toP {M : Mp} {e : Env} {a : Act} (h : EnvR M e a) : EnvP M e a :=
  ⟨fun t v ht => by have := h.vals t; unfold Env.val at this; rw [ht] at this; exact this, h.defers⟩
theorem EnvR.toEnd {M : Mp} {e : Env} {a : Act} (ex : Ex) (h : EnvR M e a) : EndR M ex e a := by
  cases ex <;> first | exact h | exact h.toP

def CodeOK (P : Program) (B : Nat) (c : Code) (e : Env) (h : Hp) (ex : Ex) (e' : Env) (h' : Hp) : Prop :=
  ∀ (M : Mp) (a : Act) (w : World) (Q : Exit → Act → World → Prop), EnvR M e a → HR B M h w →
    (∀ M' a' w' x', Ext M h w M' h' w' → HR B M' h' w' → EndR M' ex e' a' → ExR M' ex x' → Q x' a' w') → c.wp P Q a w

structure CallOK (P : Program) (call : FuncId → List Value → Hp → Option (Out × Hp)) : Prop where
  next : ∀ f args h out h1, call f args h = some (out, h1) → h.next ≤ h1.next
  upon : ∀ f args h out h1, call f args h = some (out, h1) → ∀ B, h1.next ≤ B → UponOK P B f args h out h1

section
variable {G : Tabs} {P : Program} {B : Nat} {M : Mp} {h : Hp} {w : World}

def OpOK (P : Program) (B : Nat) (M : Mp) (h : Hp) (w : World) (a : Act) (o : Oper) : Res → Prop
  | .val v h1 => ∀ (K : Act → World → Prop) (Q : Exit → Act → World → Prop), (∀ M' v' w', Ext M h w M' h1 w' → HR B M' h1 w' → VR M' v v' → K (a.put o.dst v') w') → o.wp P a w K Q
  | .pan v h1 => ∀ (K : Act → World → Prop) (Q : Exit → Act → World → Prop), (∀ M' v' w', Ext M h w M' h1 w' → HR B M' h1 w' → VR M' v v' → Q (.panic [{ v := v', recovered := false }]) a w') → o.wp P a w K Q
  | .dfr d => ∀ (K : Act → World → Prop) (Q : Exit → Act → World → Prop), (∀ d', DR M d d' → K ({ a with defers := d' :: a.defers }.put o.dst undef) w) → o.wp P a w K Q

def Res.next (h : Hp) : Res → Nat
  | .val _ h1 => h1.next
  | .pan _ h1 => h1.next
  | .dfr _ => h.next

theorem OpOK.val {a : Act} {o : Oper} {v : Value} {h1 : Hp} {M' : Mp} {v' : Value} {w' : World} (hr : (execOp a.eval o).run P w = .ok (.value v') w') (E : Ext M h w M' h1 w') (H : HR B M' h1 w') (V : VR M' v v') :
    OpOK P B M h w a o (.val v h1) := by
  intro K Q hk
  show o.upon P a K Q ((execOp a.eval o).run P w)
  rw [hr, Oper.upon_value]
  exact hk M' v' w' E H V
theorem OpOK.skip {a : Act} {o : Oper} {h1 : Hp} {M' : Mp} {w' : World} (hr : (execOp a.eval o).run P w = .ok .skip w') (E : Ext M h w M' h1 w') (H : HR B M' h1 w') :
    OpOK P B M h w a o (.val undef h1) := by
  intro K Q hk
  show o.upon P a K Q ((execOp a.eval o).run P w)
  rw [hr, Oper.upon_skip]
  exact hk M' _ w' E H (.undef M')

theorem outRes_ok {call : FuncId → List Value → Hp → Option (Out × Hp)} (hC : CallOK P call) {f : FuncId} {args : List Value} {res : Res} (hc : ((call f args h).bind outRes) = some res) (H : HR B M h w) (hB : res.next h ≤ B)
    {args' : Array Value} (hl : LR M args args'.toList) {a : Act} {o : Oper} (hrun : (execOp a.eval o).run P w = (callFunc f args').run P w) : OpOK P B M h w a o res := by
  obtain ⟨⟨out, h1⟩, hc1, hc2⟩ := bind_some hc
  unfold outRes at hc2
  split at hc2
  · rename_i v hh heq
    injection heq with e1 e2; subst e1; subst e2
    injection hc2 with hc2; subst hc2
    intro K Q hk
    show o.upon P a K Q ((execOp a.eval o).run P w)
    rw [hrun]
    refine hC.upon _ _ _ _ _ hc1 B hB M w args' hl H o a K Q ?_
    intro M' w' e E H' hO
    cases hO with
    | ret hv => exact hk M' _ w' E H' hv
  · rename_i en hh heq
    injection heq with e1 e2; subst e1; subst e2
    obtain ⟨⟨hrec, hgo⟩, hc2⟩ := if_some hc2
    injection hc2 with hc2; subst hc2
    intro K Q hk
    show o.upon P a K Q ((execOp a.eval o).run P w)
    rw [hrun]
    refine hC.upon _ _ _ _ _ hc1 B hB M w args' hl H o a K Q ?_
    intro M' w' e E H' hO
    cases hO with
    | pan hch =>
      obtain ⟨en', rfl, hv, h2, h3⟩ := hch.one
      have : en' = { v := en'.v, recovered := false } := by
        obtain ⟨v1, r1, g1⟩ := en'
        simp only at h2 h3
        rw [hrec] at h2; rw [hgo] at h3
        subst h2; subst h3; rfl
      rw [this]
      exact hk M' _ w' E H' hv
  · cases hc2

theorem arr_append3 (a b c : Array Value) : (a ++ b ++ c).toList = a.toList ++ b.toList ++ c.toList := by simp

end
end Go.AE

namespace Go.AE
section
variable {G : Tabs} {P : Program} {B : Nat} {M : Mp} {h : Hp} {w : World}

/- names are only added -/
theorem next_store {t : TypeId} {a x : Value} {h1 : Hp} (hs : aStore G h t a x = some h1) : h.next ≤ h1.next := by
  unfold aStore at hs
  split at hs
  · split at hs
    · split at hs
      · cases hs
      · obtain ⟨n, _, hs⟩ := bind_some hs
        obtain ⟨_, hs⟩ := if_some hs
        obtain ⟨r, _, hs⟩ := map_some hs
        subst hs; exact Nat.le_refl _
    · cases hs
  · cases hs
theorem next_update {t : TypeId} {m k x : Value} {h1 : Hp} (hs : aUpdate G h t m k x = some h1) : h.next ≤ h1.next := by
  unfold aUpdate at hs
  split at hs
  · split at hs
    · obtain ⟨f, _, hs⟩ := bind_some hs
      split at hs
      · obtain ⟨_, hs⟩ := bif_some hs
        injection hs with hs; subst hs; exact Nat.le_refl _
      · injection hs with hs; subst hs; exact Nat.le_refl _
    · cases hs
  · cases hs
theorem next_entryStore {m s x : Value} {h1 : Hp} (hs : aEntryStore h m s x = some h1) : h.next ≤ h1.next := by
  unfold aEntryStore at hs
  split at hs
  · split at hs
    · obtain ⟨f, _, hs⟩ := map_some hs
      subst hs; exact Nat.le_refl _
    · cases hs
  · cases hs
theorem val_mapEntry {t : TypeId} {m k : Value} {res : Res} (hs : aMapEntry G h t m k = some res) : ∃ v h1, res = .val v h1 ∧ h.next ≤ h1.next := by
  unfold aMapEntry at hs
  split at hs
  · split at hs
    · obtain ⟨f, _, hs⟩ := bind_some hs
      split at hs
      · obtain ⟨_, hs⟩ := bif_some hs
        injection hs with hs; subst hs; exact ⟨_, _, rfl, Nat.le_refl _⟩
      · obtain ⟨z, _, hs⟩ := map_some hs
        subst hs; exact ⟨_, _, rfl, Nat.le_refl _⟩
    · cases hs
  · cases hs
theorem val_delete {t : TypeId} {m k : Value} {res : Res} (hs : aDelete G h t m k = some res) : ∃ v h1, res = .val v h1 ∧ h.next ≤ h1.next := by
  unfold aDelete at hs
  split at hs
  · split at hs
    · obtain ⟨f, _, hs⟩ := map_some hs
      split at hs <;> (subst hs; exact ⟨_, _, rfl, Nat.le_refl _⟩)
    · cases hs
  · cases hs
theorem val_range {t : TypeId} {m : Value} {res : Res} (hs : aRange G h t m = some res) : ∃ v h1, res = .val v h1 ∧ h.next ≤ h1.next := by
  unfold aRange at hs
  obtain ⟨o, _, hs⟩ := map_some hs
  subst hs; exact ⟨_, _, rfl, by rw [Hp.next_new]; omega⟩
theorem val_next {it : Value} {s : Bool} {res : Res} (hs : aNext h it s = some res) : ∃ v h1, res = .val v h1 ∧ h.next ≤ h1.next := by
  unfold aNext at hs
  split at hs
  · split at hs
    · injection hs with hs; subst hs; exact ⟨_, _, rfl, Nat.le_refl _⟩
    · split at hs
      · simp only at hs
        split at hs
        · cases hs
        · split at hs
          · injection hs with hs; subst hs; exact ⟨_, _, rfl, Nat.le_refl _⟩
          · obtain ⟨_, hs⟩ := if_some hs
            injection hs with hs; subst hs; exact ⟨_, _, rfl, Nat.le_refl _⟩
          · cases hs
      · cases hs
    · cases hs
  · cases hs
theorem val_copy {t : TypeId} {d s : Value} {res : Res} (hs : aCopy G h t d s = some res) : ∃ v h1, res = .val v h1 ∧ h.next ≤ h1.next := by
  unfold aCopy at hs
  split at hs
  · obtain ⟨n, _, hs⟩ := bind_some hs
    split at hs
    · obtain ⟨kl, _, hs⟩ := bind_some hs
      simp only at hs
      split at hs
      · cases hk : Nat.beq kl.1 0 with
        | true => rw [hk] at hs; injection hs with hs; subst hs; exact ⟨_, _, rfl, Nat.le_refl _⟩
        | false =>
          rw [hk] at hs
          simp only [cond_false] at hs
          split at hs
          · cases hs
          · obtain ⟨r, _, hs⟩ := map_some hs
            subst hs; exact ⟨_, _, rfl, Nat.le_refl _⟩
      · cases hs
    · cases hs
  · cases hs
theorem val_clear {t : TypeId} {x : Value} {res : Res} (hs : aClear G h t x = some res) : ∃ v h1, res = .val v h1 ∧ h.next ≤ h1.next := by
  unfold aClear at hs
  split at hs
  · rename_i e b o len cap hu
    obtain ⟨z, _, hs⟩ := bind_some hs
    cases hk : Nat.beq len 0 with
    | true => rw [hk] at hs; injection hs with hs; subst hs; exact ⟨_, _, rfl, Nat.le_refl _⟩
    | false =>
      rw [hk] at hs
      simp only [cond_false] at hs
      split at hs
      · split at hs
        · cases hs
        · obtain ⟨r, _, hs⟩ := map_some hs
          subst hs; exact ⟨_, _, rfl, Nat.le_refl _⟩
      · cases hs
  · split at hs
    · injection hs with hs; subst hs; exact ⟨_, _, rfl, Nat.le_refl _⟩
    · cases hs
  · cases hs
theorem val_append {t : TypeId} {s x : Value} {res : Res} (hs : aAppend G h t s x = some res) : ∃ v h1, res = .val v h1 ∧ h.next ≤ h1.next := by
  unfold aAppend at hs
  split at hs
  · obtain ⟨i, _, hs⟩ := bind_some hs
    split at hs
    · cases hs
    · obtain ⟨kn, _, hs⟩ := bind_some hs
      simp only at hs
      split at hs
      · split at hs
        · injection hs with hs; subst hs; exact ⟨_, _, rfl, Nat.le_refl _⟩
        · obtain ⟨_, hs⟩ := if_some hs
          injection hs with hs; subst hs; exact ⟨_, _, rfl, by rw [Hp.next_new]; omega⟩
      · split at hs
        · cases hs
        · split at hs
          · obtain ⟨old, _, hs⟩ := bind_some hs
            split at hs
            · split at hs
              · injection hs with hs; subst hs; exact ⟨_, _, rfl, Nat.le_refl _⟩
              · obtain ⟨_, hs⟩ := if_some hs
                injection hs with hs; subst hs; exact ⟨_, _, rfl, by rw [Hp.next_new, Hp.next_put]; omega⟩
            · split at hs
              · split at hs
                · injection hs with hs; subst hs; exact ⟨_, _, rfl, Nat.le_refl _⟩
                · split at hs
                  · cases hs
                  · obtain ⟨r, _, hs⟩ := map_some hs
                    subst hs; exact ⟨_, _, rfl, Nat.le_refl _⟩
              · injection hs with hs; subst hs; exact ⟨_, _, rfl, by rw [Hp.next_new]; omega⟩
          · cases hs
      · cases hs
  · cases hs
theorem val_convert {s d : TypeId} {x : Value} {res : Res} (hs : aConvertH G h s d x = some res) : ∃ v h1, res = .val v h1 ∧ h.next ≤ h1.next := by
  unfold aConvertH at hs
  split at hs
  · split at hs
    · obtain ⟨_, hs⟩ := if_some hs
      injection hs with hs; subst hs; exact ⟨_, _, rfl, by rw [Hp.next_new]; omega⟩
    · cases hs
  · obtain ⟨v, _, hs⟩ := map_some hs
    subst hs; exact ⟨_, _, rfl, Nat.le_refl _⟩

theorem LR.two {u v : Value} {l' : List Value} (h : LR M [u, v] l') : ∃ u' v', l' = [u', v'] ∧ VR M u u' ∧ VR M v v' := by
  obtain ⟨u', r, rfl, hu, hr⟩ := h.cases
  obtain ⟨v', rfl, hv⟩ := hr.one
  exact ⟨u', v', rfl, hu, hv⟩
theorem arr_two {a : Array Value} {u v : Value} (h : a.toList = [u, v]) : a = #[u, v] := by
  apply Array.ext'; simpa using h

theorem builtin_next {b : Builtin} {ts : List TypeId} {args : List Value} {res : Res} (hs : aBuiltin G b ts h args = some res) : h.next ≤ res.next h := by
  unfold aBuiltin at hs
  split at hs
  · obtain ⟨d, hd, hs2⟩ := bind_some hs
    split at hs2
    · obtain ⟨_, _, rfl, hn⟩ := val_append hs2; exact hn
    · obtain ⟨_, _, rfl, hn⟩ := val_append hs2; exact hn
    · cases hs2
  · obtain ⟨_, _, rfl, hn⟩ := val_copy hs; exact hn
  · obtain ⟨_, _, rfl, hn⟩ := val_clear hs; exact hn
  · obtain ⟨_, _, rfl, hn⟩ := val_delete hs; exact hn
  · injection hs with hs; subst hs; exact Nat.le_refl _
  · cases hs

theorem builtin_sound (hG : G.Fits P) (H : HR B M h w) {b : Builtin} {ts : Array TypeId} {a : Act} {o : Oper} {c : Call} {args : List Value} {res : Res} (hop : o.op = .call c) (hcb : c.callee = .builtin b)
    (ha : LR M args (c.args.map a.eval).toList) (hB : res.next h ≤ B) (hs : aBuiltin G b c.argTypes.toList h args = some res) : h.next ≤ res.next h ∧ OpOK P B M h w a o res := by
  have hx : execOp a.eval o = builtin b c.argTypes o.type (c.args.map fun | .const _ => true | _ => false) (c.args.map a.eval) := by
    simp only [execOp, hop, resolve, hcb]; rfl
  have h0 : ∀ {t : TypeId} {r : List TypeId}, c.argTypes.toList = t :: r → c.argTypes[0]? = some t := by
    intro t r e; rw [← Array.getElem?_toList, e]; rfl
  have h1 : ∀ {t u : TypeId} {r : List TypeId}, c.argTypes.toList = t :: u :: r → c.argTypes[1]? = some u := by
    intro t u r e; rw [← Array.getElem?_toList, e]; rfl
  unfold aBuiltin at hs
  split at hs
  · rename_i t u r s x hts
    obtain ⟨s', x', hl, hs', hx'⟩ := ha.two
    obtain ⟨d, hd, hs2⟩ := bind_some hs
    have key : aAppend G h t s x = some res → ((∃ e2, d = .slice e2) ∨ d = .string) → h.next ≤ res.next h ∧ OpOK P B M h w a o res := by
      intro hap hdd
      obtain ⟨v, h2, rfl, hn⟩ := val_append hap
      obtain ⟨M', v', w', g1, g2, g3, g4⟩ := aAppend_sound (P := P) (ty := o.type) hG H (h0 hts) (h1 hts) (hG.und _ _ hd) hdd hs' hx' hB hap
      refine ⟨hn, OpOK.val ?_ g2 g3 g4⟩
      rw [hx, arr_two hl]
      simp [builtin, g1]
    split at hs2
    · exact key hs2 (.inl ⟨_, rfl⟩)
    · exact key hs2 (.inr rfl)
    · cases hs2
  · rename_i t r d s hts
    obtain ⟨d', s', hl, hd', hs'⟩ := ha.two
    obtain ⟨v, h2, rfl, hn⟩ := val_copy hs
    obtain ⟨v', w', g1, g2, g3, g4⟩ := aCopy_sound (P := P) (ty := o.type) hG H (h0 hts) hd' hs' hs
    refine ⟨hn, OpOK.val ?_ g2 g3 g4⟩
    rw [hx, arr_two hl]
    simp [builtin, g1]
  · rename_i t r x hts
    obtain ⟨x', hl, hx'⟩ := ha.one
    obtain ⟨v, h2, rfl, hn⟩ := val_clear hs
    obtain ⟨v', w', g1, g2, g3, g4⟩ := aClear_sound (P := P) (ty := o.type) hG H (h0 hts) hx' hs
    refine ⟨hn, OpOK.val ?_ g2 g3 g4⟩
    rw [hx, arr_one hl]
    simp [builtin, g1]
  · rename_i t r m k hts
    obtain ⟨m', k', hl, hm', hk'⟩ := ha.two
    obtain ⟨v, h2, rfl, hn⟩ := val_delete hs
    obtain ⟨v', w', g1, g2, g3, g4⟩ := aDelete_sound (P := P) (ty := o.type) hG H (h0 hts) hm' hk' hs
    refine ⟨hn, OpOK.val ?_ g2 g3 g4⟩
    rw [hx, arr_two hl]
    simp [builtin, g1]
  · rename_i t v
    obtain ⟨x', hl, hx'⟩ := ha.one
    obtain ⟨v', rfl, hv'⟩ := hx'.iface_inv
    injection hs with hs; subst hs
    refine ⟨Nat.le_refl _, ?_⟩
    intro K Q hk
    show o.upon P a K Q ((execOp a.eval o).run P w)
    have : (execOp a.eval o).run P w = .halt (.panic (.iface t v')) w := by
      rw [hx, arr_one hl]
      simp [builtin, Instr.panic]
    rw [this, Oper.upon_panic]
    exact hk M _ w (Ext.refl _ _ _) H hx'
  · cases hs

theorem aField_inv {t : TypeId} {a v : Value} {i : Nat} (hv : aField G t a i = some v) :
    ∃ b o fs f n, a = .pointer (some ⟨b, o, none⟩) ∧ G.und t = some (.struct fs) ∧ fs[i]? = some f ∧ aSize G f.type = some n ∧ n ≠ 0 ∧ v = aAdd b o f.offset := by
  unfold aField at hv
  split at hv
  · split at hv
    · rename_i hu
      obtain ⟨f, hf, hv⟩ := bind_some hv
      obtain ⟨n, hn, hv⟩ := bind_some hv
      obtain ⟨hz, hv⟩ := bif_none hv
      injection hv with hv
      exact ⟨_, _, _, f, n, rfl, hu, hf, hn, Nat.ne_of_beq_eq_false hz, hv.symm⟩
    · cases hv
  · cases hv

/-- a method of a value in an interface -/
theorem aMethod_sound (hG : G.Fits P) (H : HR B M h w) {t : TypeId} {v v' r : Value} {name : String} {f : FuncId} (hv : VR M v v') (hm : aMethod G h t v name = some (f, r)) (args : Array Value) :
    ∃ r', VR M r r' ∧ (callMethod (.iface t v') name args).run P w = (callFunc f (#[r'] ++ args)).run P w := by
  unfold aMethod at hm
  obtain ⟨i, hi, hm⟩ := bind_some hm
  obtain ⟨m, hf, hm⟩ := bind_some hm
  obtain ⟨fp, hfp, hm⟩ := bind_some hm
  obtain ⟨f', ptr⟩ := fp
  simp only at hm
  have hpi := hG.info _ _ hi
  have hfind : i.methods.find? (fun m => m.name == name) = some m := by rw [← Array.find?_toList]; exact hf
  have hfuel : ∃ n, P.types.size + Made.depth = n + 1 := ⟨P.types.size + 99, by unfold Made.depth; omega⟩
  obtain ⟨n, hn⟩ := hfuel
  split at hm
  · rename_i hpath
    split at hm
    · rename_i el hu
      injection hm with hm; injection hm with e1 e2; subst e1; subst e2
      refine ⟨v', hv, ?_⟩
      simp [callMethod, hn, method, run_inf hpi, hfind, hpath, follow, hfp, receiverAt, run_und (hG.und _ _ hu), Place.get]
    · cases hm
    · rename_i d hnp hu
      injection hm with hm; injection hm with e1 e2; subst e1; subst e2
      refine ⟨v', hv, ?_⟩
      have hnp' : ∀ e, d ≠ .pointer e := fun e he => hnp e he
      have : ∀ wr, (receiverAt t (.val v') false wr).run P w = .ok v' w := by
        intro wr
        unfold receiverAt
        simp only [Sem.run_bind, run_und (hG.und _ _ hu), Result.andThen_ok]
        cases d <;> first | exact absurd rfl (hnp' _) | rfl
      simp [callMethod, hn, method, run_inf hpi, hfind, hpath, follow, hfp, this]
    · cases hm
  · rename_i s hpath
    obtain ⟨hd, hm0⟩ := bif_some hm
    clear hm
    have hm := hm0
    clear hm0
    split at hm
    · rename_i fs hus
      obtain ⟨fd, hfd, hm1⟩ := bind_some hm
      clear hm
      obtain ⟨ad, had, hm⟩ := bind_some hm1
      clear hm1
      obtain ⟨b, o, fs2, fd2, n2, rfl, hus2, hfd2, hn2, hnz, rfl⟩ := aField_inv had
      rw [hus] at hus2; injection hus2 with hus2; injection hus2 with hus2; subst hus2
      rw [hfd] at hfd2; injection hfd2 with hfd2; subst hfd2
      obtain ⟨b', o', p, hbo, hM, rfl⟩ := hv.ptr_inv
      injection hbo with hb1 ho1 _
      subst hb1; subst ho1
      have hptr : VR M (aAdd b o fd.offset) (.pointer (some ⟨p.b, o + p.sh + fd.offset, none⟩)) := by
        have := VR.ptr (M := M) (o := o + fd.offset) hM
        rw [show o + fd.offset + p.sh = o + p.sh + fd.offset by omega] at this
        exact this
      have hfol : (follow m.path.toList t (.val (.pointer (some ⟨p.b, o + p.sh, none⟩)))).run P w = .ok (fd.type, .var ⟨p.b, o + p.sh + fd.offset, none⟩) w := by
        rw [hpath]
        simp [follow, run_und (hG.und _ _ hus), hfd, hd, Place.get, asAddr, fieldPlace, aSize_run hG hn2, hnz, add_addr]
      split at hm
      · cases hm
      · rename_i d hnp hut
        injection hm with hm; injection hm with e1 e2; subst e1; subst e2
        have hnp' : ∀ e, d ≠ .pointer e := fun e he => hnp e he
        refine ⟨_, hptr, ?_⟩
        have : ∀ wr, (receiverAt fd.type (.var ⟨p.b, o + p.sh + fd.offset, none⟩) true wr).run P w = .ok (.pointer (some ⟨p.b, o + p.sh + fd.offset, none⟩)) w := by
          intro wr
          unfold receiverAt
          simp only [Sem.run_bind, run_und (hG.und _ _ hut), Result.andThen_ok]
          cases d <;> first | exact absurd rfl (hnp' _) | rfl
        simp [callMethod, hn, method, run_inf hpi, hfind, hfol, hfp, this]
      · rename_i d hnp hut
        obtain ⟨x, hx, hm⟩ := map_some hm
        injection hm with e1 e2; subst e1; subst e2
        have hnp' : ∀ e, d ≠ .pointer e := fun e he => hnp e he
        have hM' : M b = some p := hM
        obtain ⟨x', g1, g2⟩ := loadVar_sound (P := P) hG H hM' (o := o + fd.offset) hx
        refine ⟨x', g2, ?_⟩
        rw [show o + fd.offset + p.sh = o + p.sh + fd.offset by omega] at g1
        have : ∀ wr, (receiverAt fd.type (.var ⟨p.b, o + p.sh + fd.offset, none⟩) false wr).run P w = .ok x' w := by
          intro wr
          unfold receiverAt
          simp only [Sem.run_bind, run_und (hG.und _ _ hut), Result.andThen_ok]
          cases d <;> first | exact absurd rfl (hnp' _) | simpa [Place.get] using g1
        simp [callMethod, hn, method, run_inf hpi, hfind, hfol, hfp, this]
      · cases hm
    · cases hm
  · cases hm

theorem callee_operands {c : Call} {x : Operand} (h : x ∈ c.args) : x ∈ (Op.call c).operands := by
  simp only [Op.operands, Call.operands]
  exact Array.mem_append.2 (.inr h)

theorem args_LR {e : Env} {a : Act} {c : Call} (hρ : OpsR M e a (.call c)) : LR M (c.args.toList.map e.opd) (c.args.map a.eval).toList := by
  rw [Array.toList_map]
  exact LR.map _ fun x hx => hρ x (callee_operands (by simpa using hx))

theorem eStep_sound {r : Ev} (hG : G.Fits2 P) (hC : CallOK P r.call) (H : HR B M h w) {e : Env} {a : Act} {o : Oper} {res : Res} (hρ : OpsR M e a o.op) (hs : eStep G r e h o = some res) :
    h.next ≤ res.next h ∧ (res.next h ≤ B → OpOK P B M h w a o res) := by
  unfold eStep at hs
  cases hop : o.op <;> rw [hop] at hs hρ <;> simp only [reduceCtorEq] at hs
  case store t x y =>
    obtain ⟨h1, hs1, rfl⟩ := map_some hs
    refine ⟨next_store hs1, fun _ => ?_⟩
    obtain ⟨w', g1, g2, g3⟩ := aStore_sound hG.toFits H (hρ x (by simp [Op.operands])) (hρ y (by simp [Op.operands])) hs1
    exact OpOK.skip (by simp [execOp, hop, g1]) g2 g3
  case convert s d x =>
    obtain ⟨v, h1, rfl, hn⟩ := val_convert hs
    refine ⟨hn, fun hB => ?_⟩
    obtain ⟨M', v', w', g1, g2, g3, g4⟩ := aConvertH_sound hG.toFits H (hρ x (by simp [Op.operands])) hB hs
    exact OpOK.val (by simp [execOp, hop, g1]) g2 g3 g4
  case mapUpdate t m k x =>
    obtain ⟨h1, hs1, rfl⟩ := map_some hs
    refine ⟨next_update hs1, fun _ => ?_⟩
    obtain ⟨w', g1, g2, g3⟩ := aUpdate_sound hG.toFits H (hρ m (by simp [Op.operands])) (hρ k (by simp [Op.operands])) (hρ x (by simp [Op.operands])) hs1
    exact OpOK.skip (by simp [execOp, hop, g1]) g2 g3
  case insert t m k x =>
    obtain ⟨h1, hs1, rfl⟩ := map_some hs
    refine ⟨next_update hs1, fun _ => ?_⟩
    obtain ⟨w', g1, g2, g3⟩ := aUpdate_sound hG.toFits H (hρ m (by simp [Op.operands])) (hρ k (by simp [Op.operands])) (hρ x (by simp [Op.operands])) hs1
    exact OpOK.skip (by simp [execOp, hop, g1]) g2 g3
  case mapEntry t m k =>
    obtain ⟨v, h1, rfl, hn⟩ := val_mapEntry hs
    refine ⟨hn, fun hB => ?_⟩
    obtain ⟨v', w', g1, g2, g3, g4⟩ := aMapEntry_sound hG.toFits H (hρ m (by simp [Op.operands])) (hρ k (by simp [Op.operands])) hs
    exact OpOK.val (by simp [execOp, hop, g1]) g2 g3 g4
  case entryStore t m s x =>
    obtain ⟨h1, hs1, rfl⟩ := map_some hs
    refine ⟨next_entryStore hs1, fun _ => ?_⟩
    obtain ⟨w', g1, g2, g3⟩ := aEntryStore_sound (P := P) (t := t) H (hρ m (by simp [Op.operands])) (hρ s (by simp [Op.operands])) (hρ x (by simp [Op.operands])) hs1
    exact OpOK.skip (by simp [execOp, hop, g1]) g2 g3
  case range t m =>
    obtain ⟨v, h1, rfl, hn⟩ := val_range hs
    refine ⟨hn, fun hB => ?_⟩
    obtain ⟨M', v', w', g1, g2, g3, g4⟩ := aRange_sound hG.toFits H (hρ m (by simp [Op.operands])) hB hs
    exact OpOK.val (by simp [execOp, hop, g1]) g2 g3 g4
  case next it s =>
    obtain ⟨v, h1, rfl, hn⟩ := val_next hs
    refine ⟨hn, fun hB => ?_⟩
    obtain ⟨v', w', g1, g2, g3, g4⟩ := aNext_sound (P := P) (t := o.type) H (hρ it (by simp [Op.operands])) hs
    exact OpOK.val (by simp [execOp, hop, g1]) g2 g3 g4
  case panic x =>
    split at hs
    · rename_i t v hx
      injection hs with hs; subst hs
      refine ⟨Nat.le_refl _, fun _ => ?_⟩
      have hx' := hρ x (by simp [Op.operands])
      rw [hx] at hx'
      obtain ⟨v', hxe, hv'⟩ := hx'.iface_inv
      intro K Q hk
      show o.upon P a K Q ((execOp a.eval o).run P w)
      have : (execOp a.eval o).run P w = .halt (.panic (.iface t v')) w := by simp [execOp, hop, hxe, Instr.panic]
      rw [this, Oper.upon_panic]
      exact hk M _ w (Ext.refl _ _ _) H (.iface _ hv')
    · cases hs
  case call c =>
    split at hs
    · rename_i b hb
      exact ⟨builtin_next hs, fun hB => (builtin_sound (P := P) hG.toFits H (ts := c.argTypes) hop hb (args_LR hρ) hB hs).2⟩
    · rename_i f hf
      split at hs
      · rename_i f1 first captured hfe
        have hfo := hρ f (by simp [Op.operands, Call.operands, hf])
        rw [hfe] at hfo
        obtain ⟨fs', cs', hae, hl1, hl2⟩ := hfo.func_list
        have hargs : LR M (first.toList ++ c.args.toList.map e.opd ++ captured.toList) (fs' ++ c.args.map a.eval ++ cs').toList := by
          rw [arr_append3]
          exact (hl1.append (args_LR hρ)).append hl2
        have hrun : (execOp a.eval o).run P w = (callFunc f1 (fs' ++ c.args.map a.eval ++ cs')).run P w := by
          simp [execOp, hop, resolve, hf, hae, Deferred.ofValue, invoke]
        refine ⟨?_, fun hB => outRes_ok hC hs H hB hargs hrun⟩
        obtain ⟨⟨out, h1⟩, hc1, hc2⟩ := bind_some hs
        have := hC.next _ _ _ _ _ hc1
        unfold outRes at hc2
        split at hc2
        · rename_i heq; injection heq with e1 e2; subst e2; injection hc2 with hc2; subst hc2; exact this
        · rename_i heq; injection heq with e1 e2; subst e2; obtain ⟨_, hc2⟩ := if_some hc2; injection hc2 with hc2; subst hc2; exact this
        · cases hc2
      · cases hs
    · rename_i x name hx
      split at hs
      · rename_i t v hxe
        obtain ⟨fr, hfr, hs1⟩ := bind_some hs
        obtain ⟨f1, rv⟩ := fr
        simp only at hs1
        have hxo := hρ x (by simp [Op.operands, Call.operands, hx])
        rw [hxe] at hxo
        obtain ⟨v', hae, hv'⟩ := hxo.iface_inv
        obtain ⟨r', hr', hrun0⟩ := aMethod_sound (P := P) hG.toFits H hv' hfr (c.args.map a.eval)
        have hargs : LR M (rv :: c.args.toList.map e.opd) (#[r'] ++ c.args.map a.eval).toList := by
          simp only [Array.toList_append]
          exact .cons hr' (args_LR hρ)
        have hrun : (execOp a.eval o).run P w = (callFunc f1 (#[r'] ++ c.args.map a.eval)).run P w := by
          rw [← hrun0]
          have e0 : (#[Value.iface t v'] ++ c.args.map a.eval)[0]? = some (.iface t v') := by rw [Array.getElem?_append]; simp
          have e1 : (c.args.map a.eval).extract 0 c.args.size = c.args.map a.eval := by
            rw [show c.args.size = (c.args.map a.eval).size by simp]; exact Array.extract_size
          simp [execOp, hop, resolve, hx, hae, invoke, e0, e1]
        refine ⟨?_, fun hB => outRes_ok hC hs1 H hB hargs hrun⟩
        obtain ⟨⟨out, h1⟩, hc1, hc2⟩ := bind_some hs1
        have := hC.next _ _ _ _ _ hc1
        unfold outRes at hc2
        split at hc2
        · rename_i heq; injection heq with e1 e2; subst e2; injection hc2 with hc2; subst hc2; exact this
        · rename_i heq; injection heq with e1 e2; subst e2; obtain ⟨_, hc2⟩ := if_some hc2; injection hc2 with hc2; subst hc2; exact this
        · cases hc2
      · cases hs
  case defer c =>
    split at hs
    · rename_i f hf
      split at hs
      · rename_i f1 first captured hfe
        injection hs with hs; subst hs
        refine ⟨Nat.le_refl _, fun _ => ?_⟩
        have hfo := hρ f (by simp [Op.operands, Call.operands, hf])
        rw [hfe] at hfo
        obtain ⟨fs', cs', hae, hl1, hl2⟩ := hfo.func_list
        intro K Q hk
        show o.upon P a K Q ((execOp a.eval o).run P w)
        have : (execOp a.eval o).run P w = .ok (.defer { target := .fn (.func f1) cs', args := fs' ++ c.args.map a.eval }) w := by
          simp [execOp, hop, resolve, hf, hae, Deferred.ofValue]
        rw [this, Oper.upon_defer]
        refine hk _ ⟨f1, captured, cs', rfl, rfl, hl2, ?_⟩
        simp only [Array.toList_append, Array.toList_map]
        exact hl1.append (LR.map _ fun x hx => hρ x (by simp only [Op.operands, Call.operands]; exact Array.mem_append.2 (.inr (by simpa using hx))))
      · cases hs
    · cases hs

end
end Go.AE

namespace Go.AE
section
variable {G : Tabs} {P : Program} {B : Nat} {M : Mp} {h : Hp} {w : World}

theorem EnvR.mono {M M' : Mp} (hM : M.le M') {e : Env} {a : Act} (he : EnvR M e a) : EnvR M' e a := by
  refine ⟨fun t => (he.vals t).mono hM, he.size, ?_⟩
  have := he.defers
  generalize e.defers = l at this
  generalize a.defers = l' at this
  induction this with
  | nil => exact .nil
  | cons h _ ih =>
    obtain ⟨f, c, c', h1, h2, h3, h4⟩ := h
    exact .cons ⟨f, c, c', h1, h2, h3.mono hM, h4.mono hM⟩ ih

theorem scalarC_VR {v : Value} (h : scalarC v = true) : VR M v v := by
  unfold scalarC at h
  split at h
  · exact .bool _
  · exact .int _ _
  · exact .str _
  · exact .pnil
  · exact .snil _ _
  · exact .mnil
  · exact .nilFunc
  · exact .nilIface
  · cases h
theorem scalarC_one {v : Value} (h : scalarC v = true) : v.oneCell' = true := by
  unfold scalarC at h
  split at h <;> first | rfl | cases h
theorem plainC_VR {v : Value} (h : plainC v = true) : VR M v v := by
  unfold plainC at h
  split at h
  · rename_i cs
    have := LR.agg (M := M) (l := cs.toList) (l' := cs.toList) ⟨rfl, fun i hi => by
      have := List.all_eq_true.1 h _ (List.getElem_mem hi)
      simp only [List.getD_eq_getElem?_getD, List.getElem?_eq_getElem hi, Option.getD_some]
      exact scalarC_VR this⟩ (by
      rw [List.all_eq_true]
      intro x hx
      exact scalarC_one (List.all_eq_true.1 h x hx))
    simpa using this
  · exact .iface _ (scalarC_VR h)
  · exact scalarC_VR h

theorem EnvR.opd {e : Env} {a : Act} (he : EnvR M e a) {x : Operand} (hx : okOpd x = true) : VR M (e.opd x) (a.eval x) := by
  cases x with
  | tmp t => exact he.vals t
  | const v => exact plainC_VR hx
  | global g => cases hx
  | func f => exact .func _ rfl (fun i hi => absurd hi (by simp)) rfl (fun i hi => absurd hi (by simp))

theorem Env.val_put (e : Env) (d t : Nat) (v : Value) (hd : d < e.n) : (Env.put e (some d) v).val t = if t = d then v else e.val t := by
  simp only [Env.put, if_pos hd, Env.val, Tr.get_set]
  split <;> rfl
theorem Env.n_put (e : Env) (d : Option Tmp) (v : Value) : (Env.put e d v).n = e.n := by
  cases d with
  | none => rfl
  | some d => simp only [Env.put]; split <;> rfl
theorem Env.fn_put (e : Env) (d : Option Tmp) (v : Value) : (Env.put e d v).fn = e.fn := by
  cases d with
  | none => rfl
  | some d => simp only [Env.put]; split <;> rfl
theorem Env.defers_put (e : Env) (d : Option Tmp) (v : Value) : (Env.put e d v).defers = e.defers := by
  cases d with
  | none => rfl
  | some d => simp only [Env.put]; split <;> rfl

theorem Act.getD_put (a : Act) (d t : Nat) (v : Value) (hd : d < a.tmps.size) : (a.put (some d) v).tmps.getD t undef = if t = d then v else a.tmps.getD t undef := by
  simp only [Act.put, Array.getD_eq_getD_getElem?, Array.getElem?_setIfInBounds]
  by_cases e : d = t
  · subst e; simp [hd]
  · rw [if_neg e, if_neg (fun h => e h.symm)]

theorem EnvR.put {e : Env} {a : Act} (he : EnvR M e a) (d : Option Tmp) {v v' : Value} (hv : VR M v v') : EnvR M (Env.put e d v) (a.put d v') := by
  cases d with
  | none => exact he
  | some d =>
    by_cases hd : d < e.n
    · refine ⟨fun t => ?_, ?_, ?_⟩
      · rw [Env.val_put _ _ _ _ hd, Act.getD_put _ _ _ _ (by rw [he.size]; exact hd)]
        split
        · exact hv
        · exact he.vals t
      · rw [Env.n_put]; simp [Act.put, he.size]
      · rw [Env.defers_put]; exact he.defers
    · have h1 : Env.put e (some d) v = e := by simp only [Env.put, if_neg hd]
      have h2 : a.put (some d) v' = a := by
        have : a.tmps.setIfInBounds d v' = a.tmps := Array.setIfInBounds_eq_of_size_le (by rw [he.size]; exact Nat.le_of_not_lt hd)
        simp only [Act.put, this]
      rw [h1, h2]; exact he

theorem wanted_eq' {e : Env} {a : Act} (all : Array Oper) (o : Oper) (he : ∀ j w d, o.guard = some (j, w) → (all[j]?).bind (·.dst) = some d → VR M (e.val d) (a.tmps.getD d undef)) : Region.wanted o (yielded all a.tmps) = wantedA all e o := by
  unfold Region.wanted wantedA
  cases hg : o.guard with
  | none => rfl
  | some jw =>
    obtain ⟨j, want⟩ := jw
    simp only
    unfold yielded
    cases hd : (all[j]?).bind (·.dst) with
    | none => rfl
    | some d =>
      simp only [Option.bind_some]
      have hv := he j want d hg hd
      cases hb : e.val d with
      | bool b =>
        rw [hb] at hv
        have h1 := hv.bool_inv
        have h2 : a.tmps[d]? = some (.bool b) := by
          rw [Array.getD_eq_getD_getElem?] at h1
          cases ht : a.tmps[d]? with
          | none => rw [ht] at h1; cases h1
          | some x => rw [ht] at h1; simp at h1; rw [h1]
        rw [h2]
        cases b <;> cases want <;> rfl
      | _ =>
        rw [hb] at hv
        have h2 : ∀ b, a.tmps[d]? ≠ some (.bool b) := by
          intro b ht
          rw [Array.getD_eq_getD_getElem?, ht] at hv
          simp at hv
          cases hv
        cases ht : a.tmps[d]? with
        | none => rfl
        | some x => cases x <;> first | rfl | exact absurd ht (h2 _)

theorem wanted_eq {e : Env} {a : Act} (he : EnvR M e a) (all : Array Oper) (o : Oper) : Region.wanted o (yielded all a.tmps) = wantedA all e o :=
  wanted_eq' all o fun _ _ d _ _ => he.vals d

theorem aCall_next {r : Ev} (hn : ∀ f args h out h1, r.call f args h = some (out, h1) → h.next ≤ h1.next) {f : FuncId} {args : List Value} {res : Res} (hs : aCall r f args h = some res) : h.next ≤ res.next h := by
  obtain ⟨⟨out, h1⟩, hc1, hc2⟩ := bind_some hs
  have := hn _ _ _ _ _ hc1
  unfold outRes at hc2
  split at hc2
  · rename_i heq; injection heq with e1 e2; subst e2; injection hc2 with hc2; subst hc2; exact this
  · rename_i heq; injection heq with e1 e2; subst e2; obtain ⟨_, hc2⟩ := if_some hc2; injection hc2 with hc2; subst hc2; exact this
  · cases hc2

theorem eStep_next {r : Ev} (hn : ∀ f args h out h1, r.call f args h = some (out, h1) → h.next ≤ h1.next) {e : Env} {o : Oper} {res : Res} (hs : eStep G r e h o = some res) : h.next ≤ res.next h := by
  unfold eStep at hs
  cases hop : o.op <;> rw [hop] at hs <;> simp only [reduceCtorEq] at hs
  case store t x y => obtain ⟨h1, hs1, rfl⟩ := map_some hs; exact next_store hs1
  case convert s d x => obtain ⟨v, h1, rfl, hn⟩ := val_convert hs; exact hn
  case mapUpdate t m k x => obtain ⟨h1, hs1, rfl⟩ := map_some hs; exact next_update hs1
  case insert t m k x => obtain ⟨h1, hs1, rfl⟩ := map_some hs; exact next_update hs1
  case mapEntry t m k => obtain ⟨v, h1, rfl, hn⟩ := val_mapEntry hs; exact hn
  case entryStore t m s x => obtain ⟨h1, hs1, rfl⟩ := map_some hs; exact next_entryStore hs1
  case range t m => obtain ⟨v, h1, rfl, hn⟩ := val_range hs; exact hn
  case next it s => obtain ⟨v, h1, rfl, hn⟩ := val_next hs; exact hn
  case panic x =>
    split at hs
    · injection hs with hs; subst hs; exact Nat.le_refl _
    · cases hs
  case call c =>
    split at hs
    · exact builtin_next hs
    · split at hs
      · exact aCall_next hn hs
      · cases hs
    · split at hs
      · obtain ⟨fr, hfr, hs1⟩ := bind_some hs; exact aCall_next hn hs1
      · cases hs
  case defer c =>
    split at hs
    · split at hs
      · injection hs with hs; subst hs; exact Nat.le_refl _
      · cases hs
    · cases hs

theorem opStep_next {r : Ev} (hn : ∀ f args h out h1, r.call f args h = some (out, h1) → h.next ≤ h1.next) {e : Env} {o : Oper} {res : Res} (hs : opStep G r e h o = some res) : h.next ≤ res.next h := by
  unfold opStep at hs
  split at hs
  · injection hs with hs; subst hs; exact Nat.le_refl _
  · split at hs
    · injection hs with hs; subst hs; simp [Res.next, Hp.next_new]
    · exact eStep_next hn hs

theorem opStep_sound {r : Ev} (hG : G.Fits2 P) (hC : CallOK P r.call) (H : HR B M h w) {e : Env} {a : Act} {o : Oper} {res : Res} (hρ : OpsR M e a o.op) (hs : opStep G r e h o = some res) :
    h.next ≤ res.next h ∧ (res.next h ≤ B → OpOK P B M h w a o res) := by
  unfold opStep at hs
  split at hs
  · rename_i v hv
    injection hs with hs; subst hs
    refine ⟨Nat.le_refl _, fun _ => ?_⟩
    obtain ⟨v', g1, g2⟩ := sStep_sound (P := P) hG H hρ hv
    exact OpOK.val g1 (Ext.refl _ _ _) H g2
  · split at hs
    · rename_i n hn
      injection hs with hs; subst hs
      refine ⟨by simp [Res.next, Hp.next_new], fun hB => ?_⟩
      simp only [Res.next, Hp.next_new] at hB
      have hlt : h.next < B := by omega
      obtain ⟨x, v', g1, g2, g3, g4⟩ := nStep_sound hG hρ hn w
      exact OpOK.val g1 (Ext.new H hlt _ _ _) (H.new hlt (g2 _ (Mp.le_upd (H.none_next hlt)))) (g3 _ _ (Mp.upd_same _ _ _))
    · exact eStep_sound hG hC H hρ hs

theorem opsR_of {e : Env} {a : Act} (he : EnvR M e a) {o : Oper} (ho : (o.op.operands.toList.all okOpd) = true) : OpsR M e a o.op :=
  fun x hx => he.opd (List.all_eq_true.1 ho x (by simpa using hx))

/-- a row of operations in the order of the text -/
theorem opsStep_sound {r : Ev} (hG : G.Fits2 P) (hC : CallOK P r.call) (all : Array Oper) (hall : (all.toList.all fun o => o.op.operands.toList.all okOpd) = true) :
    ∀ (n i : Nat) (l : List Oper) (e : Env) (h : Hp) (ex : Ex) (e' : Env) (h' : Hp), all.toList.drop i = l → l.length = n → opsStep G r all l e h = some (ex, e', h') →
      e'.fn = e.fn ∧ h.next ≤ h'.next ∧ ∀ B, h'.next ≤ B → ∀ (M : Mp) (a : Act) (w : World) (Q : Exit → Act → World → Prop), EnvR M e a → HR B M h w →
        (∀ M' a' w' x', Ext M h w M' h' w' → HR B M' h' w' → EnvR M' e' a' → ExR M' ex x' → Q x' a' w') → wpOps P all Q (List.range' i n) a w := by
  intro n
  induction n with
  | zero =>
    intro i l e h ex e' h' hl hn hs
    have : l = [] := List.eq_nil_of_length_eq_zero hn
    subst this
    simp only [opsStep] at hs
    injection hs with hs; injection hs with e1 hs; injection hs with e2 e3; subst e1; subst e2; subst e3
    refine ⟨rfl, Nat.le_refl _, fun B _ M a w Q he H hQ => ?_⟩
    exact hQ M a w .normal (Ext.refl _ _ _) H he .normal
  | succ n ih =>
    intro i l e h ex e' h' hl hn hs
    cases l with
    | nil => cases hn
    | cons o rest =>
      have hi : all[i]? = some o := by
        have : (all.toList.drop i)[0]? = some o := by rw [hl]; rfl
        rw [List.getElem?_drop] at this
        simpa using this
      have hrest : all.toList.drop (i + 1) = rest := by
        have := congrArg List.tail hl
        simpa [List.tail_drop] using this
      have hlen : rest.length = n := by simpa using hn
      have hom : o ∈ all.toList := by rw [Array.mem_toList_iff]; exact Array.mem_of_getElem? hi
      have hok := List.all_eq_true.1 hall o hom
      simp only [opsStep] at hs
      cases hw : wantedA all e o with
      | false =>
        rw [hw] at hs
        simp only [cond_false] at hs
        obtain ⟨f1, f2, f3⟩ := ih (i + 1) rest _ h ex e' h' hrest hlen hs
        refine ⟨by rw [f1, Env.fn_put], f2, fun B hB M a w Q he H hQ => ?_⟩
        simp only [List.range'_succ, wpOps, hi]
        rw [wanted_eq he, hw]
        simp only [Bool.false_eq_true, if_false]
        exact f3 B hB M _ w Q (he.put _ (.undef M)) H hQ
      | true =>
        rw [hw] at hs
        simp only [cond_true] at hs
        obtain ⟨res, hres, hs⟩ := bind_some hs
        cases res with
        | val v h1 =>
          simp only at hs
          obtain ⟨f1, f2, f3⟩ := ih (i + 1) rest _ h1 ex e' h' hrest hlen hs
          have mono : h.next ≤ h1.next := opStep_next hC.next hres
          refine ⟨by rw [f1, Env.fn_put], Nat.le_trans mono f2, fun B hB M a w Q he H hQ => ?_⟩
          obtain ⟨_, g⟩ := opStep_sound (B := B) hG hC H (opsR_of he hok) hres
          have g' := g (Nat.le_trans f2 hB)
          simp only [List.range'_succ, wpOps, hi]
          rw [wanted_eq he, hw]
          simp only [if_true]
          left
          refine g' _ _ fun M' v' w' E H' V => ?_
          exact f3 B hB M' _ w' Q ((he.mono E.le).put _ V) H' fun M2 a2 w2 x2 E2 H2 he2 hx2 => hQ M2 a2 w2 x2 (E.trans E2) H2 he2 hx2
        | pan v h1 =>
          simp only at hs
          injection hs with hs; injection hs with e1 hs; injection hs with e2 e3; subst e1; subst e2; subst e3
          refine ⟨rfl, opStep_next hC.next hres, fun B hB M a w Q he H hQ => ?_⟩
          obtain ⟨_, g⟩ := opStep_sound (B := B) hG hC H (opsR_of he hok) hres
          simp only [List.range'_succ, wpOps, hi]
          rw [wanted_eq he, hw]
          simp only [if_true]
          left
          refine g hB _ _ fun M' v' w' E H' V => ?_
          exact hQ M' _ w' _ E H' (he.mono E.le) (.pan (.cons ⟨V, rfl, rfl⟩ .nil))
        | dfr d =>
          simp only at hs
          obtain ⟨f1, f2, f3⟩ := ih (i + 1) rest _ h ex e' h' hrest hlen hs
          refine ⟨by rw [f1, Env.fn_put], f2, fun B hB M a w Q he H hQ => ?_⟩
          obtain ⟨_, g⟩ := opStep_sound (B := B) hG hC H (opsR_of he hok) hres
          simp only [List.range'_succ, wpOps, hi]
          rw [wanted_eq he, hw]
          simp only [if_true]
          left
          refine g (Nat.le_trans f2 hB) _ _ fun d' hd => ?_
          have he1 : EnvR M { e with defers := d :: e.defers } { a with defers := d' :: a.defers } := ⟨he.vals, he.size, .cons hd he.defers⟩
          exact f3 B hB M _ w Q (he1.put _ (.undef M)) H hQ

end
end Go.AE

namespace Go.AE

inductive Below (ops : Array Oper) : Nat → Nat → Prop
  | edge {k : Nat} {o : Oper} {e : Edge} (ho : ops[k]? = some o) (he : e ∈ o.after) (hb : Region.binds .any e = true) : Below ops e.on k
  | step {i k : Nat} {o : Oper} {e : Edge} (ho : ops[k]? = some o) (he : e ∈ o.after) (hb : Region.binds .any e = true) (h : Below ops i e.on) : Below ops i k

/-- what is listed has all before it listed -/
def Closed (ops : Array Oper) (X : Nat → Prop) : Prop := ∀ k o e, X k → ops[k]? = some o → e ∈ o.after → Region.binds .any e = true → X e.on

theorem Below.closed {ops : Array Oper} {X : Nat → Prop} (hX : Closed ops X) {i k : Nat} (h : Below ops i k) : (∀ o e, ops[k]? = some o → e ∈ o.after → Region.binds .any e = true → X e.on) → X i := by
  induction h with
  | edge ho he hb => exact fun hk => hk _ _ ho he hb
  | step ho he hb _ ih => exact fun hk => ih fun o e ho' he' hb' => hX _ _ _ (hk _ _ ho he hb) ho' he' hb'

theorem one_bit (look : Nat → Nat) (o : Oper) (i : Nat) : (CheckFast.one look o).testBit i = true → ∃ e ∈ o.after, Region.binds .any e = true ∧ (e.on = i ∨ (look e.on).testBit i = true) := by
  unfold CheckFast.one
  rw [← Array.foldl_toList]
  have key : ∀ (l : List Edge) (s : Nat), (l.foldl (fun s e => if Region.binds .any e then s ||| 2 ^ e.on ||| look e.on else s) s).testBit i = true →
      s.testBit i = true ∨ ∃ e ∈ l, Region.binds .any e = true ∧ (e.on = i ∨ (look e.on).testBit i = true) := by
    intro l
    induction l with
    | nil => intro s h; exact .inl h
    | cons e l ih =>
      intro s h
      rw [List.foldl_cons] at h
      rcases ih _ h with h1 | ⟨e', he', h2⟩
      · cases hb : Region.binds .any e with
        | false => rw [hb] at h1; exact .inl h1
        | true =>
          rw [hb] at h1
          simp only [if_true, Nat.testBit_or, Bool.or_eq_true] at h1
          rcases h1 with (h1 | h1) | h1
          · exact .inl h1
          · refine .inr ⟨e, List.mem_cons_self, hb, .inl ?_⟩
            rw [Nat.testBit_two_pow] at h1
            exact of_decide_eq_true h1
          · exact .inr ⟨e, List.mem_cons_self, hb, .inr h1⟩
      · exact .inr ⟨e', List.mem_cons_of_mem _ he', h2⟩
  intro h
  rcases key _ _ h with h1 | ⟨e, he, h2⟩
  · simp at h1
  · exact ⟨e, by simpa using he, h2⟩

theorem before_below (ops : Array Oper) (k i : Nat) (h : ((Region.before ops).getD k 0).testBit i = true) : Below ops i k := by
  have key : ∀ (l : List Oper) (A : Array Nat), ops.toList.drop A.size = l → (∀ k i, (A.getD k 0).testBit i = true → Below ops i k) →
      ∀ k i, ((l.foldl (fun acc o => acc.push (CheckFast.one (fun i => acc.getD i 0) o)) A).getD k 0).testBit i = true → Below ops i k := by
    intro l
    induction l with
    | nil => intro A _ hA; exact hA
    | cons o l ih =>
      intro A hl hA
      rw [List.foldl_cons]
      have ho : ops[A.size]? = some o := by
        have : (ops.toList.drop A.size)[0]? = some o := by rw [hl]; rfl
        rw [List.getElem?_drop] at this
        simpa using this
      refine ih _ ?_ ?_
      · rw [Array.size_push]
        have := congrArg List.tail hl
        simpa [List.tail_drop] using this
      · intro k i hk
        by_cases e : k = A.size
        · subst e
          have : (A.push (CheckFast.one (fun i => A.getD i 0) o)).getD A.size 0 = CheckFast.one (fun i => A.getD i 0) o := by simp
          rw [this] at hk
          obtain ⟨e, he, hb, h1 | h1⟩ := one_bit _ _ _ hk
          · subst h1; exact .edge ho he hb
          · exact .step ho he hb (hA _ _ h1)
        · have : (A.push (CheckFast.one (fun i => A.getD i 0) o)).getD k 0 = A.getD k 0 := by
            simp only [Array.getD_eq_getD_getElem?, Array.getElem?_push, if_neg e]
          rw [this] at hk
          exact hA _ _ hk
  refine key ops.toList #[] (by simp) (by simp) k i ?_
  unfold Region.before at h
  rw [← Array.foldl_toList] at h
  exact h

def Ord (ops : Array Oper) (i k : Nat) : Prop := (i < k → Below ops i k) ∧ (k < i → Below ops k i)

theorem ordA_ord {ops : Array Oper} {i k : Nat} (h : ordA (Region.before ops) i k = true) : Ord ops i k := by
  unfold ordA at h
  have := before_below _ _ _ h
  refine ⟨fun hl => ?_, fun hl => ?_⟩
  · rwa [Nat.max_eq_right (by omega), Nat.min_eq_left (by omega)] at this
  · rwa [Nat.max_eq_left (by omega), Nat.min_eq_right (by omega)] at this

structure Pairs (info : RegInfo) (ops : Array Oper) (i k : Nat) (o p : Oper) : Prop where
  look : ∀ d, p.dst = some d → d ∈ looks ops o → Ord ops i k
  dst : ∀ d, o.dst = some d → p.dst ≠ some d
  eff : isEff p.op = true → isEff o.op = true → Ord ops i k
  rd : isEff p.op = true → reads o.op = true → Ord ops i k ∨ k ∈ looseOf info i
  last : i ∈ info.last → i < k → Below ops i k

theorem drawOk_spec {info : RegInfo} {ops : Array Oper} (h : drawOk info ops = true) :
    (∀ i o e, ops[i]? = some o → e ∈ o.after → Region.binds .any e = true → e.on < i) ∧
    ∀ i k o p, ops[i]? = some o → ops[k]? = some p → i ≠ k → Pairs info ops i k o p := by
  unfold drawOk at h
  have mem : ∀ i o, ops[i]? = some o → (o, i) ∈ ops.toList.zipIdx := by
    intro i o ho
    rw [List.mem_zipIdx_iff_getElem?]
    simpa using ho
  simp only [List.all_eq_true] at h
  refine ⟨fun i o e ho he hb => ?_, fun i k o p ho hp hne => ?_⟩
  · have h1 := h _ (mem i o ho)
    simp only [Bool.and_eq_true, List.all_eq_true] at h1
    have h2 := h1.1 e (by simpa using he)
    simp only [Bool.or_eq_true, hb, Bool.not_true, Bool.false_eq_true, false_or, decide_eq_true_eq] at h2
    exact h2
  · have h1 := h _ (mem i o ho)
    simp only [Bool.and_eq_true, List.all_eq_true] at h1
    have h2 := h1.2 _ (mem k p hp)
    have hbq : Nat.beq i k = false := by
      cases hb : Nat.beq i k with
      | false => rfl
      | true => exact absurd (Nat.eq_of_beq_eq_true hb) hne
    simp only [hbq, Bool.false_or, Bool.and_eq_true] at h2
    obtain ⟨⟨⟨ha, hb⟩, hc⟩, hd⟩ := h2
    refine ⟨fun d hd1 hd2 => ?_, fun d h1 h2 => ?_, fun h1 h2 => ?_, fun h1 h2 => ?_, fun h1 h2 => ?_⟩
    · rw [hd1] at ha
      simp only [Bool.or_eq_true, Bool.not_eq_true', List.contains_eq_mem, decide_eq_false_iff_not] at ha
      exact ordA_ord (ha.resolve_left (fun h => h hd2))
    · rw [h1, h2] at hb
      simp only [Bool.not_eq_true'] at hb
      have : Nat.beq d d = true := Nat.beq_refl d
      rw [this] at hb; cases hb
    · rw [h1] at hc
      simp only [Bool.not_true, Bool.false_or, Bool.and_eq_true, h2] at hc
      exact ordA_ord hc.1
    · rw [h1] at hc
      simp only [Bool.not_true, Bool.false_or, Bool.and_eq_true, h2, Bool.or_eq_true, List.contains_eq_mem, decide_eq_true_eq] at hc
      rcases hc.2 with h | h
      · exact .inl (ordA_ord h)
      · exact .inr h
    · simp only [List.contains_eq_mem, h1, h2, decide_true, Bool.and_self, Bool.not_true, Bool.false_or] at hd
      exact (ordA_ord hd).1 h2

end Go.AE

namespace Go.AE

theorem lBeq_eq {f : Value → Value → Bool} (hf : ∀ x y, f x y = true → x = y) : ∀ (l r : List Value), lBeq f l r = true → l = r
  | [], [], _ => rfl
  | a :: l, b :: r, h => by
    simp only [lBeq, Bool.and_eq_true] at h
    rw [hf _ _ h.1, lBeq_eq hf l r h.2]
  | [], _ :: _, h => by cases h
  | _ :: _, [], h => by cases h

theorem vBeq_eq : ∀ (n : Nat) (x y : Value), vBeq n x y = true → x = y := by
  intro n
  induction n with
  | zero => intro x y h; cases h
  | succ n ih =>
    intro x y h
    unfold vBeq at h
    split at h
    · rw [eq_of_beq h]
    · simp only [Bool.and_eq_true, decide_eq_true_eq] at h; rw [h.1, h.2]
    · rw [bytesEq_true h]
    · rw [of_decide_eq_true h]
    · simp only [Bool.and_eq_true, decide_eq_true_eq] at h; rw [h.1.1, Nat.eq_of_beq_eq_true h.1.2, Nat.eq_of_beq_eq_true h.2]
    · rw [of_decide_eq_true h]
    · rfl
    · rfl
    · simp only [Bool.and_eq_true] at h; rw [Nat.eq_of_beq_eq_true h.1, ih _ _ h.2]
    · rw [Array.ext' (lBeq_eq ih _ _ h)]
    · rw [Array.ext' (lBeq_eq ih _ _ h)]
    · cases h

section
variable {G : Tabs} {r : Ev} {info : RegInfo} {ops : Array Oper} {e0 : Env} {h0 : Hp}

theorem sameAt_val {o : Oper} {e : Env} {v : Value} {h : Hp} (hs : sameAt G o e v h = true) : sStep G e h o = some v := by
  unfold sameAt at hs
  split at hs
  · rename_i v' hv'
    rw [hv', vBeq_eq _ _ _ hs]
  · cases hs

noncomputable def one1 (G : Tabs) (r : Ev) (ops : Array Oper) (i : Nat) (s : Env × Hp) : Env × Hp :=
  match ops[i]? with
  | none => s
  | some o =>
    bif wantedA ops s.1 o then
      bif isEff o.op then
        match eStep G r s.1 s.2 o with
        | some (.val v h) => (Env.put s.1 o.dst v, h)
        | _ => s
      else
        match sStep G s.1 s.2 o with
        | some v => (Env.put s.1 o.dst v, s.2)
        | none => match nStep G s.1 o with
          | some n => (Env.put s.1 o.dst (n.to s.2.next), s.2.new n.ob)
          | none => s
    else (Env.put s.1 o.dst undef, s.2)

noncomputable def st (G : Tabs) (r : Ev) (ops : Array Oper) (e0 : Env) (h0 : Hp) : Nat → Env × Hp
  | 0 => (e0, h0)
  | i + 1 => one1 G r ops i (st G r ops e0 h0 i)

abbrev Tc := Nat → Env × Hp

/-- what one operation was -/
inductive Kind (G : Tabs) (r : Ev) (ops : Array Oper) (S : Tc) (i : Nat) (o : Oper) : Prop
  | skip (hw : wantedA ops (S i).1 o = false) (he : (S (i + 1)).1 = Env.put (S i).1 o.dst undef) (hh : (S (i + 1)).2 = (S i).2)
  | eff (hw : wantedA ops (S i).1 o = true) (hf : isEff o.op = true) {v : Value} (hs : eStep G r (S i).1 (S i).2 o = some (.val v (S (i + 1)).2)) (he : (S (i + 1)).1 = Env.put (S i).1 o.dst v)
  | still (hw : wantedA ops (S i).1 o = true) (hf : isEff o.op = false) {v : Value} (hs : sStep G (S i).1 (S i).2 o = some v) (he : (S (i + 1)).1 = Env.put (S i).1 o.dst v) (hh : (S (i + 1)).2 = (S i).2)
  | alloc (hw : wantedA ops (S i).1 o = true) (hf : isEff o.op = false) {n : New} (hs : nStep G (S i).1 o = some n) (hn : (S i).2.get (S i).2.next = none) (he : (S (i + 1)).1 = Env.put (S i).1 o.dst (n.to (S i).2.next)) (hh : (S (i + 1)).2 = (S i).2.new n.ob)

def Fires (ops : Array Oper) (S : Tc) (i : Nat) : Prop := ∃ o, ops[i]? = some o ∧ wantedA ops (S i).1 o = true ∧ isEff o.op = true

/-- a reading operation that was looked at -/
def Still (G : Tabs) (ops : Array Oper) (S : Tc) (i : Nat) (o : Oper) (v : Value) : Prop :=
  ops[i]? = some o ∧ wantedA ops (S i).1 o = true ∧ isEff o.op = false ∧ sStep G (S i).1 (S i).2 o = some v

def Behind (G : Tabs) (info : RegInfo) (ops : Array Oper) (S : Tc) (t : Nat) : Prop :=
  ∀ i o v, i < t → Still G ops S i o v → (∃ q, Fires ops S q ∧ i < q ∧ q < t ∧ q ∈ looseOf info i) → (∀ q, Fires ops S q → i < q → q < t → q ∈ looseOf info i) → sameAt G o (S i).1 v (S t).2 = true

structure Trace (G : Tabs) (r : Ev) (info : RegInfo) (ops : Array Oper) (S : Tc) (m : Nat) : Prop where
  le : m ≤ ops.size
  kind : ∀ i o, i < m → ops[i]? = some o → Kind G r ops S i o
  ahead : ∀ i o v, i < m → Still G ops S i o v → ∀ t, t < i → Fires ops S t → t ∈ looseOf info i → sameAt G o (S i).1 v (S t).2 = true
  behind : ∀ t, t ≤ m → (Fires ops S t ∨ t = m) → Behind G info ops S t

def Ends (G : Tabs) (r : Ev) (info : RegInfo) (ops : Array Oper) (S : Tc) (m : Nat) (x : Ex × Env × Hp) : Prop :=
  (m = ops.size ∧ x = (.normal, (S m).1, (S m).2)) ∨
  (∃ o v h, ops[m]? = some o ∧ wantedA ops (S m).1 o = true ∧ isEff o.op = true ∧ eStep G r (S m).1 (S m).2 o = some (.pan v h) ∧ m ∈ info.last ∧ ∃ e, x = (.pan [{ v, recovered := false }], e, h))

theorem drawStep_trace : ∀ (n i : Nat) (l : List Oper) (hist : List (Nat × Hp)) (pend : List Pend) (x : Ex × Env × Hp), ops.toList.drop i = l → l.length = n →
    (∀ k o, k < i → ops[k]? = some o → Kind G r ops (st G r ops e0 h0) k o) →
    (∀ k o v, k < i → Still G ops (st G r ops e0 h0) k o v → ∀ t, t < k → Fires ops (st G r ops e0 h0) t → t ∈ looseOf info k → sameAt G o (st G r ops e0 h0 k).1 v (st G r ops e0 h0 t).2 = true) →
    (∀ t, t < i → Fires ops (st G r ops e0 h0) t → Behind G info ops (st G r ops e0 h0) t) →
    (∀ q, q ∈ hist ↔ q.1 < i ∧ Fires ops (st G r ops e0 h0) q.1 ∧ q.2 = (st G r ops e0 h0 q.1).2) →
    (∀ k o v, k < i → Still G ops (st G r ops e0 h0) k o v → looseOf info k ≠ [] → (⟨k, o, (st G r ops e0 h0 k).1, v⟩ : Pend) ∈ pend) →
    drawStep G r info ops l i (st G r ops e0 h0 i).1 (st G r ops e0 h0 i).2 hist pend = some x →
    ∃ m, Trace G r info ops (st G r ops e0 h0) m ∧ Ends G r info ops (st G r ops e0 h0) m x := by
  generalize hS : st G r ops e0 h0 = S
  have hone : ∀ i, S (i + 1) = one1 G r ops i (S i) := by intro i; subst hS; rfl
  intro n
  have stood : ∀ i (hist : List (Nat × Hp)) (pend : List Pend), (∀ q, q ∈ hist ↔ q.1 < i ∧ Fires ops S q.1 ∧ q.2 = (S q.1).2) →
      (∀ k o v, k < i → Still G ops S k o v → looseOf info k ≠ [] → (⟨k, o, (S k).1, v⟩ : Pend) ∈ pend) →
      pend.all (stands G info hist (S i).2) = true → Behind G info ops S i := by
    intro i hist pend hh hp hall k o v hk hst ⟨q, hq, h1, h2, h3⟩ hloose
    have hne : looseOf info k ≠ [] := fun e => by rw [e] at h3; cases h3
    have := List.all_eq_true.1 hall _ (hp k o v hk hst hne)
    unfold stands at this
    simp only [Bool.or_eq_true, Bool.not_eq_true', List.any_eq_false, Bool.and_eq_true, decide_eq_true_eq, List.contains_eq_mem] at this
    rcases this with (h | h) | h
    · exact absurd ⟨h1, h3⟩ (h (q, (S q).2) ((hh _).2 ⟨h2, hq, rfl⟩))
    · rw [List.any_eq_true] at h
      obtain ⟨q', g1, g2⟩ := h
      simp only [Bool.and_eq_true, decide_eq_true_eq, Bool.not_eq_true', decide_eq_false_iff_not] at g2
      obtain ⟨k1, k2, _⟩ := (hh q').1 g1
      exact absurd (hloose q'.1 k2 g2.1 k1) g2.2
    · exact h
  induction n with
  | zero =>
    intro i l hist pend x hl hn hk ha hb hh hp hs
    have : l = [] := List.eq_nil_of_length_eq_zero hn
    subst this
    have hsz : ops.size ≤ i := by simpa using hl
    simp only [drawStep] at hs
    cases hc : pend.all (stands G info hist (S i).2) with
    | false => rw [hc] at hs; cases hs
    | true =>
      rw [hc] at hs
      injection hs with hs
      subst hs
      have hB := stood _ _ _ hh hp hc
      have e : ∀ j, ops.size ≤ j → S j = S ops.size := by
        intro j hj
        induction j with
        | zero => have : ops.size = 0 := by omega
                  rw [this]
        | succ j ih =>
          rcases Nat.lt_or_ge j ops.size with h | h
          · have : ops.size = j + 1 := by omega
            rw [this]
          · rw [hone j]
            unfold one1
            rw [Array.getElem?_eq_none h]
            exact ih h
      refine ⟨ops.size, ⟨Nat.le_refl _, fun k o hk' ho => hk k o (by omega) ho, fun k o v hk' => ha k o v (by omega), fun t ht hf => ?_⟩, .inl ⟨rfl, by rw [e i hsz]⟩⟩
      rcases Nat.lt_or_ge t i with h | h
      · rcases hf with hf | hf
        · exact hb t h hf
        · subst hf
          intro k o v hk' hst hq hall
          have := hB k o v (by omega) hst (by obtain ⟨q, g1, g2, g3, g4⟩ := hq; exact ⟨q, g1, g2, by omega, g4⟩) (fun q g1 g2 g3 => hall q g1 g2 (by
            have := (Array.getElem?_eq_some_iff.1 g1.choose_spec.1).1
            omega))
          rw [e i hsz] at this
          exact this
      · have : t = i := by omega
        subst this
        exact hB
  | succ n ih =>
    intro i l hist pend x hl hn hk ha hb hh hp hs
    cases l with
    | nil => cases hn
    | cons o rest =>
      have hi : ops[i]? = some o := by
        have : (ops.toList.drop i)[0]? = some o := by rw [hl]; rfl
        rw [List.getElem?_drop] at this
        simpa using this
      have hlt : i < ops.size := (Array.getElem?_eq_some_iff.1 hi).1
      have hrest : ops.toList.drop (i + 1) = rest := by
        have := congrArg List.tail hl
        simpa [List.tail_drop] using this
      have hlen : rest.length = n := by simpa using hn
      have hstep := hone i
      unfold one1 at hstep
      rw [hi] at hstep
      simp only at hstep
      have go : ∀ (hist' : List (Nat × Hp)) (pend' : List Pend), Kind G r ops S i o →
          (∀ v, Still G ops S i o v → ∀ t, t < i → Fires ops S t → t ∈ looseOf info i → sameAt G o (S i).1 v (S t).2 = true) →
          (Fires ops S i → Behind G info ops S i) →
          (∀ q, q ∈ hist' ↔ q.1 < i + 1 ∧ Fires ops S q.1 ∧ q.2 = (S q.1).2) →
          (∀ k o v, k < i + 1 → Still G ops S k o v → looseOf info k ≠ [] → (⟨k, o, (S k).1, v⟩ : Pend) ∈ pend') →
          drawStep G r info ops rest (i + 1) (S (i + 1)).1 (S (i + 1)).2 hist' pend' = some x → ∃ m, Trace G r info ops S m ∧ Ends G r info ops S m x := by
        intro hist' pend' hkind hah hbe hh' hp' hs'
        refine ih (i + 1) rest hist' pend' x hrest hlen ?_ ?_ ?_ hh' hp' hs'
        · intro k o' hk' ho'
          rcases Nat.lt_or_ge k i with h | h
          · exact hk k o' h ho'
          · have : k = i := by omega
            subst this
            rw [hi] at ho'; injection ho' with ho'; subst ho'; exact hkind
        · intro k o' v hk' hst
          rcases Nat.lt_or_ge k i with h | h
          · exact ha k o' v h hst
          · have : k = i := by omega
            subst this
            have := hst.1
            rw [hi] at this; injection this with this; subst this
            exact hah v hst
        · intro t ht hf
          rcases Nat.lt_or_ge t i with h | h
          · exact hb t h hf
          · have : t = i := by omega
            subst this
            exact hbe hf
      have nofire : ¬ Fires ops S i → ∀ q : Nat × Hp, q ∈ hist ↔ q.1 < i + 1 ∧ Fires ops S q.1 ∧ q.2 = (S q.1).2 := by
        intro hnf q
        rw [hh q]
        constructor
        · rintro ⟨g1, g2, g3⟩; exact ⟨by omega, g2, g3⟩
        · rintro ⟨g1, g2, g3⟩
          refine ⟨?_, g2, g3⟩
          rcases Nat.lt_or_ge q.1 i with h | h
          · exact h
          · have : q.1 = i := by omega
            rw [this] at g2; exact absurd g2 hnf
      have nostill : (∀ v, Still G ops S i o v → looseOf info i = []) → ∀ k o' v, k < i + 1 → Still G ops S k o' v → looseOf info k ≠ [] → (⟨k, o', (S k).1, v⟩ : Pend) ∈ pend := by
        intro hns k o' v hk' hst hne
        rcases Nat.lt_or_ge k i with h | h
        · exact hp k o' v h hst hne
        · have : k = i := by omega
          subst this
          have := hst.1
          rw [hi] at this; injection this with this; subst this
          exact absurd (hns v hst) hne
      simp only [drawStep] at hs
      cases hw : wantedA ops (S i).1 o with
      | false =>
        rw [hw] at hs hstep
        simp only [cond_false] at hs hstep
        have hnf : ¬ Fires ops S i := by rintro ⟨o', g1, g2, _⟩; rw [hi] at g1; injection g1 with g1; subst g1; rw [hw] at g2; cases g2
        refine go hist pend (.skip hw (by rw [hstep]) (by rw [hstep])) (fun v hst => ?_) (fun hf => absurd hf hnf) (nofire hnf) (nostill fun v hst => ?_) (by rw [hstep]; exact hs)
        · have := hst.2.1; rw [hw] at this; cases this
        · have := hst.2.1; rw [hw] at this; cases this
      | true =>
        rw [hw] at hs hstep
        simp only [cond_true] at hs hstep
        cases hf : isEff o.op with
        | true =>
          rw [hf] at hs hstep
          simp only [cond_true] at hs hstep
          have hfire : Fires ops S i := ⟨o, hi, hw, hf⟩
          cases hc : pend.all (stands G info hist (S i).2) with
          | false => rw [hc] at hs; cases hs
          | true =>
            rw [hc] at hs
            simp only [cond_true] at hs
            have hB := stood _ _ _ hh hp hc
            obtain ⟨res, hres, hs⟩ := bind_some hs
            rw [hres] at hstep
            cases res with
            | val v h' =>
              simp only at hs hstep
              refine go ((i, (S i).2) :: hist) pend (.eff hw hf (v := v) (by rw [hres, hstep]) (by rw [hstep])) (fun v hst => ?_) (fun _ => hB) (fun q => ?_) (nostill fun v hst => ?_) (by rw [hstep]; exact hs)
              · have := hst.2.2.1; rw [hf] at this; cases this
              · rw [List.mem_cons, hh q]
                constructor
                · rintro (g | ⟨g1, g2, g3⟩)
                  · subst g; exact ⟨by simp, hfire, rfl⟩
                  · exact ⟨by omega, g2, g3⟩
                · rintro ⟨g1, g2, g3⟩
                  rcases Nat.lt_or_ge q.1 i with h | h
                  · exact .inr ⟨h, g2, g3⟩
                  · have : q.1 = i := by omega
                    left
                    obtain ⟨q1, q2⟩ := q
                    simp only at this g3
                    subst this; rw [g3]
              · have := hst.2.2.1; rw [hf] at this; cases this
            | pan v h' =>
              simp only at hs
              cases hlast : info.last.contains i with
              | false => rw [hlast] at hs; cases hs
              | true =>
                rw [hlast] at hs
                injection hs with hs
                refine ⟨i, ⟨Nat.le_of_lt hlt, hk, ha, fun t ht hft => ?_⟩, .inr ⟨o, v, h', hi, hw, hf, hres, by simpa using hlast, _, hs.symm⟩⟩
                rcases Nat.lt_or_ge t i with h | h
                · rcases hft with hft | hft
                  · exact hb t h hft
                  · omega
                · have : t = i := by omega
                  subst this; exact hB
            | dfr d => cases hs
        | false =>
          rw [hf] at hs hstep
          simp only [cond_false] at hs hstep
          have hnf : ¬ Fires ops S i := by rintro ⟨o', g1, g2, g3⟩; rw [hi] at g1; injection g1 with g1; subst g1; rw [hf] at g3; cases g3
          cases hss : sStep G (S i).1 (S i).2 o with
          | some v =>
            rw [hss] at hs hstep
            simp only at hs hstep
            have hk1 : Kind G r ops S i o := .still hw hf hss (by rw [hstep]) (by rw [hstep])
            have huniq : ∀ v', Still G ops S i o v' → v' = v := by
              intro v' hst; have := hst.2.2.2; rw [hss] at this; injection this with this; exact this.symm
            split at hs
            · rename_i hl0
              refine go hist pend hk1 (fun v' hst t _ _ ht => ?_) (fun hf => absurd hf hnf) (nofire hnf) (nostill fun _ _ => hl0) (by rw [hstep]; exact hs)
              rw [hl0] at ht; cases ht
            · rename_i l0 hl0
              obtain ⟨hall, hs⟩ := bif_some hs
              refine go hist (⟨i, o, (S i).1, v⟩ :: pend) hk1 (fun v' hst t ht hft hin => ?_) (fun hf => absurd hf hnf) (nofire hnf) (fun k o' v' hk' hst hne => ?_) (by rw [hstep]; exact hs)
              · have := List.all_eq_true.1 hall (t, (S t).2) ((hh _).2 ⟨ht, hft, rfl⟩)
                simp only [Bool.or_eq_true, Bool.not_eq_true', List.contains_eq_mem, decide_eq_false_iff_not] at this
                rw [huniq v' hst]
                exact this.resolve_left fun h => h hin
              · rcases Nat.lt_or_ge k i with h | h
                · exact List.mem_cons_of_mem _ (hp k o' v' h hst hne)
                · have : k = i := by omega
                  subst this
                  have := hst.1
                  rw [hi] at this; injection this with this; subst this
                  rw [huniq v' hst]; exact List.mem_cons_self
          | none =>
            rw [hss] at hs hstep
            simp only at hs hstep
            obtain ⟨nn, hnn, hs⟩ := bind_some hs
            rw [hnn] at hstep
            simp only at hstep
            split at hs
            · cases hs
            · rename_i hnone
              refine go hist pend (.alloc hw hf hnn hnone (by rw [hstep]) (by rw [hstep])) (fun v' hst => ?_) (fun hf => absurd hf hnf) (nofire hnf) (nostill fun v' hst => ?_) (by rw [hstep]; exact hs)
              · have := hst.2.2.2; rw [hss] at this; cases this
              · have := hst.2.2.2; rw [hss] at this; cases this

theorem drawStep_ends {x : Ex × Env × Hp} (hs : drawStep G r info ops ops.toList 0 e0 h0 [] [] = some x) :
    ∃ S m, S 0 = (e0, h0) ∧ Trace G r info ops S m ∧ Ends G r info ops S m x := by
  obtain ⟨m, h1, h2⟩ := drawStep_trace (G := G) (r := r) (info := info) (ops := ops) (e0 := e0) (h0 := h0) ops.size 0 ops.toList [] [] x (by simp) (by simp)
    (fun k o hk => absurd hk (by omega)) (fun k o v hk => absurd hk (by omega)) (fun t ht => absurd ht (by omega)) (fun q => by simp) (fun k o v hk => absurd hk (by omega)) hs
  exact ⟨_, m, rfl, h1, h2⟩

end
end Go.AE

namespace Go.AE

structure Ext0 (M : Mp) (h : Hp) (w : World) (M' : Mp) (h' : Hp) (w' : World) : Prop where
  le : M.le M'
  size : w.heap.size ≤ w'.heap.size
  keep : ∀ b, b < w.heap.size → ¬ may M h b → w'.heap[b]? = w.heap[b]?
  touch : ∀ b, may M' h' b → b < w.heap.size → may M h b
  newb : ∀ id p, M' id = some p → M id = none → w.heap.size ≤ p.b ∨ may M h p.b
  held : ∀ id, M id = none → id < h.next → h'.get id = h.get id
  os : w'.os = w.os
  out : w'.output = w.output
  tape : w'.tape = w.tape

theorem HR.zero {B : Nat} {M : Mp} {h : Hp} {w : World} (H : HR B M h w) : HR 0 M h w := ⟨H.wf, H.inHeap, fun _ _ _ => .inr (Nat.zero_le _), H.one, H.ob⟩

/-- a smaller state of the same world -/
theorem HR.sub {B : Nat} {M : Mp} {h h' : Hp} {w : World} (H : HR B M h w) (hw : ∀ id, h'.next ≤ id → h'.get id = none) (hs : ∀ id o, h'.get id = some o → h.get id = some o) : HR 0 M h' w :=
  ⟨hw, H.inHeap, fun _ _ _ => .inr (Nat.zero_le _), fun i j p q o o' hi hj gi gj => H.one i j p q o o' hi hj (hs _ _ gi) (hs _ _ gj), fun id p o hp hg => H.ob id p o hp (hs _ _ hg)⟩

theorem HR.name0 {M : Mp} {h : Hp} {w : World} (H : HR 0 M h w) (hn : M h.next = none) (o : Ob) : HR 0 M (h.new o) w := by
  have key : ∀ i p, M i = some p → i ≠ h.next := fun i p hp e => by subst e; rw [hn] at hp; cases hp
  refine ⟨Hp.wf_new H.wf o, H.inHeap, fun _ _ _ => .inr (Nat.zero_le _), ?_, ?_⟩
  · intro i j p q oi oj hi hj gi gj li lj hb
    rw [Hp.get_new, if_neg (key _ _ hi)] at gi
    rw [Hp.get_new, if_neg (key _ _ hj)] at gj
    exact H.one i j p q oi oj hi hj gi gj li lj hb
  · intro i p oo hp hg hl
    rw [Hp.get_new, if_neg (key _ _ hp)] at hg
    exact H.ob i p oo hp hg hl

theorem HR.wake {M : Mp} {h : Hp} {w : World} (H : HR 0 M h w) {p : Pl} {o : Ob} {x : Obj} (hM : M h.next = some p) (hx : w.heap[p.b]? = some x) (ho : OR M o p x) (own : ∀ id q, M id = some q → q.b = p.b → id = h.next) : HR 0 M (h.new o) w := by
  refine ⟨Hp.wf_new H.wf o, H.inHeap, fun _ _ _ => .inr (Nat.zero_le _), ?_, ?_⟩
  · intro i j pi pj oi oj hi hj gi gj li lj hb
    by_cases ei : i = h.next
    · subst ei
      rw [hM] at hi; injection hi with hi; subst hi
      exact (own j pj hj hb.symm).symm
    · by_cases ej : j = h.next
      · subst ej
        rw [hM] at hj; injection hj with hj; subst hj
        exact own i pi hi hb
      · rw [Hp.get_new, if_neg ei] at gi
        rw [Hp.get_new, if_neg ej] at gj
        exact H.one i j pi pj oi oj hi hj gi gj li lj hb
  · intro i q oo hq hg hl
    rw [Hp.get_new] at hg
    split at hg
    · rename_i e; subst e
      injection hg with hg; subst hg
      rw [hM] at hq; injection hq with hq; subst hq
      exact ⟨x, hx, ho⟩
    · exact H.ob i q oo hq hg hl

theorem Env.val_put_ne (e : Env) (d : Option Tmp) (t : Nat) (v : Value) (h : d ≠ some t) : (Env.put e d v).val t = e.val t := by
  cases d with
  | none => rfl
  | some d =>
    by_cases hd : d < e.n
    · rw [Env.val_put _ _ _ _ hd, if_neg (fun e => h (by rw [e]))]
    · simp only [Env.put, if_neg hd]

theorem Act.getD_put_ne (a : Act) (d : Option Tmp) (t : Nat) (v : Value) (h : d ≠ some t) : (a.put d v).tmps.getD t undef = a.tmps.getD t undef := by
  cases d with
  | none => rfl
  | some d =>
    have : d ≠ t := fun e => h (by rw [e])
    simp only [Act.put, Array.getD_eq_getD_getElem?, Array.getElem?_setIfInBounds, if_neg this]

section
variable {G : Tabs} {P : Program} {r : Ev} {info : RegInfo} {ops : Array Oper} {S : Tc} {m : Nat}

abbrev NextOK (r : Ev) : Prop := ∀ f args (h : Hp) out (h1 : Hp), r.call f args h = some (out, h1) → h.next ≤ h1.next

/-- operation i made a block -/
def Al (G : Tabs) (ops : Array Oper) (S : Tc) (i : Nat) (n : New) : Prop :=
  ∃ o, ops[i]? = some o ∧ wantedA ops (S i).1 o = true ∧ isEff o.op = false ∧ nStep G (S i).1 o = some n ∧ (S i).2.get (S i).2.next = none ∧ (S (i + 1)).2 = (S i).2.new n.ob

theorem Trace.step_next (T : Trace G r info ops S m) (hn : NextOK r) {i : Nat} (hi : i < m) : (S i).2.next ≤ (S (i + 1)).2.next := by
  have hlt : i < ops.size := Nat.lt_of_lt_of_le hi T.le
  obtain h := T.kind i ops[i] hi (Array.getElem?_eq_getElem hlt)
  cases h with
  | skip hw he hh => rw [hh]; exact Nat.le_refl _
  | eff hw hf hs he => exact eStep_next (res := .val _ _) hn hs
  | still hw hf hs he hh => rw [hh]; exact Nat.le_refl _
  | alloc hw hf hs hn' he hh => rw [hh, Hp.next_new]; omega

theorem Trace.next_le (T : Trace G r info ops S m) (hn : NextOK r) {i j : Nat} (hij : i ≤ j) (hj : j ≤ m) : (S i).2.next ≤ (S j).2.next := by
  induction j with
  | zero => have : i = 0 := by omega
            subst this; exact Nat.le_refl _
  | succ j ih =>
    rcases Nat.lt_or_ge i (j + 1) with h | h
    · exact Nat.le_trans (ih (by omega) (by omega)) (T.step_next hn (by omega))
    · have : i = j + 1 := by omega
      subst this; exact Nat.le_refl _

theorem Kind.put {i : Nat} {o : Oper} (h : Kind G r ops S i o) : ∃ v, (S (i + 1)).1 = Env.put (S i).1 o.dst v := by
  cases h with
  | skip hw he hh => exact ⟨_, he⟩
  | eff hw hf hs he => exact ⟨_, he⟩
  | still hw hf hs he hh => exact ⟨_, he⟩
  | alloc hw hf hs hn' he hh => exact ⟨_, he⟩

theorem Trace.same (T : Trace G r info ops S m) {i : Nat} (hi : i ≤ m) : (S i).1.n = (S 0).1.n ∧ (S i).1.defers = (S 0).1.defers ∧ (S i).1.fn = (S 0).1.fn := by
  induction i with
  | zero => exact ⟨rfl, rfl, rfl⟩
  | succ i ih =>
    have hlt : i < ops.size := Nat.lt_of_lt_of_le hi T.le
    obtain ⟨v, hv⟩ := (T.kind i ops[i] (by omega) (Array.getElem?_eq_getElem hlt)).put
    obtain ⟨h1, h2, h3⟩ := ih (by omega)
    rw [hv]
    exact ⟨by rw [Env.n_put, h1], by rw [Env.defers_put, h2], by rw [Env.fn_put, h3]⟩

theorem Trace.val_from (T : Trace G r info ops S m) {j t : Nat} : ∀ i, j ≤ i → i ≤ m → (∀ k o, j ≤ k → k < i → ops[k]? = some o → o.dst ≠ some t) → (S i).1.val t = (S j).1.val t := by
  intro i
  induction i with
  | zero => intro h _ _; have : j = 0 := by omega
            subst this; rfl
  | succ i ih =>
    intro hij hi hno
    rcases Nat.lt_or_ge j (i + 1) with h | h
    · have hlt : i < ops.size := Nat.lt_of_lt_of_le hi T.le
      obtain ⟨v, hv⟩ := (T.kind i ops[i] (by omega) (Array.getElem?_eq_getElem hlt)).put
      rw [hv, Env.val_put_ne _ _ _ _ (hno i _ (by omega) (by omega) (Array.getElem?_eq_getElem hlt))]
      exact ih (by omega) (by omega) fun k o h1 h2 => hno k o h1 (by omega)
    · have : j = i + 1 := by omega
      subst this; rfl

theorem Al.lt_next {i : Nat} {n : New} (h : Al G ops S i n) : (S i).2.next < (S (i + 1)).2.next := by
  obtain ⟨o, _, _, _, _, _, hh⟩ := h
  rw [hh, Hp.next_new]; omega

theorem Al.not_fires {i : Nat} {n : New} (h : Al G ops S i n) : ¬ Fires ops S i := by
  rintro ⟨o', g1, _, g3⟩
  obtain ⟨o, h1, _, h3, _⟩ := h
  rw [h1] at g1; injection g1 with g1; subst g1
  rw [h3] at g3; cases g3

/-- the temporaries -/
structure EnvX (ops : Array Oper) (S : Tc) (X : Nat → Prop) (M : Mp) (a : Act) : Prop where
  wr : ∀ k o d, X k → ops[k]? = some o → o.dst = some d → VR M ((S (k + 1)).1.val d) (a.tmps.getD d undef)
  un : ∀ t, (∀ k o, X k → ops[k]? = some o → o.dst ≠ some t) → VR M ((S 0).1.val t) (a.tmps.getD t undef)
  size : a.tmps.size = (S 0).1.n
  defers : All2 (DR M) (S 0).1.defers a.defers

theorem DR.mono {M M' : Mp} (hM : M.le M') {d d' : Deferred} (h : DR M d d') : DR M' d d' := by
  obtain ⟨f, c, c', h1, h2, h3, h4⟩ := h
  exact ⟨f, c, c', h1, h2, h3.mono hM, h4.mono hM⟩
theorem DRs.mono {M M' : Mp} (hM : M.le M') {l l' : List Deferred} (h : All2 (DR M) l l') : All2 (DR M') l l' := by
  induction h with
  | nil => exact .nil
  | cons h _ ih => exact .cons (h.mono hM) ih

theorem EnvX.mono {X : Nat → Prop} {M M' : Mp} {a : Act} (E : EnvX ops S X M a) (hM : M.le M') : EnvX ops S X M' a :=
  ⟨fun k o d h1 h2 h3 => (E.wr k o d h1 h2 h3).mono hM, fun t h => (E.un t h).mono hM, E.size, DRs.mono hM E.defers⟩

abbrev Uniq (ops : Array Oper) : Prop := ∀ (i k : Nat) (o p : Oper), ops[i]? = some o → ops[k]? = some p → i ≠ k → ∀ d, o.dst = some d → p.dst ≠ some d

theorem EnvX.step (T : Trace G r info ops S m) (U : Uniq ops) {X : Nat → Prop} {M M' : Mp} {a : Act} (E : EnvX ops S X M a) {i : Nat} {o : Oper} (hX : ¬ X i) (hi : ops[i]? = some o) (him : i < m) (hM : M.le M') {v v' : Value}
    (hv : VR M' v v') (he : (S (i + 1)).1 = Env.put (S i).1 o.dst v) : EnvX ops S (fun j => X j ∨ j = i) M' (a.put o.dst v') := by
  refine ⟨?_, ?_, ?_, ?_⟩
  · intro k p d hk hp hd
    by_cases hki : k = i
    · subst hki
      rw [hi] at hp; injection hp with hp; subst hp
      rw [he]
      by_cases hdn : d < (S k).1.n
      · rw [hd, Env.val_put _ _ _ _ hdn, if_pos rfl, Act.getD_put _ _ _ _ (by rw [E.size, ← (T.same (Nat.le_of_lt him)).1]; exact hdn), if_pos rfl]
        exact hv
      · have h1 : Env.put (S k).1 (some d) v = (S k).1 := by simp only [Env.put, if_neg hdn]
        have h2 : a.put (some d) v' = a := by
          have : a.tmps.setIfInBounds d v' = a.tmps := Array.setIfInBounds_eq_of_size_le (by rw [E.size, ← (T.same (Nat.le_of_lt him)).1]; exact Nat.le_of_not_lt hdn)
          simp only [Act.put, this]
        rw [hd, h1, h2]
        rw [T.val_from (j := 0) k (Nat.zero_le _) (Nat.le_of_lt him) fun q p _ hq hp => U k q o p hi hp (by omega) d hd]
        refine (E.un d fun q p hq hp => ?_).mono hM
        have hne : k ≠ q := fun e => hX (by rw [e]; exact hq)
        exact U k q o p hi hp hne d hd
    · have hXk : X k := hk.resolve_right hki
      rw [Act.getD_put_ne _ _ _ _ (U k i p o hp hi hki d hd)]
      exact (E.wr k p d hXk hp hd).mono hM
  · intro t ht
    rw [Act.getD_put_ne _ _ _ _ (ht i o (.inr rfl) hi)]
    exact (E.un t fun k p hk hp => ht k p (.inl hk) hp).mono hM
  · rw [← E.size]
    cases o.dst with
    | none => rfl
    | some d => simp [Act.put]
  · have : (a.put o.dst v').defers = a.defers := by cases o.dst <;> rfl
    rw [this]
    exact DRs.mono hM E.defers

/-- the memory, at a time where the next operation with an effect is t -/
structure HpX (G : Tabs) (ops : Array Oper) (S : Tc) (m : Nat) (M0 : Mp) (w0 : World) (X : Nat → Prop) (t : Nat) (M : Mp) (w : World) : Prop where
  hr : HR 0 M (S t).2 w
  ext : Ext0 M0 (S 0).2 w0 M (S t).2 w
  dom : ∀ id p, M id = some p → M0 id = some p ∨ ((S 0).2.next ≤ id ∧ id < (S t).2.next) ∨ ∃ i n, i < m ∧ Al G ops S i n ∧ X i ∧ t ≤ i ∧ id = (S i).2.next
  no : ∀ i n, i < m → Al G ops S i n → ¬ X i → M (S i).2.next = none
  ob : ∀ i n, i < m → Al G ops S i n → ¬ X i → i < t → (S t).2.get (S i).2.next = some n.ob
  pend : ∀ i n, i < m → Al G ops S i n → X i → t ≤ i → ∃ b x, M (S i).2.next = some ⟨b, 0, .rw⟩ ∧ w0.heap.size ≤ b ∧ w.heap[b]? = some x ∧ OR M n.ob ⟨b, 0, .rw⟩ x ∧ ∀ id q, M id = some q → q.b = b → id = (S i).2.next

variable {M0 : Mp} {w0 : World} {X : Nat → Prop} {t : Nat} {M : Mp} {w : World}

theorem HpX.idle (H : HpX G ops S m M0 w0 X t M w) {i : Nat} (hi : ∀ n, ¬ Al G ops S i n) : HpX G ops S m M0 w0 (fun j => X j ∨ j = i) t M w := by
  refine ⟨H.hr, H.ext, fun id p hp => ?_, fun j n hj ha hx => H.no j n hj ha fun h => hx (.inl h), fun j n hj ha hx => H.ob j n hj ha fun h => hx (.inl h), fun j n hj ha hx ht => ?_⟩
  · rcases H.dom id p hp with h | h | ⟨j, n, h1, h2, h3, h4⟩
    · exact .inl h
    · exact .inr (.inl h)
    · exact .inr (.inr ⟨j, n, h1, h2, .inl h3, h4⟩)
  · rcases hx with hx | hx
    · exact H.pend j n hj ha hx ht
    · subst hx; exact absurd ha (hi n)

theorem Al.id_ne (T : Trace G r info ops S m) (hn : NextOK r) {i j : Nat} {n n' : New} (hi : i < m) (hj : j < m) (ai : Al G ops S i n) (aj : Al G ops S j n') (hne : i ≠ j) : (S i).2.next ≠ (S j).2.next := by
  rcases Nat.lt_or_ge i j with h | h
  · have := ai.lt_next
    have := T.next_le hn (i := i + 1) (j := j) h (by omega)
    omega
  · have := aj.lt_next
    have := T.next_le hn (i := j + 1) (j := i) (by omega) (by omega)
    omega

theorem HpX.alloc (T : Trace G r info ops S m) (hn : NextOK r) (H : HpX G ops S m M0 w0 X t M w) (htm : t ≤ m) {i : Nat} {n : New} (hi : i < m) (ha : Al G ops S i n) (hX : ¬ X i) {x : Obj}
    (hx : ∀ M', M.le M' → OR M' n.ob ⟨w.heap.size, 0, .rw⟩ x) : HpX G ops S m M0 w0 (fun j => X j ∨ j = i) t (M.upd (S i).2.next ⟨w.heap.size, 0, .rw⟩) (w.alloc x) := by
  have hM := H.no i n hi ha hX
  have hle : M.le (M.upd (S i).2.next ⟨w.heap.size, 0, .rw⟩) := Mp.le_upd hM
  have h0i := T.next_le hn (Nat.zero_le i) (Nat.le_of_lt hi)
  refine ⟨?_, ?_, ?_, ?_, ?_, ?_⟩
  · refine H.hr.fill hM (.inr (Nat.zero_le _)) fun o ho _ => ?_
    rcases Nat.lt_or_ge i t with h | h
    · rw [H.ob i n hi ha hX h] at ho
      injection ho with ho; subst ho
      exact hx _ hle
    · rw [H.hr.wf _ (T.next_le hn h (Nat.le_of_lt hi))] at ho; cases ho
  · have E := H.ext
    refine ⟨E.le.trans hle, ?_, ?_, ?_, ?_, E.held, E.os, E.out, E.tape⟩
    · have := E.size
      unfold World.alloc; simp; omega
    · intro b hb hm
      rw [← E.keep b hb hm]
      have : b < w.heap.size := Nat.lt_of_lt_of_le hb E.size
      simp only [World.alloc]
      rw [Array.getElem?_push_lt this, Array.getElem?_eq_getElem this]
    · intro b hm hb
      obtain ⟨id, p, o, hp, hg, hl, hpb, hk⟩ := hm
      unfold Mp.upd at hp
      split at hp
      · injection hp with hp; subst hp
        have := E.size
        simp only at hpb; omega
      · exact E.touch b ⟨id, p, o, hp, hg, hl, hpb, hk⟩ hb
    · intro id p hp h0
      unfold Mp.upd at hp
      split at hp
      · injection hp with hp; subst hp
        exact .inl E.size
      · exact E.newb id p hp h0
  · intro id p hp
    unfold Mp.upd at hp
    split at hp
    · rename_i e
      rcases Nat.lt_or_ge i t with h | h
      · have := ha.lt_next
        have := T.next_le hn (i := i + 1) (j := t) h htm
        exact .inr (.inl ⟨by omega, by omega⟩)
      · exact .inr (.inr ⟨i, n, hi, ha, .inr rfl, h, e⟩)
    · rcases H.dom id p hp with h | h | ⟨j, n, h1, h2, h3, h4⟩
      · exact .inl h
      · exact .inr (.inl h)
      · exact .inr (.inr ⟨j, n, h1, h2, .inl h3, h4⟩)
  · intro j n' hj ha' hx'
    have hne : j ≠ i := fun e => hx' (.inr e)
    unfold Mp.upd
    rw [if_neg (Al.id_ne T hn hj hi ha' ha hne)]
    exact H.no j n' hj ha' fun h => hx' (.inl h)
  · intro j n' hj ha' hx' ht
    exact H.ob j n' hj ha' (fun h => hx' (.inl h)) ht
  · intro j n' hj ha' hx' ht
    by_cases e : j = i
    · subst e
      obtain ⟨o1, a1, a2, a3, a4, _⟩ := ha
      obtain ⟨o2, b1, b2, b3, b4, _⟩ := ha'
      rw [a1] at b1; injection b1 with b1; subst b1
      rw [a4] at b4; injection b4 with b4; subst b4
      refine ⟨w.heap.size, x, Mp.upd_same _ _ _, H.ext.size, by unfold World.alloc; simp, hx _ hle, fun id q hq hqb => ?_⟩
      unfold Mp.upd at hq
      split at hq
      · rename_i e; exact e
      · have := H.hr.inHeap _ _ hq; omega
    · obtain ⟨b, y, g1, g2, g3, g4, g5⟩ := H.pend j n' hj ha' (hx'.resolve_right e) ht
      have hne := Al.id_ne T hn hj hi ha' ha e
      have hb : b < w.heap.size := H.hr.inHeap _ _ g1
      refine ⟨b, y, hle _ _ g1, g2, ?_, g4.mono hle, fun id q hq hqb => ?_⟩
      · simp only [World.alloc]
        rw [Array.getElem?_push_lt hb]
        rw [Array.getElem?_eq_getElem hb] at g3
        exact g3
      · unfold Mp.upd at hq
        split at hq
        · injection hq with hq; subst hq
          simp only at hqb; omega
        · exact g5 id q hq hqb

theorem HpX.fresh (T : Trace G r info ops S m) (hn : NextOK r) (H : HpX G ops S m M0 w0 X t M w) {B0 B1 : Nat} (h0 : HR B0 M0 (S 0).2 w0) (htm : t ≤ m) (hB : B1 ≤ B0)
    (h1 : ∀ i n, i < m → Al G ops S i n → t ≤ i → B1 ≤ (S i).2.next) : HR B1 M (S t).2 w := by
  refine ⟨H.hr.wf, H.hr.inHeap, fun id p hp => ?_, H.hr.one, H.hr.ob⟩
  have h0t := T.next_le hn (Nat.zero_le t) htm
  rcases H.dom id p hp with h | h | ⟨j, n, g1, g2, g3, g4, g5⟩
  · rcases h0.fresh _ _ h with h | h
    · left; omega
    · right; omega
  · exact .inl h.2
  · right; rw [g5]; exact h1 j n g1 g2 g4

/-- an operation with an effect -/
theorem HpX.effect (T : Trace G r info ops S m) (hn : NextOK r) (H : HpX G ops S m M0 w0 X t M w) (htm : t < m) (hf : Fires ops S t) {M' : Mp} {w' : World} {B1 : Nat}
    (E : Ext M (S t).2 w M' (S (t + 1)).2 w') (H' : HR B1 M' (S (t + 1)).2 w') : HpX G ops S m M0 w0 (fun j => X j ∨ j = t) (t + 1) M' w' := by
  have h0t := T.next_le hn (Nat.zero_le t) (Nat.le_of_lt htm)
  have nal : ∀ n, ¬ Al G ops S t n := fun n ha => ha.not_fires hf
  have above : ∀ j n, j < m → Al G ops S j n → t ≤ j → t + 1 ≤ j := by
    intro j n _ ha hj
    rcases Nat.lt_or_ge t j with h | h
    · exact h
    · have : j = t := by omega
      subst this; exact absurd ha (nal n)
  have un : ∀ j n, j < m → Al G ops S j n → ¬ X j → M' (S j).2.next = none := by
    intro j n hj ha hx
    have h1 := H.no j n hj ha hx
    cases hm : M' (S j).2.next with
    | none => rfl
    | some q =>
      have hr := E.range _ _ hm h1
      rcases Nat.lt_or_ge j t with h | h
      · have := ha.lt_next
        have := T.next_le hn (i := j + 1) (j := t) h (Nat.le_of_lt htm)
        omega
      · have := T.next_le hn (i := t + 1) (j := j) (above j n hj ha h) (Nat.le_of_lt hj)
        omega
  refine ⟨H'.zero, ?_, ?_, ?_, ?_, ?_⟩
  · have E0 := H.ext
    refine ⟨E0.le.trans E.le, Nat.le_trans E0.size E.size, ?_, ?_, ?_, ?_, E.os.trans E0.os, E.out.trans E0.out, E.tape.trans E0.tape⟩
    · intro b hb hm
      rw [E.keep b (Nat.lt_of_lt_of_le hb E0.size) (fun hm' => hm (E0.touch b hm' hb)), E0.keep b hb hm]
    · intro b hm hb
      exact E0.touch b (E.touch b hm (Nat.lt_of_lt_of_le hb E0.size)) hb
    · intro id p hp h0
      cases hm : M id with
      | some q =>
        have := E.le _ _ hm
        rw [hp] at this; injection this with this; subst this
        exact E0.newb id _ hm h0
      | none =>
        rcases E.newb id p hp hm with hs | hs
        · exact .inl (Nat.le_trans E0.size hs)
        · rcases Nat.lt_or_ge p.b w0.heap.size with hl | hl
          · exact .inr (E0.touch _ hs hl)
          · exact .inl hl
    · intro id h0 hlt
      have hm : M id = none := by
        cases hm : M id with
        | none => rfl
        | some q =>
          rcases H.dom id q hm with h | h | ⟨j, n, g1, g2, g3, g4, g5⟩
          · rw [h0] at h; cases h
          · omega
          · have := T.next_le hn (i := 0) (j := j) (Nat.zero_le _) (Nat.le_of_lt g1); omega
      rw [E.held id hm (by omega), E0.held id h0 hlt]
  · intro id p hp
    cases hm : M id with
    | some q =>
      have := E.le _ _ hm
      rw [hp] at this; injection this with this; subst this
      rcases H.dom id _ hm with h | h | ⟨j, n, g1, g2, g3, g4, g5⟩
      · exact .inl h
      · have := E.next
        exact .inr (.inl ⟨h.1, by omega⟩)
      · exact .inr (.inr ⟨j, n, g1, g2, .inl g3, above j n g1 g2 g4, g5⟩)
    | none =>
      have := E.range id p hp hm
      exact .inr (.inl ⟨by omega, this.2⟩)
  · exact fun j n hj ha hx => un j n hj ha fun h => hx (.inl h)
  · intro j n hj ha hx ht
    have hX : ¬ X j := fun h => hx (.inl h)
    have hjt : j < t := by
      rcases Nat.lt_or_ge j t with h | h
      · exact h
      · have := above j n hj ha h; omega
    have := ha.lt_next
    have := T.next_le hn (i := j + 1) (j := t) hjt (Nat.le_of_lt htm)
    rw [E.held _ (H.no j n hj ha hX) (by omega)]
    exact H.ob j n hj ha hX hjt
  · intro j n hj ha hx ht
    have hX : X j := hx.resolve_right (by omega)
    obtain ⟨b, y, g1, g2, g3, g4, g5⟩ := H.pend j n hj ha hX (by omega)
    have hb : b < w.heap.size := H.hr.inHeap _ _ g1
    have notmay : ¬ may M (S t).2 b := by
      rintro ⟨id, p, o, hp, hg, hl, hpb, hk⟩
      have := g5 id p hp hpb
      subst this
      rw [H.hr.wf _ (T.next_le hn (i := t) (j := j) (by omega) (Nat.le_of_lt hj))] at hg
      cases hg
    refine ⟨b, y, E.le _ _ g1, g2, by rw [E.keep b hb notmay]; exact g3, g4.mono E.le, fun id q hq hqb => ?_⟩
    cases hm : M id with
    | some q' =>
      have := E.le _ _ hm
      rw [hq] at this; injection this with this; subst this
      exact g5 id q hm hqb
    | none =>
      rcases E.newb id q hq hm with h | h
      · omega
      · rw [hqb] at h; exact absurd h notmay

/-- past an operation without an effect -/
theorem HpX.past (T : Trace G r info ops S m) (hn : NextOK r) (H : HpX G ops S m M0 w0 X t M w) (htm : t < m) (hf : ¬ Fires ops S t) : HpX G ops S m M0 w0 X (t + 1) M w := by
  have hlt : t < ops.size := Nat.lt_of_lt_of_le htm T.le
  have h0t := T.next_le hn (Nat.zero_le t) (Nat.le_of_lt htm)
  have idle : (S (t + 1)).2 = (S t).2 → HpX G ops S m M0 w0 X (t + 1) M w := by
    intro hh
    have nal : ∀ n, ¬ Al G ops S t n := fun n ha => by have := ha.lt_next; rw [hh] at this; omega
    have above : ∀ j n, Al G ops S j n → t ≤ j → t + 1 ≤ j := by
      intro j n ha hj
      rcases Nat.lt_or_ge t j with h | h
      · exact h
      · have : j = t := by omega
        subst this; exact absurd ha (nal n)
    refine ⟨by rw [hh]; exact H.hr, by rw [hh]; exact H.ext, fun id p hp => ?_, H.no, fun j n hj ha hx ht => ?_, fun j n hj ha hx ht => H.pend j n hj ha hx (by omega)⟩
    · rw [hh]
      rcases H.dom id p hp with h | h | ⟨j, n, g1, g2, g3, g4, g5⟩
      · exact .inl h
      · exact .inr (.inl h)
      · exact .inr (.inr ⟨j, n, g1, g2, g3, above j n g2 g4, g5⟩)
    · rw [hh]
      refine H.ob j n hj ha hx ?_
      rcases Nat.lt_or_ge j t with h | h
      · exact h
      · have := above j n ha h; omega
  cases T.kind t ops[t] htm (Array.getElem?_eq_getElem hlt) with
  | skip hw he hh => exact idle hh
  | still hw hf hs he hh => exact idle hh
  | eff hw hf' hs he => exact absurd ⟨_, Array.getElem?_eq_getElem hlt, hw, hf'⟩ hf
  | @alloc hw hf' n hs hnone he hh =>
    have ha : Al G ops S t n := ⟨_, Array.getElem?_eq_getElem hlt, hw, hf', hs, hnone, hh⟩
    have uniq : ∀ n', Al G ops S t n' → n' = n := by
      rintro n' ⟨o2, b1, b2, b3, b4, _⟩
      rw [Array.getElem?_eq_getElem hlt] at b1; injection b1 with b1; subst b1
      rw [hs] at b4; injection b4 with b4; exact b4.symm
    have hheld : ∀ id, M0 id = none → id < (S 0).2.next → (S (t + 1)).2.get id = (S 0).2.get id := by
      intro id h0 hl
      rw [hh, Hp.get_new, if_neg (by omega)]
      exact H.ext.held id h0 hl
    have hdom : ∀ id p, M id = some p → M0 id = some p ∨ ((S 0).2.next ≤ id ∧ id < (S (t + 1)).2.next) ∨ ∃ i n, i < m ∧ Al G ops S i n ∧ X i ∧ t + 1 ≤ i ∧ id = (S i).2.next := by
      intro id p hp
      rw [hh, Hp.next_new]
      rcases H.dom id p hp with h | h | ⟨j, n', g1, g2, g3, g4, g5⟩
      · exact .inl h
      · exact .inr (.inl ⟨h.1, by omega⟩)
      · rcases Nat.lt_or_ge t j with h | h
        · exact .inr (.inr ⟨j, n', g1, g2, g3, h, g5⟩)
        · have : j = t := by omega
          subst this
          exact .inr (.inl ⟨by omega, by omega⟩)
    have hob : ∀ j n', j < m → Al G ops S j n' → ¬ X j → j < t + 1 → (S (t + 1)).2.get (S j).2.next = some n'.ob := by
      intro j n' hj ha' hx ht
      by_cases e : j = t
      · subst e
        rw [hh, Hp.get_new, if_pos rfl, uniq n' ha']
      · have hlt2 := ha'.lt_next
        have := T.next_le hn (i := j + 1) (j := t) (by omega) (Nat.le_of_lt htm)
        rw [hh, Hp.get_new, if_neg (by omega)]
        exact H.ob j n' hj ha' hx (by omega)
    have E0 := H.ext
    by_cases hX : X t
    · obtain ⟨b, y, g1, g2, g3, g4, g5⟩ := H.pend t n htm ha hX (Nat.le_refl _)
      refine ⟨by rw [hh]; exact H.hr.wake g1 g3 g4 g5, ⟨E0.le, E0.size, E0.keep, ?_, E0.newb, hheld, E0.os, E0.out, E0.tape⟩, hdom, H.no, hob, fun j n' hj ha' hx ht => H.pend j n' hj ha' hx (by omega)⟩
      rintro b' ⟨id, p, o, hp, hg, hl, hpb, hk⟩ hb'
      rw [hh, Hp.get_new] at hg
      split at hg
      · rename_i e; subst e
        rw [g1] at hp; injection hp with hp; subst hp
        simp only at hpb; omega
      · exact E0.touch b' ⟨id, p, o, hp, hg, hl, hpb, hk⟩ hb'
    · have g1 := H.no t n htm ha hX
      refine ⟨by rw [hh]; exact H.hr.name0 g1 _, ⟨E0.le, E0.size, E0.keep, ?_, E0.newb, hheld, E0.os, E0.out, E0.tape⟩, hdom, H.no, hob, fun j n' hj ha' hx ht => H.pend j n' hj ha' hx (by omega)⟩
      rintro b' ⟨id, p, o, hp, hg, hl, hpb, hk⟩ hb'
      rw [hh, Hp.get_new] at hg
      split at hg
      · rename_i e; subst e; rw [g1] at hp; cases hp
      · exact E0.touch b' ⟨id, p, o, hp, hg, hl, hpb, hk⟩ hb'

end
end Go.AE

namespace Go.AE

theorem sStep_indep {G : Tabs} {e : Env} {o : Oper} (hr : reads o.op = false) (h h' : Hp) : sStep G e h o = sStep G e h' o := by
  unfold sStep
  cases hop : o.op <;> rw [hop] at hr <;> first | rfl | cases hr

theorem keepTmps_spec {ops : Array Oper} {tmps : Tr Value} : ∀ (l : List Tmp) (t : Nat) (v : Value), (keepTmps ops tmps l).get t = some v → tmps.get t = some v ∧ ∀ (k : Nat) (o : Oper), ops[k]? = some o → o.dst ≠ some t := by
  intro l
  induction l with
  | nil => intro t v h; cases h
  | cons u l ih =>
    intro t v h
    simp only [keepTmps] at h
    cases hb : ops.toList.any (dstIs u) with
    | true => rw [hb] at h; exact ih t v h
    | false =>
      rw [hb] at h
      simp only [cond_false] at h
      split at h
      · rename_i x hx
        rw [Tr.get_set] at h
        split at h
        · rename_i e; subst e
          injection h with h; subst h
          refine ⟨hx, fun k o ho hd => ?_⟩
          rw [List.any_eq_false] at hb
          have := hb o (by rw [Array.mem_toList_iff]; exact Array.mem_of_getElem? ho)
          unfold dstIs at this
          rw [hd] at this
          exact this (Nat.beq_refl t)
        · exact ih t v h
      · exact ih t v h

section
variable {G : Tabs} {P : Program} {r : Ev} {info : RegInfo} {ops : Array Oper} {S : Tc} {m : Nat} {M0 : Mp} {w0 : World} {B0 : Nat} {x : Ex × Env × Hp} {Q : Exit → Act → World → Prop}

abbrev lst (listed : Array Bool) (j : Nat) : Prop := listed.getD j false = true

structure Inv (G : Tabs) (ops : Array Oper) (S : Tc) (m : Nat) (M0 : Mp) (w0 : World) (t : Nat) (listed : Array Bool) (M : Mp) (a : Act) (w : World) : Prop where
  size : listed.size = ops.size
  closed : Closed ops (lst listed)
  lt : ∀ j, lst listed j → j < m
  tm : t ≤ m
  ft : Fires ops S t ∨ t = m
  effs : ∀ q, Fires ops S q → q < m → (lst listed q ↔ q < t)
  env : EnvX ops S (lst listed) M a
  hp : HpX G ops S m M0 w0 (lst listed) t M w

theorem lst_set {listed : Array Bool} {i : Nat} (hi : i < listed.size) : lst (listed.setIfInBounds i true) = fun j => lst listed j ∨ j = i := by
  funext j
  unfold lst
  apply propext
  simp only [Array.getD_eq_getD_getElem?, Array.getElem?_setIfInBounds]
  by_cases e : i = j
  · subst e; simp [hi]
  · rw [if_neg e]
    constructor
    · exact fun h => .inl h
    · rintro (h | h)
      · exact h
      · exact absurd h.symm e

theorem HpX.advance (T : Trace G r info ops S m) (hn : NextOK r) {X : Nat → Prop} {M : Mp} {w : World} : ∀ (d t : Nat), m - t = d → t ≤ m → HpX G ops S m M0 w0 X t M w →
    ∃ t', t ≤ t' ∧ t' ≤ m ∧ HpX G ops S m M0 w0 X t' M w ∧ (Fires ops S t' ∨ t' = m) ∧ ∀ q, t ≤ q → q < t' → ¬ Fires ops S q := by
  intro d
  induction d with
  | zero => intro t hd ht H; exact ⟨t, Nat.le_refl _, ht, H, .inr (by omega), fun q h1 h2 => by omega⟩
  | succ d ih =>
    intro t hd ht H
    by_cases hf : Fires ops S t
    · exact ⟨t, Nat.le_refl _, ht, H, .inl hf, fun q h1 h2 => by omega⟩
    · obtain ⟨t', h1, h2, h3, h4, h5⟩ := ih (t + 1) (by omega) (by omega) (H.past T hn (by omega) hf)
      refine ⟨t', by omega, h2, h3, h4, fun q hq1 hq2 => ?_⟩
      rcases Nat.lt_or_ge t q with h | h
      · exact h5 q h hq2
      · have : q = t := by omega
        subst this; exact hf

theorem HpX.toExt (T : Trace G r info ops S m) (hn : NextOK r) {X : Nat → Prop} {M : Mp} {w : World} (H : HpX G ops S m M0 w0 X m M w) : Ext M0 (S 0).2 w0 M (S m).2 w := by
  have E := H.ext
  refine ⟨E.le, T.next_le hn (Nat.zero_le _) (Nat.le_refl _), E.size, E.keep, E.touch, E.newb, fun id p hp h0 => ?_, E.held, E.os, E.out, E.tape⟩
  rcases H.dom id p hp with h | h | ⟨j, n, g1, g2, g3, g4, g5⟩
  · rw [h0] at h; cases h
  · exact h
  · omega

/-- going back over blocks made, what was there is there -/
theorem Trace.grow (T : Trace G r info ops S m) {i : Nat} : ∀ t, i ≤ t → t ≤ m → (∀ q, i ≤ q → q < t → ¬ Fires ops S q) → ∀ id o, (S i).2.get id = some o → (S t).2.get id = some o := by
  intro t
  induction t with
  | zero => intro h _ _ id o ho; have : i = 0 := by omega
            subst this; exact ho
  | succ t ih =>
    intro hit htm hno id o ho
    rcases Nat.lt_or_ge i (t + 1) with h | h
    · have h1 := ih (by omega) (by omega) (fun q h1 h2 => hno q h1 (by omega)) id o ho
      have hlt : t < ops.size := Nat.lt_of_lt_of_le htm T.le
      cases T.kind t ops[t] (by omega) (Array.getElem?_eq_getElem hlt) with
      | skip hw he hh => rw [hh]; exact h1
      | still hw hf hs he hh => rw [hh]; exact h1
      | eff hw hf' hs he => exact absurd ⟨_, Array.getElem?_eq_getElem hlt, hw, hf'⟩ (hno t (by omega) (by omega))
      | alloc hw hf' hs hnone he hh =>
        rw [hh, Hp.get_new, if_neg (fun e => by subst e; rw [hnone] at h1; cases h1)]
        exact h1
    · have : i = t + 1 := by omega
      subst this; exact ho

theorem Trace.wf_back (T : Trace G r info ops S m) {i : Nat} : ∀ t, i ≤ t → t ≤ m → (∀ q, i ≤ q → q < t → ¬ Fires ops S q) → (∀ id, (S t).2.next ≤ id → (S t).2.get id = none) → ∀ id, (S i).2.next ≤ id → (S i).2.get id = none := by
  intro t
  induction t with
  | zero => intro h _ _ hw; have : i = 0 := by omega
            subst this; exact hw
  | succ t ih =>
    intro hit htm hno hw
    rcases Nat.lt_or_ge i (t + 1) with h | h
    · refine ih (by omega) (by omega) (fun q h1 h2 => hno q h1 (by omega)) ?_
      have hlt : t < ops.size := Nat.lt_of_lt_of_le htm T.le
      cases T.kind t ops[t] (by omega) (Array.getElem?_eq_getElem hlt) with
      | skip hw' he hh => rw [hh] at hw; exact hw
      | still hw' hf hs he hh => rw [hh] at hw; exact hw
      | eff hw' hf' hs he => exact absurd ⟨_, Array.getElem?_eq_getElem hlt, hw', hf'⟩ (hno t (by omega) (by omega))
      | alloc hw' hf' hs hnone he hh =>
        intro id hid
        by_cases e : id = (S t).2.next
        · rw [e]; exact hnone
        · have := hw id (by rw [hh, Hp.next_new]; omega)
          rw [hh, Hp.get_new, if_neg e] at this
          exact this
    · have : i = t + 1 := by omega
      subst this; exact hw

structure Given (G : Tabs) (P : Program) (r : Ev) (info : RegInfo) (ops : Array Oper) (S : Tc) (m : Nat) (M0 : Mp) (w0 : World) (B0 : Nat) (x : Ex × Env × Hp) (Q : Exit → Act → World → Prop) : Prop where
  hG : G.Fits2 P
  hC : CallOK P r.call
  hall : (ops.toList.all fun o => o.op.operands.toList.all okOpd) = true
  hd : drawOk info ops = true
  T : Trace G r info ops S m
  En : Ends G r info ops S m x
  hB : x.2.2.next ≤ B0
  h0 : HR B0 M0 (S 0).2 w0
  hQ : ∀ M a w x', Ext M0 (S 0).2 w0 M x.2.2 w → HR B0 M x.2.2 w → EndR M x.1 (drawn G ops (S 0).1 x).2.1 a → ExR M x.1 x' → Q x' a w

theorem Given.le_B (g : Given G P r info ops S m M0 w0 B0 x Q) : (S m).2.next ≤ B0 := by
  rcases g.En with ⟨_, h⟩ | ⟨o, v, h, h1, h2, h3, h4, h5, e, h6⟩
  · have := g.hB; rw [h] at this; exact this
  · have hb := g.hB
    rw [h6] at hb
    have := eStep_next (res := .pan _ _) g.hC.next h4
    simp only [Res.next] at this
    simp only at hb
    omega

theorem Given.uniq (g : Given G P r info ops S m M0 w0 B0 x Q) : Uniq ops := fun i k o p ho hp hne => ((drawOk_spec g.hd).2 i k o p ho hp hne).dst

theorem Given.step (g : Given G P r info ops S m M0 w0 B0 x Q) {t : Nat} {listed : Array Bool} {M : Mp} {a : Act} {w : World} (V : Inv G ops S m M0 w0 t listed M a w) {i : Nat} (hr : i ∈ Region.ready .any ops listed)
    {K : Act → World → Prop} (hK : ∀ t' M' a' w', Inv G ops S m M0 w0 t' (listed.setIfInBounds i true) M' a' w' → K a' w') : wpOp P ops Q i K a w := by
  obtain ⟨hun, o, hi, hbef⟩ := mem_ready.1 hr
  obtain ⟨hedge, hpairs⟩ := drawOk_spec g.hd
  have T := g.T
  have hn : NextOK r := g.hC.next
  have hisz : i < ops.size := (Array.getElem?_eq_some_iff.1 hi).1
  have hil : i < listed.size := by rw [V.size]; exact hisz
  have hX : ¬ lst listed i := by
    unfold lst
    simp only [Array.getD_eq_getD_getElem?, Array.getElem?_eq_getElem hil, Option.getD_some] at hun ⊢
    rw [hun]; simp
  have below : ∀ k, Below ops k i → lst listed k := fun k hb => hb.closed V.closed fun o' e ho' he hb' => by
    rw [hi] at ho'; injection ho' with ho'; subst ho'; exact hbef e he hb'
  have above : ∀ k, Below ops i k → ¬ lst listed k := fun k hb hk => hX (hb.closed V.closed fun o' e ho' he hb' => V.closed k o' e hk ho' he hb')
  have him : i ≤ m := by
    rcases Nat.lt_or_ge m i with h | h
    · rcases g.En with ⟨h1, _⟩ | ⟨o', v, h', h1, h2, h3, h4, h5, e, h6⟩
      · omega
      · have := below m ((hpairs m i o' o h1 hi (by omega)).last h5 h)
        have := V.lt m this; omega
    · exact h
  -- what it looks at
  have vals : ∀ u, u ∈ looks ops o → VR M ((S i).1.val u) (a.tmps.getD u undef) := by
    intro u hu
    by_cases hk : ∃ (k : Nat) (p : Oper), ops[k]? = some p ∧ p.dst = some u
    · obtain ⟨k, p, hp, hd⟩ := hk
      have only : ∀ (q : Nat) (p' : Oper), ops[q]? = some p' → p'.dst = some u → q = k := fun q p' hq hd' => by
        rcases Nat.decEq q k with h | h
        · exact absurd hd (g.uniq q k p' p hq hp h u hd')
        · exact h
      have late : ¬ lst listed k → i ≤ k → VR M ((S i).1.val u) (a.tmps.getD u undef) := by
        intro hk hik
        rw [T.val_from (j := 0) i (Nat.zero_le _) him fun q p' _ hq hp' hd' => by have := only q p' hp' hd'; omega]
        exact V.env.un u fun q p' hq hp' hd' => hk (by rw [← only q p' hp' hd']; exact hq)
      rcases Nat.lt_or_ge k i with h | h
      · have hkX := below k (((hpairs i k o p hi hp (by omega)).look u hd hu).2 h)
        rw [T.val_from (j := k + 1) i h him fun q p' h1 h2 hp' hd' => by have := only q p' hp' hd'; omega]
        exact V.env.wr k p u hkX hp hd
      · refine late ?_ h
        by_cases e : k = i
        · rw [e]; exact hX
        · exact above k (((hpairs i k o p hi hp (fun h => e h.symm)).look u hd hu).1 (by omega))
    · have nok : ∀ (q : Nat) (p' : Oper), ops[q]? = some p' → p'.dst ≠ some u := fun q p' hp' hd' => hk ⟨q, p', hp', hd'⟩
      rw [T.val_from (j := 0) i (Nat.zero_le _) him fun q p' _ _ hp' => nok q p' hp']
      exact V.env.un u fun q p' _ hp' => nok q p' hp'
  have hok := List.all_eq_true.1 g.hall o (by rw [Array.mem_toList_iff]; exact Array.mem_of_getElem? hi)
  have hρ : OpsR M (S i).1 a o.op := by
    intro y hy
    have hy2 := List.all_eq_true.1 hok y (by simpa using hy)
    cases y with
    | tmp u =>
      refine vals u (List.mem_append_left _ (List.mem_filterMap.2 ⟨.tmp u, by simpa using hy, rfl⟩))
    | const v => exact plainC_VR hy2
    | global _ => cases hy2
    | func f => exact .func _ rfl (fun i hi => absurd hi (by simp)) rfl (fun i hi => absurd hi (by simp))
  have hwant : Region.wanted o (yielded ops a.tmps) = wantedA ops (S i).1 o := wanted_eq' ops o fun j wt d hg hd => vals d (List.mem_append_right _ (by rw [hg]; simp only; rw [hd]; simp))
  have closed' : Closed ops (fun j => lst listed j ∨ j = i) := by
    intro k o' e hk ho' he hb
    rcases hk with hk | hk
    · exact .inl (V.closed k o' e hk ho' he hb)
    · subst hk
      rw [hi] at ho'; injection ho' with ho'; subst ho'
      exact .inl (hbef e he hb)
  -- the next state, where the operation has no effect
  have calm : ∀ {M' : Mp} {v v' : Value} {w' : World}, i < m → ¬ Fires ops S i → M.le M' → VR M' v v' → (S (i + 1)).1 = Env.put (S i).1 o.dst v → HpX G ops S m M0 w0 (fun j => lst listed j ∨ j = i) t M' w' →
      Inv G ops S m M0 w0 t (listed.setIfInBounds i true) M' (a.put o.dst v') w' := by
    intro M' v v' w' him' hnf hM hv he hh
    have hs := lst_set (listed := listed) (i := i) hil
    refine ⟨by simp [V.size], by rw [hs]; exact closed', ?_, V.tm, V.ft, ?_, by rw [hs]; exact V.env.step T g.uniq hX hi him' hM hv he, by rw [hs]; exact hh⟩
    · rw [hs]; rintro j (hj | hj)
      · exact V.lt j hj
      · rw [hj]; exact him'
    · rw [hs]
      intro q hq hqm
      rw [← V.effs q hq hqm]
      constructor
      · rintro (h | h)
        · exact h
        · subst h; exact absurd hq hnf
      · exact fun h => .inl h
  -- an operation with an effect comes in its turn
  have turn : Fires ops S i → t = i := by
    intro hf
    rcases Nat.lt_or_ge t i with h | h
    · have hft : Fires ops S t := V.ft.resolve_right (by omega)
      obtain ⟨p, hp, _, hpe⟩ := hft
      obtain ⟨o', ho', _, hoe⟩ := hf
      rw [hi] at ho'; injection ho' with ho'; subst ho'
      have := below t (((hpairs i t o p hi hp (by omega)).eff hpe hoe).2 h)
      have := (V.effs t (V.ft.resolve_right (by omega)) (by omega)).1 this
      omega
    · rcases Nat.lt_or_ge i t with h2 | h2
      · have := V.tm
        exact absurd ((V.effs i hf (by omega)).2 h2) hX
      · omega
  unfold wpOp
  simp only [hi]
  rw [hwant]
  by_cases hlt : i < m
  · cases T.kind i o hlt hi with
    | skip hw he hh =>
      rw [hw]
      simp only [Bool.false_eq_true, if_false]
      refine hK t M _ w (calm hlt ?_ (Mp.le_refl M) (.undef M) he (V.hp.idle fun n ha => ?_))
      · rintro ⟨o', h1, h2, _⟩; rw [hi] at h1; injection h1 with h1; subst h1; rw [hw] at h2; cases h2
      · obtain ⟨o', h1, h2, _⟩ := ha; rw [hi] at h1; injection h1 with h1; subst h1; rw [hw] at h2; cases h2
    | @eff hw hf v hs he =>
      have hfi : Fires ops S i := ⟨o, hi, hw, hf⟩
      have hti := turn hfi
      subst hti
      rw [hw]
      simp only [if_true]
      left
      have hB1 : (S (t + 1)).2.next ≤ B0 := Nat.le_trans (T.next_le hn hlt (Nat.le_refl _)) g.le_B
      have H1 := V.hp.fresh T hn g.h0 V.tm hB1 fun j n hj ha htj => by
        rcases Nat.lt_or_ge t j with h | h
        · exact T.next_le hn h (Nat.le_of_lt hj)
        · have : j = t := by omega
          subst this; exact absurd hfi ha.not_fires
      obtain ⟨_, hop⟩ := eStep_sound g.hG g.hC H1 hρ hs
      refine hop (Nat.le_refl _) _ _ fun M' v' w' E H' Vv => ?_
      have hp1 := V.hp.effect T hn hlt hfi E H'
      obtain ⟨t', k1, k2, k3, k4, k5⟩ := hp1.advance T hn _ _ rfl hlt
      have hss := lst_set (listed := listed) (i := t) hil
      refine hK t' M' _ w' ⟨by simp [V.size], by rw [hss]; exact closed', ?_, k2, k4, ?_, by rw [hss]; exact V.env.step T g.uniq hX hi hlt E.le Vv he, by rw [hss]; exact k3⟩
      · rw [hss]; rintro j (hj | hj)
        · exact V.lt j hj
        · rw [hj]; exact hlt
      · rw [hss]
        intro q hq hqm
        constructor
        · rintro (h | h)
          · have := (V.effs q hq hqm).1 h; omega
          · omega
        · intro h
          rcases Nat.lt_or_ge q t with h2 | h2
          · exact .inl ((V.effs q hq hqm).2 h2)
          · rcases Nat.lt_or_ge t q with h3 | h3
            · exact absurd hq (k5 q h3 h)
            · exact .inr (by omega)
    | @still hw hf v hs he hh =>
      rw [hw]
      simp only [if_true]
      left
      have hnf : ¬ Fires ops S i := by rintro ⟨o', h1, _, h2⟩; rw [hi] at h1; injection h1 with h1; subst h1; rw [hf] at h2; cases h2
      have hst : Still G ops S i o v := ⟨hi, hw, hf, hs⟩
      -- a state of this world at which it answers so
      have key : ∃ h', HR 0 M h' w ∧ sStep G (S i).1 h' o = some v := by
        cases hrd : reads o.op with
        | false => exact ⟨(S t).2, V.hp.hr, by rw [sStep_indep hrd _ (S i).2]; exact hs⟩
        | true =>
          rcases Nat.lt_or_ge i t with h | h
          · by_cases hq : ∃ q, Fires ops S q ∧ i < q ∧ q < t
            · obtain ⟨q, hq1, hq2, hq3⟩ := hq
              have hall : ∀ q, Fires ops S q → i < q → q < t → q ∈ looseOf info i := by
                intro q hq1 hq2 hq3
                have hqX : lst listed q := (V.effs q hq1 (by have := V.tm; omega)).2 hq3
                obtain ⟨p, hp, _, hpe⟩ := hq1
                rcases (hpairs i q o p hi hp (by omega)).rd hpe hrd with h1 | h1
                · exact absurd hqX (above q (h1.1 hq2))
                · exact h1
              exact ⟨(S t).2, V.hp.hr, sameAt_val (T.behind t V.tm V.ft i o v h hst ⟨q, hq1, hq2, hq3, hall q hq1 hq2 hq3⟩ hall)⟩
            · have hno : ∀ q, i ≤ q → q < t → ¬ Fires ops S q := by
                intro q h1 h2 h3
                rcases Nat.lt_or_ge i q with h4 | h4
                · exact hq ⟨q, h3, h4, h2⟩
                · have : q = i := by omega
                  subst this; exact hnf h3
              exact ⟨(S i).2, V.hp.hr.sub (T.wf_back t (by omega) V.tm hno V.hp.hr.wf) (T.grow t (by omega) V.tm hno), hs⟩
          · have hne : t ≠ i := by
              intro e
              rcases V.ft with h1 | h1
              · rw [e] at h1; exact hnf h1
              · omega
            have hti : t < i := by omega
            have hft : Fires ops S t := V.ft.resolve_right (by omega)
            have hloose : t ∈ looseOf info i := by
              obtain ⟨p, hp, _, hpe⟩ := hft
              rcases (hpairs i t o p hi hp (by omega)).rd hpe hrd with h1 | h1
              · have h2 := below t (h1.2 hti)
                have := (V.effs t (V.ft.resolve_right (by omega)) (by omega)).1 h2
                omega
              · exact h1
            exact ⟨(S t).2, V.hp.hr, sameAt_val (T.ahead i o v hlt hst t hti hft hloose)⟩
      obtain ⟨h', H', hs'⟩ := key
      obtain ⟨v', g1, g2⟩ := sStep_sound (P := P) g.hG H' hρ hs'
      show o.upon P a K Q ((execOp a.eval o).run P w)
      rw [g1, Oper.upon_value]
      refine hK t M _ w (calm hlt hnf (Mp.le_refl M) g2 he (V.hp.idle fun n ha => ?_))
      have := ha.lt_next; rw [hh] at this; omega
    | @alloc hw hf n hs hnone he hh =>
      rw [hw]
      simp only [if_true]
      left
      have hnf : ¬ Fires ops S i := by rintro ⟨o', h1, _, h2⟩; rw [hi] at h1; injection h1 with h1; subst h1; rw [hf] at h2; cases h2
      have ha : Al G ops S i n := ⟨o, hi, hw, hf, hs, hnone, hh⟩
      obtain ⟨y, v', g1, g2, g3, _⟩ := nStep_sound (P := P) g.hG hρ hs w
      show o.upon P a K Q ((execOp a.eval o).run P w)
      rw [g1, Oper.upon_value]
      refine hK t _ _ _ (calm hlt hnf (Mp.le_upd (V.hp.no i n hlt ha hX)) (g3 _ _ (Mp.upd_same _ _ _)) he (V.hp.alloc T hn V.tm hlt ha hX g2))
  · have hme : i = m := by omega
    subst hme
    rcases g.En with ⟨h1, _⟩ | ⟨o', v, h', h1, h2, h3, h4, h5, e, h6⟩
    · omega
    · rw [hi] at h1; injection h1 with h1; subst h1
      have hfi : Fires ops S i := ⟨o, hi, h2, h3⟩
      have hti := turn hfi
      subst hti
      rw [h2]
      simp only [if_true]
      left
      have H1 := V.hp.fresh T hn g.h0 V.tm (Nat.le_refl B0) fun j n hj _ htj => by omega
      obtain ⟨_, hop⟩ := eStep_sound g.hG g.hC H1 hρ h4
      have hB := g.hB
      rw [h6] at hB
      refine hop hB _ _ fun M' v' w' E H' Vv => ?_
      have hQ := g.hQ M' a w' (.panic [{ v := v', recovered := false }])
      rw [h6] at hQ
      refine hQ ((V.hp.toExt T hn).trans E) H' ⟨fun u y hu => ?_, DRs.mono E.le V.env.defers⟩ (.pan (.cons ⟨Vv, rfl, rfl⟩ .nil))
      obtain ⟨k1, k2⟩ := keepTmps_spec _ _ _ hu
      have := V.env.un u fun k p _ hp => k2 k p hp
      unfold Env.val at this
      rw [k1] at this
      exact this.mono E.le

theorem count_lt {f g : Nat → Bool} {i : Nat} : ∀ (l : List Nat), i ∈ l → (∀ j, g j = true → f j = true) → f i = true → g i = false → l.countP g < l.countP f := by
  intro l
  induction l with
  | nil => intro h; cases h
  | cons a l ih =>
    intro hi hgf hf hg
    have hle : l.countP g ≤ l.countP f := List.countP_mono_left fun j _ => hgf j
    rw [List.countP_cons, List.countP_cons]
    by_cases e : a = i
    · subst e
      rw [hf, hg]
      simp only [if_true, Bool.false_eq_true, if_false]
      omega
    · have hi' : i ∈ l := by
        rcases List.mem_cons.1 hi with h | h
        · exact absurd h.symm e
        · exact h
      have := ih hi' hgf hf hg
      cases hga : g a with
      | false => simp only [Bool.false_eq_true, if_false]; split <;> omega
      | true => rw [hgf a hga]; simp only [if_true]; omega

/-- while one is left, the first of them is ready -/
theorem all_listed (hedge : ∀ i o e, ops[i]? = some o → e ∈ o.after → Region.binds .any e = true → e.on < i) {listed : Array Bool} (hs : listed.size = ops.size) (hr : Region.ready .any ops listed = []) : ∀ i, i < ops.size → lst listed i := by
  intro i
  induction i using Nat.strongRecOn with
  | _ i ih =>
    intro hi
    by_cases h : lst listed i
    · exact h
    · exfalso
      have : i ∈ Region.ready .any ops listed := by
        rw [mem_ready]
        have hil : i < listed.size := by omega
        refine ⟨?_, ops[i], Array.getElem?_eq_getElem hi, fun e he hb => ?_⟩
        · unfold lst at h
          simp only [Array.getD_eq_getD_getElem?, Array.getElem?_eq_getElem hil, Option.getD_some] at h ⊢
          simpa using h
        · have := hedge i _ e (Array.getElem?_eq_getElem hi) he hb
          exact ih _ this (by omega)
      rw [hr] at this; cases this

theorem Given.done (g : Given G P r info ops S m M0 w0 B0 x Q) {t : Nat} {listed : Array Bool} {M : Mp} {a : Act} {w : World} (V : Inv G ops S m M0 w0 t listed M a w) (hr : Region.ready .any ops listed = []) : Q .normal a w := by
  have T := g.T
  have hn : NextOK r := g.hC.next
  have hall := all_listed (drawOk_spec g.hd).1 V.size hr
  rcases g.En with ⟨h1, h2⟩ | ⟨o', v, h', h1, _⟩
  · have htm : t = m := by
      rcases V.ft with h | h
      · rcases Nat.lt_or_ge t m with h3 | h3
        · have := (V.effs t h h3).1 (hall t (by omega)); omega
        · have := V.tm; omega
      · exact h
    subst htm
    have hQ := g.hQ M a w .normal
    rw [h2] at hQ
    refine hQ (V.hp.toExt T hn) (V.hp.fresh T hn g.h0 V.tm (Nat.le_refl B0) fun j n hj _ htj => by omega) ⟨fun u => ?_, ?_, ?_⟩ .normal
    · show VR M ((S t).1.val u) _
      by_cases hk : ∃ (k : Nat) (p : Oper), ops[k]? = some p ∧ p.dst = some u
      · obtain ⟨k, p, hp, hd⟩ := hk
        have hks : k < ops.size := (Array.getElem?_eq_some_iff.1 hp).1
        rw [T.val_from (j := k + 1) t (by omega) (Nat.le_refl _) fun q p' hq _ hp' hd' => g.uniq q k p' p hp' hp (by omega) u hd' hd]
        exact V.env.wr k p u (hall k hks) hp hd
      · rw [T.val_from (j := 0) t (Nat.zero_le _) (Nat.le_refl _) fun q p' _ _ hp' hd' => hk ⟨q, p', hp', hd'⟩]
        exact V.env.un u fun q p' _ hp' hd' => hk ⟨q, p', hp', hd'⟩
    · show a.tmps.size = (S t).1.n
      rw [(T.same (Nat.le_refl _)).1]; exact V.env.size
    · show All2 (DR M) (S t).1.defers a.defers
      rw [(T.same (Nat.le_refl _)).2.1]; exact V.env.defers
  · have hms : m < ops.size := (Array.getElem?_eq_some_iff.1 h1).1
    have := V.lt m (hall m hms); omega

theorem Given.run (g : Given G P r info ops S m M0 w0 B0 x Q) : ∀ (fuel t : Nat) (listed : Array Bool) (M : Mp) (a : Act) (w : World), Inv G ops S m M0 w0 t listed M a w →
    (List.range ops.size).countP (fun j => !listed.getD j false) ≤ fuel → wpAny P .any ops Q fuel listed a w := by
  intro fuel
  induction fuel with
  | zero =>
    intro t listed M a w V hc
    have hr : Region.ready .any ops listed = [] := by
      cases h : Region.ready .any ops listed with
      | nil => rfl
      | cons i rest =>
        exfalso
        have hi : i ∈ Region.ready .any ops listed := by rw [h]; exact List.mem_cons_self
        obtain ⟨hun, o, ho, _⟩ := mem_ready.1 hi
        have hisz : i < ops.size := (Array.getElem?_eq_some_iff.1 ho).1
        have h0 : (List.range ops.size).countP (fun j => !listed.getD j false) = 0 := by omega
        rw [List.countP_eq_zero] at h0
        have := h0 i (List.mem_range.2 hisz)
        have hil : i < listed.size := by rw [V.size]; exact hisz
        simp only [Array.getD_eq_getD_getElem?, Array.getElem?_eq_getElem hil, Option.getD_some] at hun this
        rw [hun] at this; simp at this
    exact ⟨hr, g.done V hr⟩
  | succ fuel ih =>
    intro t listed M a w V hc
    refine ⟨fun hr => g.done V hr, fun i hi => g.step V hi fun t' M' a' w' V' => ih t' _ M' a' w' V' ?_⟩
    obtain ⟨hun, o, ho, _⟩ := mem_ready.1 hi
    have hisz : i < ops.size := (Array.getElem?_eq_some_iff.1 ho).1
    have hil : i < listed.size := by rw [V.size]; exact hisz
    have : (List.range ops.size).countP (fun j => !(listed.setIfInBounds i true).getD j false) < (List.range ops.size).countP (fun j => !listed.getD j false) := by
      refine count_lt (i := i) _ (List.mem_range.2 hisz) (fun j hj => ?_) ?_ ?_
      · by_cases e : i = j
        · subst e; simp [hil] at hj
        · rw [getD_set_ne false e] at hj; exact hj
      · simp only [Array.getD_eq_getD_getElem?, Array.getElem?_eq_getElem hil, Option.getD_some] at hun ⊢
        rw [hun]; rfl
      · simp [hil]
    omega

end

section
variable {G : Tabs} {P : Program} {r : Ev} {info : RegInfo} {ops : Array Oper}

/-- a region whose order is drawn -/
theorem drawStep_sound (hG : G.Fits2 P) (hC : CallOK P r.call) (hm : P.follows .mixedOrders = true) (hall : (ops.toList.all fun o => o.op.operands.toList.all okOpd) = true) (hd : drawOk info ops = true)
    {e : Env} {h : Hp} {x : Ex × Env × Hp} (hs : drawStep G r info ops ops.toList 0 e h [] [] = some x) (id : Nat) :
    (drawn G ops e x).2.1.fn = e.fn ∧ h.next ≤ x.2.2.next ∧ ∀ B, x.2.2.next ≤ B → CodeOK P B (.region id ops true) e h x.1 (drawn G ops e x).2.1 x.2.2 := by
  obtain ⟨S, m, hS, T, En⟩ := drawStep_ends hs
  have hn : NextOK r := hC.next
  have h0m := T.next_le hn (Nat.zero_le m) (Nat.le_refl m)
  have hS1 : (S 0).1 = e := by rw [hS]
  have hS2 : (S 0).2 = h := by rw [hS]
  rw [hS2] at h0m
  refine ⟨?_, ?_, fun B hB M a w Q he H hQ => ?_⟩
  · rcases En with ⟨_, h2⟩ | ⟨o', v, h', _, _, _, _, _, e', h6⟩
    · rw [h2]; simp only [drawn]; rw [(T.same (Nat.le_refl _)).2.2, hS1]
    · rw [h6]; rfl
  · rcases En with ⟨_, h2⟩ | ⟨o', v, h', _, _, _, h4, _, e', h6⟩
    · rw [h2]; exact h0m
    · rw [h6]
      have := eStep_next (res := .pan _ _) hC.next h4
      exact Nat.le_trans h0m this
  · refine wp_region_any hm ?_
    have hX0 : lst (Array.replicate ops.size false) = fun _ => False := by
      funext j
      unfold lst
      apply propext
      simp only [Array.getD_eq_getD_getElem?, Array.getElem?_replicate]
      split <;> simp
    have H' : HR B M (S 0).2 { w with drawn := w.drawn + 1 } := by rw [hS2]; exact H.drawn _
    have g : Given G P r info ops S m M { w with drawn := w.drawn + 1 } B x Q := by
      refine ⟨hG, hC, hall, hd, T, En, hB, H', fun M' a' w' x' E H2 V X => ?_⟩
      rw [hS2] at E
      rw [hS1] at V
      exact hQ M' a' w' x' ((Ext.drawn M h w _).trans E) H2 V X
    have hp0 : HpX G ops S m M { w with drawn := w.drawn + 1 } (fun _ => False) 0 M { w with drawn := w.drawn + 1 } := by
      refine ⟨H'.zero, ⟨Mp.le_refl M, Nat.le_refl _, fun _ _ _ => rfl, fun _ h _ => h, (fun _ _ h h' => by rw [h'] at h; cases h), fun _ _ _ => rfl, rfl, rfl, rfl⟩, fun id p hp => .inl hp, fun i n hi ha _ => ?_, fun i n _ _ _ h => by omega, fun i n _ _ h => h.elim⟩
      cases hmm : M (S i).2.next with
      | none => rfl
      | some p =>
        have h1 := T.next_le hn (Nat.zero_le i) (Nat.le_of_lt hi)
        have h2 := ha.lt_next
        have h3 := T.next_le hn (i := i + 1) (j := m) hi (Nat.le_refl _)
        have h4 := g.le_B
        rcases H'.fresh _ _ hmm with h | h <;> omega
    obtain ⟨t', _, k2, k3, k4, k5⟩ := hp0.advance T hn _ 0 rfl (Nat.zero_le _)
    refine g.run ops.size t' _ M a _ ⟨by simp, by rw [hX0]; exact fun _ _ _ h => h.elim, by rw [hX0]; exact fun _ h => h.elim, k2, k4, ?_, ?_, by rw [hX0]; exact k3⟩ ?_
    · rw [hX0]
      intro q hq hqm
      exact ⟨fun h => h.elim, fun h => k5 q (Nat.zero_le _) h hq⟩
    · rw [hX0]
      refine ⟨fun _ _ _ h => h.elim, fun u _ => by rw [hS1]; exact he.vals u, by rw [hS1]; exact he.size, by rw [hS1]; exact he.defers⟩
    · have := List.countP_le_length (p := fun j => !(Array.replicate ops.size false).getD j false) (l := List.range ops.size)
      simpa using this

end
end Go.AE
