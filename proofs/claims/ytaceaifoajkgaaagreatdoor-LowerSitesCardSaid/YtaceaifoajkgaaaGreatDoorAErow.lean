/- Rows of operations in the order of the text; environments. -/
import Derived.Test.YtaceaifoajkgaaaGreatDoorAEcall
namespace Go.AE
section
variable {G : Tabs} {P : Program} {B : Nat} {M : Mp} {h : Hp} {w : World}

theorem EnvR.mono {M M' : Mp} (hM : M.le M') {e : Env} {a : Act} (he : EnvR M e a) : EnvR M' e a := by
  refine ⟨fun t => (he.vals t).mono hM, he.size, ?_⟩
  have := he.defers
  generalize e.defers = l at this
  generalize a.defers = l' at this
  induction this with
  | nil => exact .nil
  | cons h _ ih =>
    obtain ⟨f, c, c', h1, h2, h3, h4⟩ := h
    exact .cons ⟨f, c, c', h1, h2, h3.mono hM, h4.mono hM⟩ ih

theorem scalarC_VR {v : Value} (h : scalarC v = true) : VR M v v := by
  unfold scalarC at h
  split at h
  · exact .bool _
  · exact .int _ _
  · exact .str _
  · exact .pnil
  · exact .snil _ _
  · exact .mnil
  · exact .nilFunc
  · exact .nilIface
  · cases h
theorem scalarC_one {v : Value} (h : scalarC v = true) : v.oneCell' = true := by
  unfold scalarC at h
  split at h <;> first | rfl | cases h
theorem plainC_VR {v : Value} (h : plainC v = true) : VR M v v := by
  unfold plainC at h
  split at h
  · rename_i cs
    have := LR.agg (M := M) (l := cs.toList) (l' := cs.toList) ⟨rfl, fun i hi => by
      have := List.all_eq_true.1 h _ (List.getElem_mem hi)
      simp only [List.getD_eq_getElem?_getD, List.getElem?_eq_getElem hi, Option.getD_some]
      exact scalarC_VR this⟩ (by
      rw [List.all_eq_true]
      intro x hx
      exact scalarC_one (List.all_eq_true.1 h x hx))
    simpa using this
  · exact .iface _ (scalarC_VR h)
  · exact scalarC_VR h

theorem EnvR.opd {e : Env} {a : Act} (he : EnvR M e a) {x : Operand} (hx : okOpd x = true) : VR M (e.opd x) (a.eval x) := by
  cases x with
  | tmp t => exact he.vals t
  | const v => exact plainC_VR hx
  | global g => cases hx
  | func f => exact .func _ rfl (fun i hi => absurd hi (by simp)) rfl (fun i hi => absurd hi (by simp))

theorem Env.val_put (e : Env) (d t : Nat) (v : Value) (hd : d < e.n) : (Env.put e (some d) v).val t = if t = d then v else e.val t := by
  simp only [Env.put, if_pos hd, Env.val, Tr.get_set]
  split <;> rfl
theorem Env.n_put (e : Env) (d : Option Tmp) (v : Value) : (Env.put e d v).n = e.n := by
  cases d with
  | none => rfl
  | some d => simp only [Env.put]; split <;> rfl
theorem Env.fn_put (e : Env) (d : Option Tmp) (v : Value) : (Env.put e d v).fn = e.fn := by
  cases d with
  | none => rfl
  | some d => simp only [Env.put]; split <;> rfl
theorem Env.defers_put (e : Env) (d : Option Tmp) (v : Value) : (Env.put e d v).defers = e.defers := by
  cases d with
  | none => rfl
  | some d => simp only [Env.put]; split <;> rfl

theorem Act.getD_put (a : Act) (d t : Nat) (v : Value) (hd : d < a.tmps.size) : (a.put (some d) v).tmps.getD t undef = if t = d then v else a.tmps.getD t undef := by
  simp only [Act.put, Array.getD_eq_getD_getElem?, Array.getElem?_setIfInBounds]
  by_cases e : d = t
  · subst e; simp [hd]
  · rw [if_neg e, if_neg (fun h => e h.symm)]

theorem EnvR.put {e : Env} {a : Act} (he : EnvR M e a) (d : Option Tmp) {v v' : Value} (hv : VR M v v') : EnvR M (Env.put e d v) (a.put d v') := by
  cases d with
  | none => exact he
  | some d =>
    by_cases hd : d < e.n
    · refine ⟨fun t => ?_, ?_, ?_⟩
      · rw [Env.val_put _ _ _ _ hd, Act.getD_put _ _ _ _ (by rw [he.size]; exact hd)]
        split
        · exact hv
        · exact he.vals t
      · rw [Env.n_put]; simp [Act.put, he.size]
      · rw [Env.defers_put]; exact he.defers
    · have h1 : Env.put e (some d) v = e := by simp only [Env.put, if_neg hd]
      have h2 : a.put (some d) v' = a := by
        have : a.tmps.setIfInBounds d v' = a.tmps := Array.setIfInBounds_eq_of_size_le (by rw [he.size]; exact Nat.le_of_not_lt hd)
        simp only [Act.put, this]
      rw [h1, h2]; exact he

theorem wanted_eq' {e : Env} {a : Act} (all : Array Oper) (o : Oper) (he : ∀ j w d, o.guard = some (j, w) → (all[j]?).bind (·.dst) = some d → VR M (e.val d) (a.tmps.getD d undef)) : Region.wanted o (yielded all a.tmps) = wantedA all e o := by
  unfold Region.wanted wantedA
  cases hg : o.guard with
  | none => rfl
  | some jw =>
    obtain ⟨j, want⟩ := jw
    simp only
    unfold yielded
    cases hd : (all[j]?).bind (·.dst) with
    | none => rfl
    | some d =>
      simp only [Option.bind_some]
      have hv := he j want d hg hd
      cases hb : e.val d with
      | bool b =>
        rw [hb] at hv
        have h1 := hv.bool_inv
        have h2 : a.tmps[d]? = some (.bool b) := by
          rw [Array.getD_eq_getD_getElem?] at h1
          cases ht : a.tmps[d]? with
          | none => rw [ht] at h1; cases h1
          | some x => rw [ht] at h1; simp at h1; rw [h1]
        rw [h2]
        cases b <;> cases want <;> rfl
      | _ =>
        rw [hb] at hv
        have h2 : ∀ b, a.tmps[d]? ≠ some (.bool b) := by
          intro b ht
          rw [Array.getD_eq_getD_getElem?, ht] at hv
          simp at hv
          cases hv
        cases ht : a.tmps[d]? with
        | none => rfl
        | some x => cases x <;> first | rfl | exact absurd ht (h2 _)

theorem wanted_eq {e : Env} {a : Act} (he : EnvR M e a) (all : Array Oper) (o : Oper) : Region.wanted o (yielded all a.tmps) = wantedA all e o :=
  wanted_eq' all o fun _ _ d _ _ => he.vals d

theorem aCall_next {r : Ev} (hn : ∀ f args h out h1, r.call f args h = some (out, h1) → h.next ≤ h1.next) {f : FuncId} {args : List Value} {res : Res} (hs : aCall r f args h = some res) : h.next ≤ res.next h := by
  obtain ⟨⟨out, h1⟩, hc1, hc2⟩ := bind_some hs
  have := hn _ _ _ _ _ hc1
  unfold outRes at hc2
  split at hc2
  · rename_i heq; injection heq with e1 e2; subst e2; injection hc2 with hc2; subst hc2; exact this
  · rename_i heq; injection heq with e1 e2; subst e2; obtain ⟨_, hc2⟩ := if_some hc2; injection hc2 with hc2; subst hc2; exact this
  · cases hc2

theorem eStep_next {r : Ev} (hn : ∀ f args h out h1, r.call f args h = some (out, h1) → h.next ≤ h1.next) {e : Env} {o : Oper} {res : Res} (hs : eStep G r e h o = some res) : h.next ≤ res.next h := by
  unfold eStep at hs
  cases hop : o.op <;> rw [hop] at hs <;> simp only [reduceCtorEq] at hs
  case store t x y => obtain ⟨h1, hs1, rfl⟩ := map_some hs; exact next_store hs1
  case convert s d x => obtain ⟨v, h1, rfl, hn⟩ := val_convert hs; exact hn
  case mapUpdate t m k x => obtain ⟨h1, hs1, rfl⟩ := map_some hs; exact next_update hs1
  case insert t m k x => obtain ⟨h1, hs1, rfl⟩ := map_some hs; exact next_update hs1
  case mapEntry t m k => obtain ⟨v, h1, rfl, hn⟩ := val_mapEntry hs; exact hn
  case entryStore t m s x => obtain ⟨h1, hs1, rfl⟩ := map_some hs; exact next_entryStore hs1
  case range t m => obtain ⟨v, h1, rfl, hn⟩ := val_range hs; exact hn
  case next it s => obtain ⟨v, h1, rfl, hn⟩ := val_next hs; exact hn
  case panic x =>
    split at hs
    · injection hs with hs; subst hs; exact Nat.le_refl _
    · cases hs
  case call c =>
    split at hs
    · exact builtin_next hs
    · split at hs
      · exact aCall_next hn hs
      · cases hs
    · split at hs
      · obtain ⟨fr, hfr, hs1⟩ := bind_some hs; exact aCall_next hn hs1
      · cases hs
  case defer c =>
    split at hs
    · split at hs
      · injection hs with hs; subst hs; exact Nat.le_refl _
      · cases hs
    · cases hs

theorem opStep_next {r : Ev} (hn : ∀ f args h out h1, r.call f args h = some (out, h1) → h.next ≤ h1.next) {e : Env} {o : Oper} {res : Res} (hs : opStep G r e h o = some res) : h.next ≤ res.next h := by
  unfold opStep at hs
  split at hs
  · injection hs with hs; subst hs; exact Nat.le_refl _
  · split at hs
    · injection hs with hs; subst hs; simp [Res.next, Hp.next_new]
    · exact eStep_next hn hs

theorem opStep_sound {r : Ev} (hG : G.Fits2 P) (hC : CallOK P r.call) (H : HR B M h w) {e : Env} {a : Act} {o : Oper} {res : Res} (hρ : OpsR M e a o.op) (hs : opStep G r e h o = some res) :
    h.next ≤ res.next h ∧ (res.next h ≤ B → OpOK P B M h w a o res) := by
  unfold opStep at hs
  split at hs
  · rename_i v hv
    injection hs with hs; subst hs
    refine ⟨Nat.le_refl _, fun _ => ?_⟩
    obtain ⟨v', g1, g2⟩ := sStep_sound (P := P) hG H hρ hv
    exact OpOK.val g1 (Ext.refl _ _ _) H g2
  · split at hs
    · rename_i n hn
      injection hs with hs; subst hs
      refine ⟨by simp [Res.next, Hp.next_new], fun hB => ?_⟩
      simp only [Res.next, Hp.next_new] at hB
      have hlt : h.next < B := by omega
      obtain ⟨x, v', g1, g2, g3, g4⟩ := nStep_sound hG hρ hn w
      exact OpOK.val g1 (Ext.new H hlt _ _ _) (H.new hlt (g2 _ (Mp.le_upd (H.none_next hlt)))) (g3 _ _ (Mp.upd_same _ _ _))
    · exact eStep_sound hG hC H hρ hs

theorem opsR_of {e : Env} {a : Act} (he : EnvR M e a) {o : Oper} (ho : (o.op.operands.toList.all okOpd) = true) : OpsR M e a o.op :=
  fun x hx => he.opd (List.all_eq_true.1 ho x (by simpa using hx))

/-- a row of operations in the order of the text -/
theorem opsStep_sound {r : Ev} (hG : G.Fits2 P) (hC : CallOK P r.call) (all : Array Oper) (hall : (all.toList.all fun o => o.op.operands.toList.all okOpd) = true) :
    ∀ (n i : Nat) (l : List Oper) (e : Env) (h : Hp) (ex : Ex) (e' : Env) (h' : Hp), all.toList.drop i = l → l.length = n → opsStep G r all l e h = some (ex, e', h') →
      e'.fn = e.fn ∧ h.next ≤ h'.next ∧ ∀ B, h'.next ≤ B → ∀ (M : Mp) (a : Act) (w : World) (Q : Exit → Act → World → Prop), EnvR M e a → HR B M h w →
        (∀ M' a' w' x', Ext M h w M' h' w' → HR B M' h' w' → EnvR M' e' a' → ExR M' ex x' → Q x' a' w') → wpOps P all Q (List.range' i n) a w := by
  intro n
  induction n with
  | zero =>
    intro i l e h ex e' h' hl hn hs
    have : l = [] := List.eq_nil_of_length_eq_zero hn
    subst this
    simp only [opsStep] at hs
    injection hs with hs; injection hs with e1 hs; injection hs with e2 e3; subst e1; subst e2; subst e3
    refine ⟨rfl, Nat.le_refl _, fun B _ M a w Q he H hQ => ?_⟩
    exact hQ M a w .normal (Ext.refl _ _ _) H he .normal
  | succ n ih =>
    intro i l e h ex e' h' hl hn hs
    cases l with
    | nil => cases hn
    | cons o rest =>
      have hi : all[i]? = some o := by
        have : (all.toList.drop i)[0]? = some o := by rw [hl]; rfl
        rw [List.getElem?_drop] at this
        simpa using this
      have hrest : all.toList.drop (i + 1) = rest := by
        have := congrArg List.tail hl
        simpa [List.tail_drop] using this
      have hlen : rest.length = n := by simpa using hn
      have hom : o ∈ all.toList := by rw [Array.mem_toList_iff]; exact Array.mem_of_getElem? hi
      have hok := List.all_eq_true.1 hall o hom
      simp only [opsStep] at hs
      cases hw : wantedA all e o with
      | false =>
        rw [hw] at hs
        simp only [cond_false] at hs
        obtain ⟨f1, f2, f3⟩ := ih (i + 1) rest _ h ex e' h' hrest hlen hs
        refine ⟨by rw [f1, Env.fn_put], f2, fun B hB M a w Q he H hQ => ?_⟩
        simp only [List.range'_succ, wpOps, hi]
        rw [wanted_eq he, hw]
        simp only [Bool.false_eq_true, if_false]
        exact f3 B hB M _ w Q (he.put _ (.undef M)) H hQ
      | true =>
        rw [hw] at hs
        simp only [cond_true] at hs
        obtain ⟨res, hres, hs⟩ := bind_some hs
        cases res with
        | val v h1 =>
          simp only at hs
          obtain ⟨f1, f2, f3⟩ := ih (i + 1) rest _ h1 ex e' h' hrest hlen hs
          have mono : h.next ≤ h1.next := opStep_next hC.next hres
          refine ⟨by rw [f1, Env.fn_put], Nat.le_trans mono f2, fun B hB M a w Q he H hQ => ?_⟩
          obtain ⟨_, g⟩ := opStep_sound (B := B) hG hC H (opsR_of he hok) hres
          have g' := g (Nat.le_trans f2 hB)
          simp only [List.range'_succ, wpOps, hi]
          rw [wanted_eq he, hw]
          simp only [if_true]
          left
          refine g' _ _ fun M' v' w' E H' V => ?_
          exact f3 B hB M' _ w' Q ((he.mono E.le).put _ V) H' fun M2 a2 w2 x2 E2 H2 he2 hx2 => hQ M2 a2 w2 x2 (E.trans E2) H2 he2 hx2
        | pan v h1 =>
          simp only at hs
          injection hs with hs; injection hs with e1 hs; injection hs with e2 e3; subst e1; subst e2; subst e3
          refine ⟨rfl, opStep_next hC.next hres, fun B hB M a w Q he H hQ => ?_⟩
          obtain ⟨_, g⟩ := opStep_sound (B := B) hG hC H (opsR_of he hok) hres
          simp only [List.range'_succ, wpOps, hi]
          rw [wanted_eq he, hw]
          simp only [if_true]
          left
          refine g hB _ _ fun M' v' w' E H' V => ?_
          exact hQ M' _ w' _ E H' (he.mono E.le) (.pan (.cons ⟨V, rfl, rfl⟩ .nil))
        | dfr d =>
          simp only at hs
          obtain ⟨f1, f2, f3⟩ := ih (i + 1) rest _ h ex e' h' hrest hlen hs
          refine ⟨by rw [f1, Env.fn_put], f2, fun B hB M a w Q he H hQ => ?_⟩
          obtain ⟨_, g⟩ := opStep_sound (B := B) hG hC H (opsR_of he hok) hres
          simp only [List.range'_succ, wpOps, hi]
          rw [wanted_eq he, hw]
          simp only [if_true]
          left
          refine g (Nat.le_trans f2 hB) _ _ fun d' hd => ?_
          have he1 : EnvR M { e with defers := d :: e.defers } { a with defers := d' :: a.defers } := ⟨he.vals, he.size, .cons hd he.defers⟩
          exact f3 B hB M _ w Q (he1.put _ (.undef M)) H hQ

end
end Go.AE
