/- All operations: what the evaluator says of one is what the model does. -/
import Derived.Test.YtaceaifoajkgaaaGreatDoorAEop
namespace Go.AE
section
variable {G : Tabs} {P : Program} {B : Nat} {M : Mp} {h : Hp} {w : World}

/- names are only added -/
theorem next_store {t : TypeId} {a x : Value} {h1 : Hp} (hs : aStore G h t a x = some h1) : h.next ≤ h1.next := by
  unfold aStore at hs
  split at hs
  · split at hs
    · split at hs
      · cases hs
      · obtain ⟨n, _, hs⟩ := bind_some hs
        obtain ⟨_, hs⟩ := if_some hs
        obtain ⟨r, _, hs⟩ := map_some hs
        subst hs; exact Nat.le_refl _
    · cases hs
  · cases hs
theorem next_update {t : TypeId} {m k x : Value} {h1 : Hp} (hs : aUpdate G h t m k x = some h1) : h.next ≤ h1.next := by
  unfold aUpdate at hs
  split at hs
  · split at hs
    · obtain ⟨f, _, hs⟩ := bind_some hs
      split at hs
      · obtain ⟨_, hs⟩ := bif_some hs
        injection hs with hs; subst hs; exact Nat.le_refl _
      · injection hs with hs; subst hs; exact Nat.le_refl _
    · cases hs
  · cases hs
theorem next_entryStore {m s x : Value} {h1 : Hp} (hs : aEntryStore h m s x = some h1) : h.next ≤ h1.next := by
  unfold aEntryStore at hs
  split at hs
  · split at hs
    · obtain ⟨f, _, hs⟩ := map_some hs
      subst hs; exact Nat.le_refl _
    · cases hs
  · cases hs
theorem val_mapEntry {t : TypeId} {m k : Value} {res : Res} (hs : aMapEntry G h t m k = some res) : ∃ v h1, res = .val v h1 ∧ h.next ≤ h1.next := by
  unfold aMapEntry at hs
  split at hs
  · split at hs
    · obtain ⟨f, _, hs⟩ := bind_some hs
      split at hs
      · obtain ⟨_, hs⟩ := bif_some hs
        injection hs with hs; subst hs; exact ⟨_, _, rfl, Nat.le_refl _⟩
      · obtain ⟨z, _, hs⟩ := map_some hs
        subst hs; exact ⟨_, _, rfl, Nat.le_refl _⟩
    · cases hs
  · cases hs
theorem val_delete {t : TypeId} {m k : Value} {res : Res} (hs : aDelete G h t m k = some res) : ∃ v h1, res = .val v h1 ∧ h.next ≤ h1.next := by
  unfold aDelete at hs
  split at hs
  · split at hs
    · obtain ⟨f, _, hs⟩ := map_some hs
      split at hs <;> (subst hs; exact ⟨_, _, rfl, Nat.le_refl _⟩)
    · cases hs
  · cases hs
theorem val_range {t : TypeId} {m : Value} {res : Res} (hs : aRange G h t m = some res) : ∃ v h1, res = .val v h1 ∧ h.next ≤ h1.next := by
  unfold aRange at hs
  obtain ⟨o, _, hs⟩ := map_some hs
  subst hs; exact ⟨_, _, rfl, by rw [Hp.next_new]; omega⟩
theorem val_next {it : Value} {s : Bool} {res : Res} (hs : aNext h it s = some res) : ∃ v h1, res = .val v h1 ∧ h.next ≤ h1.next := by
  unfold aNext at hs
  split at hs
  · split at hs
    · injection hs with hs; subst hs; exact ⟨_, _, rfl, Nat.le_refl _⟩
    · split at hs
      · simp only at hs
        split at hs
        · cases hs
        · split at hs
          · injection hs with hs; subst hs; exact ⟨_, _, rfl, Nat.le_refl _⟩
          · obtain ⟨_, hs⟩ := if_some hs
            injection hs with hs; subst hs; exact ⟨_, _, rfl, Nat.le_refl _⟩
          · cases hs
      · cases hs
    · cases hs
  · cases hs
theorem val_copy {t : TypeId} {d s : Value} {res : Res} (hs : aCopy G h t d s = some res) : ∃ v h1, res = .val v h1 ∧ h.next ≤ h1.next := by
  unfold aCopy at hs
  split at hs
  · obtain ⟨n, _, hs⟩ := bind_some hs
    split at hs
    · obtain ⟨kl, _, hs⟩ := bind_some hs
      simp only at hs
      split at hs
      · cases hk : Nat.beq kl.1 0 with
        | true => rw [hk] at hs; injection hs with hs; subst hs; exact ⟨_, _, rfl, Nat.le_refl _⟩
        | false =>
          rw [hk] at hs
          simp only [cond_false] at hs
          split at hs
          · cases hs
          · obtain ⟨r, _, hs⟩ := map_some hs
            subst hs; exact ⟨_, _, rfl, Nat.le_refl _⟩
      · cases hs
    · cases hs
  · cases hs
theorem val_clear {t : TypeId} {x : Value} {res : Res} (hs : aClear G h t x = some res) : ∃ v h1, res = .val v h1 ∧ h.next ≤ h1.next := by
  unfold aClear at hs
  split at hs
  · rename_i e b o len cap hu
    obtain ⟨z, _, hs⟩ := bind_some hs
    cases hk : Nat.beq len 0 with
    | true => rw [hk] at hs; injection hs with hs; subst hs; exact ⟨_, _, rfl, Nat.le_refl _⟩
    | false =>
      rw [hk] at hs
      simp only [cond_false] at hs
      split at hs
      · split at hs
        · cases hs
        · obtain ⟨r, _, hs⟩ := map_some hs
          subst hs; exact ⟨_, _, rfl, Nat.le_refl _⟩
      · cases hs
  · split at hs
    · injection hs with hs; subst hs; exact ⟨_, _, rfl, Nat.le_refl _⟩
    · cases hs
  · cases hs
theorem val_append {t : TypeId} {s x : Value} {res : Res} (hs : aAppend G h t s x = some res) : ∃ v h1, res = .val v h1 ∧ h.next ≤ h1.next := by
  unfold aAppend at hs
  split at hs
  · obtain ⟨i, _, hs⟩ := bind_some hs
    split at hs
    · cases hs
    · obtain ⟨kn, _, hs⟩ := bind_some hs
      simp only at hs
      split at hs
      · split at hs
        · injection hs with hs; subst hs; exact ⟨_, _, rfl, Nat.le_refl _⟩
        · obtain ⟨_, hs⟩ := if_some hs
          injection hs with hs; subst hs; exact ⟨_, _, rfl, by rw [Hp.next_new]; omega⟩
      · split at hs
        · cases hs
        · split at hs
          · obtain ⟨old, _, hs⟩ := bind_some hs
            split at hs
            · split at hs
              · injection hs with hs; subst hs; exact ⟨_, _, rfl, Nat.le_refl _⟩
              · obtain ⟨_, hs⟩ := if_some hs
                injection hs with hs; subst hs; exact ⟨_, _, rfl, by rw [Hp.next_new, Hp.next_put]; omega⟩
            · split at hs
              · split at hs
                · injection hs with hs; subst hs; exact ⟨_, _, rfl, Nat.le_refl _⟩
                · split at hs
                  · cases hs
                  · obtain ⟨r, _, hs⟩ := map_some hs
                    subst hs; exact ⟨_, _, rfl, Nat.le_refl _⟩
              · injection hs with hs; subst hs; exact ⟨_, _, rfl, by rw [Hp.next_new]; omega⟩
          · cases hs
      · cases hs
  · cases hs
theorem val_convert {s d : TypeId} {x : Value} {res : Res} (hs : aConvertH G h s d x = some res) : ∃ v h1, res = .val v h1 ∧ h.next ≤ h1.next := by
  unfold aConvertH at hs
  split at hs
  · split at hs
    · obtain ⟨_, hs⟩ := if_some hs
      injection hs with hs; subst hs; exact ⟨_, _, rfl, by rw [Hp.next_new]; omega⟩
    · cases hs
  · obtain ⟨v, _, hs⟩ := map_some hs
    subst hs; exact ⟨_, _, rfl, Nat.le_refl _⟩

theorem LR.two {u v : Value} {l' : List Value} (h : LR M [u, v] l') : ∃ u' v', l' = [u', v'] ∧ VR M u u' ∧ VR M v v' := by
  obtain ⟨u', r, rfl, hu, hr⟩ := h.cases
  obtain ⟨v', rfl, hv⟩ := hr.one
  exact ⟨u', v', rfl, hu, hv⟩
theorem arr_two {a : Array Value} {u v : Value} (h : a.toList = [u, v]) : a = #[u, v] := by
  apply Array.ext'; simpa using h

theorem builtin_next {b : Builtin} {ts : List TypeId} {args : List Value} {res : Res} (hs : aBuiltin G b ts h args = some res) : h.next ≤ res.next h := by
  unfold aBuiltin at hs
  split at hs
  · obtain ⟨d, hd, hs2⟩ := bind_some hs
    split at hs2
    · obtain ⟨_, _, rfl, hn⟩ := val_append hs2; exact hn
    · obtain ⟨_, _, rfl, hn⟩ := val_append hs2; exact hn
    · cases hs2
  · obtain ⟨_, _, rfl, hn⟩ := val_copy hs; exact hn
  · obtain ⟨_, _, rfl, hn⟩ := val_clear hs; exact hn
  · obtain ⟨_, _, rfl, hn⟩ := val_delete hs; exact hn
  · injection hs with hs; subst hs; exact Nat.le_refl _
  · cases hs

theorem builtin_sound (hG : G.Fits P) (H : HR B M h w) {b : Builtin} {ts : Array TypeId} {a : Act} {o : Oper} {c : Call} {args : List Value} {res : Res} (hop : o.op = .call c) (hcb : c.callee = .builtin b)
    (ha : LR M args (c.args.map a.eval).toList) (hB : res.next h ≤ B) (hs : aBuiltin G b c.argTypes.toList h args = some res) : h.next ≤ res.next h ∧ OpOK P B M h w a o res := by
  have hx : execOp a.eval o = builtin b c.argTypes o.type (c.args.map fun | .const _ => true | _ => false) (c.args.map a.eval) := by
    simp only [execOp, hop, resolve, hcb]; rfl
  have h0 : ∀ {t : TypeId} {r : List TypeId}, c.argTypes.toList = t :: r → c.argTypes[0]? = some t := by
    intro t r e; rw [← Array.getElem?_toList, e]; rfl
  have h1 : ∀ {t u : TypeId} {r : List TypeId}, c.argTypes.toList = t :: u :: r → c.argTypes[1]? = some u := by
    intro t u r e; rw [← Array.getElem?_toList, e]; rfl
  unfold aBuiltin at hs
  split at hs
  · rename_i t u r s x hts
    obtain ⟨s', x', hl, hs', hx'⟩ := ha.two
    obtain ⟨d, hd, hs2⟩ := bind_some hs
    have key : aAppend G h t s x = some res → ((∃ e2, d = .slice e2) ∨ d = .string) → h.next ≤ res.next h ∧ OpOK P B M h w a o res := by
      intro hap hdd
      obtain ⟨v, h2, rfl, hn⟩ := val_append hap
      obtain ⟨M', v', w', g1, g2, g3, g4⟩ := aAppend_sound (P := P) (ty := o.type) hG H (h0 hts) (h1 hts) (hG.und _ _ hd) hdd hs' hx' hB hap
      refine ⟨hn, OpOK.val ?_ g2 g3 g4⟩
      rw [hx, arr_two hl]
      simp [builtin, g1]
    split at hs2
    · exact key hs2 (.inl ⟨_, rfl⟩)
    · exact key hs2 (.inr rfl)
    · cases hs2
  · rename_i t r d s hts
    obtain ⟨d', s', hl, hd', hs'⟩ := ha.two
    obtain ⟨v, h2, rfl, hn⟩ := val_copy hs
    obtain ⟨v', w', g1, g2, g3, g4⟩ := aCopy_sound (P := P) (ty := o.type) hG H (h0 hts) hd' hs' hs
    refine ⟨hn, OpOK.val ?_ g2 g3 g4⟩
    rw [hx, arr_two hl]
    simp [builtin, g1]
  · rename_i t r x hts
    obtain ⟨x', hl, hx'⟩ := ha.one
    obtain ⟨v, h2, rfl, hn⟩ := val_clear hs
    obtain ⟨v', w', g1, g2, g3, g4⟩ := aClear_sound (P := P) (ty := o.type) hG H (h0 hts) hx' hs
    refine ⟨hn, OpOK.val ?_ g2 g3 g4⟩
    rw [hx, arr_one hl]
    simp [builtin, g1]
  · rename_i t r m k hts
    obtain ⟨m', k', hl, hm', hk'⟩ := ha.two
    obtain ⟨v, h2, rfl, hn⟩ := val_delete hs
    obtain ⟨v', w', g1, g2, g3, g4⟩ := aDelete_sound (P := P) (ty := o.type) hG H (h0 hts) hm' hk' hs
    refine ⟨hn, OpOK.val ?_ g2 g3 g4⟩
    rw [hx, arr_two hl]
    simp [builtin, g1]
  · rename_i t v
    obtain ⟨x', hl, hx'⟩ := ha.one
    obtain ⟨v', rfl, hv'⟩ := hx'.iface_inv
    injection hs with hs; subst hs
    refine ⟨Nat.le_refl _, ?_⟩
    intro K Q hk
    show o.upon P a K Q ((execOp a.eval o).run P w)
    have : (execOp a.eval o).run P w = .halt (.panic (.iface t v')) w := by
      rw [hx, arr_one hl]
      simp [builtin, Instr.panic]
    rw [this, Oper.upon_panic]
    exact hk M _ w (Ext.refl _ _ _) H hx'
  · cases hs

theorem aField_inv {t : TypeId} {a v : Value} {i : Nat} (hv : aField G t a i = some v) :
    ∃ b o fs f n, a = .pointer (some ⟨b, o, none⟩) ∧ G.und t = some (.struct fs) ∧ fs[i]? = some f ∧ aSize G f.type = some n ∧ n ≠ 0 ∧ v = aAdd b o f.offset := by
  unfold aField at hv
  split at hv
  · split at hv
    · rename_i hu
      obtain ⟨f, hf, hv⟩ := bind_some hv
      obtain ⟨n, hn, hv⟩ := bind_some hv
      obtain ⟨hz, hv⟩ := bif_none hv
      injection hv with hv
      exact ⟨_, _, _, f, n, rfl, hu, hf, hn, Nat.ne_of_beq_eq_false hz, hv.symm⟩
    · cases hv
  · cases hv

/-- a method of a value in an interface -/
theorem aMethod_sound (hG : G.Fits P) (H : HR B M h w) {t : TypeId} {v v' r : Value} {name : String} {f : FuncId} (hv : VR M v v') (hm : aMethod G h t v name = some (f, r)) (args : Array Value) :
    ∃ r', VR M r r' ∧ (callMethod (.iface t v') name args).run P w = (callFunc f (#[r'] ++ args)).run P w := by
  unfold aMethod at hm
  obtain ⟨i, hi, hm⟩ := bind_some hm
  obtain ⟨m, hf, hm⟩ := bind_some hm
  obtain ⟨fp, hfp, hm⟩ := bind_some hm
  obtain ⟨f', ptr⟩ := fp
  simp only at hm
  have hpi := hG.info _ _ hi
  have hfind : i.methods.find? (fun m => m.name == name) = some m := by rw [← Array.find?_toList]; exact hf
  have hfuel : ∃ n, P.types.size + Made.depth = n + 1 := ⟨P.types.size + 99, by unfold Made.depth; omega⟩
  obtain ⟨n, hn⟩ := hfuel
  split at hm
  · rename_i hpath
    split at hm
    · rename_i el hu
      injection hm with hm; injection hm with e1 e2; subst e1; subst e2
      refine ⟨v', hv, ?_⟩
      simp [callMethod, hn, method, run_inf hpi, hfind, hpath, follow, hfp, receiverAt, run_und (hG.und _ _ hu), Place.get]
    · cases hm
    · rename_i d hnp hu
      injection hm with hm; injection hm with e1 e2; subst e1; subst e2
      refine ⟨v', hv, ?_⟩
      have hnp' : ∀ e, d ≠ .pointer e := fun e he => hnp e he
      have : ∀ wr, (receiverAt t (.val v') false wr).run P w = .ok v' w := by
        intro wr
        unfold receiverAt
        simp only [Sem.run_bind, run_und (hG.und _ _ hu), Result.andThen_ok]
        cases d <;> first | exact absurd rfl (hnp' _) | rfl
      simp [callMethod, hn, method, run_inf hpi, hfind, hpath, follow, hfp, this]
    · cases hm
  · rename_i s hpath
    obtain ⟨hd, hm0⟩ := bif_some hm
    clear hm
    have hm := hm0
    clear hm0
    split at hm
    · rename_i fs hus
      obtain ⟨fd, hfd, hm1⟩ := bind_some hm
      clear hm
      obtain ⟨ad, had, hm⟩ := bind_some hm1
      clear hm1
      obtain ⟨b, o, fs2, fd2, n2, rfl, hus2, hfd2, hn2, hnz, rfl⟩ := aField_inv had
      rw [hus] at hus2; injection hus2 with hus2; injection hus2 with hus2; subst hus2
      rw [hfd] at hfd2; injection hfd2 with hfd2; subst hfd2
      obtain ⟨b', o', p, hbo, hM, rfl⟩ := hv.ptr_inv
      injection hbo with hb1 ho1 _
      subst hb1; subst ho1
      have hptr : VR M (aAdd b o fd.offset) (.pointer (some ⟨p.b, o + p.sh + fd.offset, none⟩)) := by
        have := VR.ptr (M := M) (o := o + fd.offset) hM
        rw [show o + fd.offset + p.sh = o + p.sh + fd.offset by omega] at this
        exact this
      have hfol : (follow m.path.toList t (.val (.pointer (some ⟨p.b, o + p.sh, none⟩)))).run P w = .ok (fd.type, .var ⟨p.b, o + p.sh + fd.offset, none⟩) w := by
        rw [hpath]
        simp [follow, run_und (hG.und _ _ hus), hfd, hd, Place.get, asAddr, fieldPlace, aSize_run hG hn2, hnz, add_addr]
      split at hm
      · cases hm
      · rename_i d hnp hut
        injection hm with hm; injection hm with e1 e2; subst e1; subst e2
        have hnp' : ∀ e, d ≠ .pointer e := fun e he => hnp e he
        refine ⟨_, hptr, ?_⟩
        have : ∀ wr, (receiverAt fd.type (.var ⟨p.b, o + p.sh + fd.offset, none⟩) true wr).run P w = .ok (.pointer (some ⟨p.b, o + p.sh + fd.offset, none⟩)) w := by
          intro wr
          unfold receiverAt
          simp only [Sem.run_bind, run_und (hG.und _ _ hut), Result.andThen_ok]
          cases d <;> first | exact absurd rfl (hnp' _) | rfl
        simp [callMethod, hn, method, run_inf hpi, hfind, hfol, hfp, this]
      · rename_i d hnp hut
        obtain ⟨x, hx, hm⟩ := map_some hm
        injection hm with e1 e2; subst e1; subst e2
        have hnp' : ∀ e, d ≠ .pointer e := fun e he => hnp e he
        have hM' : M b = some p := hM
        obtain ⟨x', g1, g2⟩ := loadVar_sound (P := P) hG H hM' (o := o + fd.offset) hx
        refine ⟨x', g2, ?_⟩
        rw [show o + fd.offset + p.sh = o + p.sh + fd.offset by omega] at g1
        have : ∀ wr, (receiverAt fd.type (.var ⟨p.b, o + p.sh + fd.offset, none⟩) false wr).run P w = .ok x' w := by
          intro wr
          unfold receiverAt
          simp only [Sem.run_bind, run_und (hG.und _ _ hut), Result.andThen_ok]
          cases d <;> first | exact absurd rfl (hnp' _) | simpa [Place.get] using g1
        simp [callMethod, hn, method, run_inf hpi, hfind, hfol, hfp, this]
      · cases hm
    · cases hm
  · cases hm

theorem callee_operands {c : Call} {x : Operand} (h : x ∈ c.args) : x ∈ (Op.call c).operands := by
  simp only [Op.operands, Call.operands]
  exact Array.mem_append.2 (.inr h)

theorem args_LR {e : Env} {a : Act} {c : Call} (hρ : OpsR M e a (.call c)) : LR M (c.args.toList.map e.opd) (c.args.map a.eval).toList := by
  rw [Array.toList_map]
  exact LR.map _ fun x hx => hρ x (callee_operands (by simpa using hx))

theorem eStep_sound {r : Ev} (hG : G.Fits2 P) (hC : CallOK P r.call) (H : HR B M h w) {e : Env} {a : Act} {o : Oper} {res : Res} (hρ : OpsR M e a o.op) (hs : eStep G r e h o = some res) :
    h.next ≤ res.next h ∧ (res.next h ≤ B → OpOK P B M h w a o res) := by
  unfold eStep at hs
  cases hop : o.op <;> rw [hop] at hs hρ <;> simp only [reduceCtorEq] at hs
  case store t x y =>
    obtain ⟨h1, hs1, rfl⟩ := map_some hs
    refine ⟨next_store hs1, fun _ => ?_⟩
    obtain ⟨w', g1, g2, g3⟩ := aStore_sound hG.toFits H (hρ x (by simp [Op.operands])) (hρ y (by simp [Op.operands])) hs1
    exact OpOK.skip (by simp [execOp, hop, g1]) g2 g3
  case convert s d x =>
    obtain ⟨v, h1, rfl, hn⟩ := val_convert hs
    refine ⟨hn, fun hB => ?_⟩
    obtain ⟨M', v', w', g1, g2, g3, g4⟩ := aConvertH_sound hG.toFits H (hρ x (by simp [Op.operands])) hB hs
    exact OpOK.val (by simp [execOp, hop, g1]) g2 g3 g4
  case mapUpdate t m k x =>
    obtain ⟨h1, hs1, rfl⟩ := map_some hs
    refine ⟨next_update hs1, fun _ => ?_⟩
    obtain ⟨w', g1, g2, g3⟩ := aUpdate_sound hG.toFits H (hρ m (by simp [Op.operands])) (hρ k (by simp [Op.operands])) (hρ x (by simp [Op.operands])) hs1
    exact OpOK.skip (by simp [execOp, hop, g1]) g2 g3
  case insert t m k x =>
    obtain ⟨h1, hs1, rfl⟩ := map_some hs
    refine ⟨next_update hs1, fun _ => ?_⟩
    obtain ⟨w', g1, g2, g3⟩ := aUpdate_sound hG.toFits H (hρ m (by simp [Op.operands])) (hρ k (by simp [Op.operands])) (hρ x (by simp [Op.operands])) hs1
    exact OpOK.skip (by simp [execOp, hop, g1]) g2 g3
  case mapEntry t m k =>
    obtain ⟨v, h1, rfl, hn⟩ := val_mapEntry hs
    refine ⟨hn, fun hB => ?_⟩
    obtain ⟨v', w', g1, g2, g3, g4⟩ := aMapEntry_sound hG.toFits H (hρ m (by simp [Op.operands])) (hρ k (by simp [Op.operands])) hs
    exact OpOK.val (by simp [execOp, hop, g1]) g2 g3 g4
  case entryStore t m s x =>
    obtain ⟨h1, hs1, rfl⟩ := map_some hs
    refine ⟨next_entryStore hs1, fun _ => ?_⟩
    obtain ⟨w', g1, g2, g3⟩ := aEntryStore_sound (P := P) (t := t) H (hρ m (by simp [Op.operands])) (hρ s (by simp [Op.operands])) (hρ x (by simp [Op.operands])) hs1
    exact OpOK.skip (by simp [execOp, hop, g1]) g2 g3
  case range t m =>
    obtain ⟨v, h1, rfl, hn⟩ := val_range hs
    refine ⟨hn, fun hB => ?_⟩
    obtain ⟨M', v', w', g1, g2, g3, g4⟩ := aRange_sound hG.toFits H (hρ m (by simp [Op.operands])) hB hs
    exact OpOK.val (by simp [execOp, hop, g1]) g2 g3 g4
  case next it s =>
    obtain ⟨v, h1, rfl, hn⟩ := val_next hs
    refine ⟨hn, fun hB => ?_⟩
    obtain ⟨v', w', g1, g2, g3, g4⟩ := aNext_sound (P := P) (t := o.type) H (hρ it (by simp [Op.operands])) hs
    exact OpOK.val (by simp [execOp, hop, g1]) g2 g3 g4
  case panic x =>
    split at hs
    · rename_i t v hx
      injection hs with hs; subst hs
      refine ⟨Nat.le_refl _, fun _ => ?_⟩
      have hx' := hρ x (by simp [Op.operands])
      rw [hx] at hx'
      obtain ⟨v', hxe, hv'⟩ := hx'.iface_inv
      intro K Q hk
      show o.upon P a K Q ((execOp a.eval o).run P w)
      have : (execOp a.eval o).run P w = .halt (.panic (.iface t v')) w := by simp [execOp, hop, hxe, Instr.panic]
      rw [this, Oper.upon_panic]
      exact hk M _ w (Ext.refl _ _ _) H (.iface _ hv')
    · cases hs
  case call c =>
    split at hs
    · rename_i b hb
      exact ⟨builtin_next hs, fun hB => (builtin_sound (P := P) hG.toFits H (ts := c.argTypes) hop hb (args_LR hρ) hB hs).2⟩
    · rename_i f hf
      split at hs
      · rename_i f1 first captured hfe
        have hfo := hρ f (by simp [Op.operands, Call.operands, hf])
        rw [hfe] at hfo
        obtain ⟨fs', cs', hae, hl1, hl2⟩ := hfo.func_list
        have hargs : LR M (first.toList ++ c.args.toList.map e.opd ++ captured.toList) (fs' ++ c.args.map a.eval ++ cs').toList := by
          rw [arr_append3]
          exact (hl1.append (args_LR hρ)).append hl2
        have hrun : (execOp a.eval o).run P w = (callFunc f1 (fs' ++ c.args.map a.eval ++ cs')).run P w := by
          simp [execOp, hop, resolve, hf, hae, Deferred.ofValue, invoke]
        refine ⟨?_, fun hB => outRes_ok hC hs H hB hargs hrun⟩
        obtain ⟨⟨out, h1⟩, hc1, hc2⟩ := bind_some hs
        have := hC.next _ _ _ _ _ hc1
        unfold outRes at hc2
        split at hc2
        · rename_i heq; injection heq with e1 e2; subst e2; injection hc2 with hc2; subst hc2; exact this
        · rename_i heq; injection heq with e1 e2; subst e2; obtain ⟨_, hc2⟩ := if_some hc2; injection hc2 with hc2; subst hc2; exact this
        · cases hc2
      · cases hs
    · rename_i x name hx
      split at hs
      · rename_i t v hxe
        obtain ⟨fr, hfr, hs1⟩ := bind_some hs
        obtain ⟨f1, rv⟩ := fr
        simp only at hs1
        have hxo := hρ x (by simp [Op.operands, Call.operands, hx])
        rw [hxe] at hxo
        obtain ⟨v', hae, hv'⟩ := hxo.iface_inv
        obtain ⟨r', hr', hrun0⟩ := aMethod_sound (P := P) hG.toFits H hv' hfr (c.args.map a.eval)
        have hargs : LR M (rv :: c.args.toList.map e.opd) (#[r'] ++ c.args.map a.eval).toList := by
          simp only [Array.toList_append]
          exact .cons hr' (args_LR hρ)
        have hrun : (execOp a.eval o).run P w = (callFunc f1 (#[r'] ++ c.args.map a.eval)).run P w := by
          rw [← hrun0]
          have e0 : (#[Value.iface t v'] ++ c.args.map a.eval)[0]? = some (.iface t v') := by rw [Array.getElem?_append]; simp
          have e1 : (c.args.map a.eval).extract 0 c.args.size = c.args.map a.eval := by
            rw [show c.args.size = (c.args.map a.eval).size by simp]; exact Array.extract_size
          simp [execOp, hop, resolve, hx, hae, invoke, e0, e1]
        refine ⟨?_, fun hB => outRes_ok hC hs1 H hB hargs hrun⟩
        obtain ⟨⟨out, h1⟩, hc1, hc2⟩ := bind_some hs1
        have := hC.next _ _ _ _ _ hc1
        unfold outRes at hc2
        split at hc2
        · rename_i heq; injection heq with e1 e2; subst e2; injection hc2 with hc2; subst hc2; exact this
        · rename_i heq; injection heq with e1 e2; subst e2; obtain ⟨_, hc2⟩ := if_some hc2; injection hc2 with hc2; subst hc2; exact this
        · cases hc2
      · cases hs
  case defer c =>
    split at hs
    · rename_i f hf
      split at hs
      · rename_i f1 first captured hfe
        injection hs with hs; subst hs
        refine ⟨Nat.le_refl _, fun _ => ?_⟩
        have hfo := hρ f (by simp [Op.operands, Call.operands, hf])
        rw [hfe] at hfo
        obtain ⟨fs', cs', hae, hl1, hl2⟩ := hfo.func_list
        intro K Q hk
        show o.upon P a K Q ((execOp a.eval o).run P w)
        have : (execOp a.eval o).run P w = .ok (.defer { target := .fn (.func f1) cs', args := fs' ++ c.args.map a.eval }) w := by
          simp [execOp, hop, resolve, hf, hae, Deferred.ofValue]
        rw [this, Oper.upon_defer]
        refine hk _ ⟨f1, captured, cs', rfl, rfl, hl2, ?_⟩
        simp only [Array.toList_append, Array.toList_map]
        exact hl1.append (LR.map _ fun x hx => hρ x (by simp only [Op.operands, Call.operands]; exact Array.mem_append.2 (.inr (by simpa using hx))))
      · cases hs
    · cases hs

end
end Go.AE
