/- All operations that leave everything as it is. -/
import Derived.Test.YtaceaifoajkgaaaGreatDoorAEmap
namespace Go.AE
section
variable {G : Tabs} {P : Program} {B : Nat} {M : Mp} {h : Hp} {w : World}

theorem natBeq (a b : Nat) : Nat.beq a b = (a == b) := by
  cases h : Nat.beq a b with
  | true => have := Nat.eq_of_beq_eq_true h; simp [this]
  | false => have := Nat.ne_of_beq_eq_false h; simp [this]

theorem VR.bool_inv {b : Bool} {v : Value} (h : VR M (.bool b) v) : v = .bool b := by cases h; rfl
theorem VR.int_inv {k : IntKind} {n : Int} {v : Value} (h : VR M (.int k n) v) : v = .int k n := by cases h; rfl
theorem VR.str_inv {s : ByteArray} {v : Value} (h : VR M (.string s) v) : v = .string s := by cases h; rfl
theorem VR.ptr_inv {a : Addr} {v : Value} (h : VR M (.pointer (some a)) v) : ∃ b o p, a = ⟨b, o, none⟩ ∧ M b = some p ∧ v = .pointer (some ⟨p.b, o + p.sh, none⟩) := by
  cases h with
  | ptr hM => exact ⟨_, _, _, rfl, hM, rfl⟩
theorem VR.iface_inv {t : TypeId} {x v : Value} (h : VR M (.iface t x) v) : ∃ y, v = .iface t y ∧ VR M x y := by
  cases h with
  | iface _ hv => exact ⟨_, rfl, hv⟩
theorem VR.map_inv {r : Nat} {v : Value} (h : VR M (.map (some r)) v) : ∃ p, M r = some p ∧ v = .map (some p.b) := by
  cases h with
  | map hM => exact ⟨_, hM, rfl⟩

theorem EsR.find {es es' : List MapEntry} (he : EsR M es es') (n : Nat) {e : MapEntry} (h : (es.find? fun e => Nat.beq e.born n) = some e) :
    ∃ e', (es'.find? fun e => e.born == n) = some e' ∧ ER M e e' := by
  induction he with
  | nil => cases h
  | cons hee ht ih =>
    rename_i a b l r
    have hb : (Nat.beq a.born n) = (b.born == n) := by rw [hee.2.2]; exact natBeq _ _
    simp only [List.find?_cons] at h ⊢
    rw [← hb]
    cases hn : Nat.beq a.born n with
    | true => rw [hn] at h; injection h with h; subst h; exact ⟨b, rfl, hee⟩
    | false => rw [hn] at h; exact ih h

theorem HR.iter (H : HR B M h w) {r m since : Nat} {p : Pl} {seen : List Nat} {st : Nat} (hM : M r = some p) (hb : h.get r = some (.iter (some m) since seen st)) :
    ∃ q, M m = some q ∧ p.sh = 0 ∧ p.k = .rw ∧ w.heap[p.b]? = some (.mapIter (some q.b) since seen.toArray st) := by
  obtain ⟨x, hx, ho⟩ := H.ob r p _ hM hb rfl
  cases ho with
  | iter hk hs hm => exact ⟨_, hm, hs, hk, hx⟩

theorem run_getIter {r : Nat} {m : Option Nat} {since : Nat} {seen : Array Nat} {st : Nat} (hb : w.heap[r]? = some (.mapIter m since seen st)) : (getObj r).run P w = .ok (.mapIter m since seen st) w := by
  simp [getObj, Sem.run, hb]

theorem aEntry_sound (H : HR B M h w) {it it' v : Value} (hi : VR M it it') (hv : aEntry h it = some v) : ∃ v', (Instr.entry it').run P w = .ok v' w ∧ VR M v v' := by
  unfold aEntry at hv
  split at hv
  · rename_i r
    split at hv
    · rename_i m since seen st hb
      cases hi with
      | ptr hM =>
        rename_i p
        obtain ⟨q, hq, hsh, _, hx⟩ := H.iter hM hb
        split at hv
        · rename_i es clock stamp hm hst
          obtain ⟨hcl, hv⟩ := if_some hv
          obtain ⟨e, hf, hv⟩ := map_some hv
          subst hv
          obtain ⟨es', hy, he, _⟩ := H.map hq hm
          obtain ⟨e', hf', hee⟩ := he.find stamp hf
          have hback : seen.toArray.back? = some stamp := by rw [List.back?_toArray]; exact hst
          have hfa : es'.find? (fun e => e.born == stamp) = some e' := by rw [← Array.find?_toList]; exact hf'
          refine ⟨.tuple #[e'.key, e'.val], ?_, hee.1.pair hee.2.1⟩
          simp only [Instr.entry, hsh, Nat.add_zero, Sem.run_bind, run_getIter hx, Result.andThen_ok, hback, run_getMap hy, hcl, bne_self_eq_false, Bool.false_eq_true, if_false, hfa, Sem.run_pure]
        · cases hv
    · cases hv
  · cases hv

theorem aMin_sound {k : IntKind} : ∀ (l l' : List Value) (x n : Int), LR M l l' → aMin x l = some n → (l'.foldlM Builtin.min2 (.int k x)).run P w = .ok (.int k n) w := by
  intro l
  induction l with
  | nil => intro l' x n hl h; rw [hl.nil_left]; simp [aMin] at h; subst h; rfl
  | cons v l ih =>
    intro l' x n hl h
    obtain ⟨v', r, rfl, hv, hr⟩ := hl.cases
    cases v <;> simp only [aMin, reduceCtorEq] at h
    cases hv
    rename_i y
    simp only [List.foldlM_cons, Sem.run_bind, Builtin.min2, Sem.run_pure, Result.andThen_ok]
    exact ih r _ n hr h

theorem aMax_sound {k : IntKind} : ∀ (l l' : List Value) (x n : Int), LR M l l' → aMax x l = some n → (l'.foldlM Builtin.max2 (.int k x)).run P w = .ok (.int k n) w := by
  intro l
  induction l with
  | nil => intro l' x n hl h; rw [hl.nil_left]; simp [aMax] at h; subst h; rfl
  | cons v l ih =>
    intro l' x n hl h
    obtain ⟨v', r, rfl, hv, hr⟩ := hl.cases
    cases v <;> simp only [aMax, reduceCtorEq] at h
    cases hv
    rename_i y
    simp only [List.foldlM_cons, Sem.run_bind, Builtin.max2, Sem.run_pure, Result.andThen_ok]
    exact ih r _ n hr h

theorem LR.one {v : Value} {l' : List Value} (h : LR M [v] l') : ∃ v', l' = [v'] ∧ VR M v v' := by
  obtain ⟨v', r, rfl, hv, hr⟩ := h.cases
  rw [hr.nil_left]
  exact ⟨v', rfl, hv⟩

theorem arr_one {a : Array Value} {v : Value} (h : a.toList = [v]) : a = #[v] := by
  apply Array.ext'; simpa using h

theorem aStill_sound (hG : G.Fits P) (H : HR B M h w) {b : Builtin} {ts : Array TypeId} {ty : TypeId} {cs : Array Bool} {args : List Value} {args' : Array Value} {v : Value} (ha : LR M args args'.toList)
    (hv : aStill G b ts.toList h args = some v) : ∃ v', (builtin b ts ty cs args').run P w = .ok (.value v') w ∧ VR M v v' := by
  unfold aStill at hv
  split at hv
  · rename_i t r x hts
    obtain ⟨x', hx', hx⟩ := ha.one
    have ht : ts[0]? = some t := by rw [← Array.getElem?_toList, hts]; rfl
    obtain ⟨h1, h2⟩ := aLen_sound (P := P) hG H (ty := ty) ht hx hv
    exact ⟨v, by simp [builtin, arr_one hx', h1], h2⟩
  · rename_i t r b o n c hts
    obtain ⟨x', hx', hx⟩ := ha.one
    have ht : ts[0]? = some t := by rw [← Array.getElem?_toList, hts]; rfl
    split at hv
    · cases hv
    · rename_i e c1 e1 md hb hu hmd
      injection hv with hv; subst hv
      refine ⟨iv c, ?_, .int _ _⟩
      have hno : ∀ {p : Pl} {tot sz : Nat}, M b = some p → p.k = .opn tot sz → False := by
        intro p tot sz hM hk
        obtain ⟨c', fz, R⟩ := H.row hM hmd
        rcases R.kind with ⟨_, k, _⟩ | ⟨_, k, _⟩ | ⟨tot', sz', k, _⟩
        · rw [k] at hk; cases hk
        · rw [k] at hk; cases hk
        · exact hb _ k
      cases hx with
      | slc _ _ hM hk => simp [builtin, arr_one hx', Builtin.cap_, ht, run_und (hG.und _ _ hu), goInt, iv]
      | slo _ _ _ hM hk hc hl => exact (hno hM hk).elim
      | sle _ hM hk a => exact (hno hM hk).elim
    · cases hv
  · rename_i t r n c hts
    obtain ⟨x', hx', hx⟩ := ha.one
    have ht : ts[0]? = some t := by rw [← Array.getElem?_toList, hts]; rfl
    split at hv
    · rename_i e hu
      injection hv with hv; subst hv
      cases hx
      exact ⟨iv c, by simp [builtin, arr_one hx', Builtin.cap_, ht, run_und (hG.und _ _ hu), goInt, iv], .int _ _⟩
    · cases hv
  · rename_i k x r
    obtain ⟨n, hn, hv⟩ := map_some hv
    subst hv
    obtain ⟨v', r', hr', hv', hr⟩ := ha.cases
    cases hv'
    refine ⟨.int k n, ?_, .int _ _⟩
    have := aMin_sound (P := P) (w := w) (k := k) r r' x n hr hn
    simp [builtin, Builtin.min_, hr', this]
  · rename_i k x r
    obtain ⟨n, hn, hv⟩ := map_some hv
    subst hv
    obtain ⟨v', r', hr', hv', hr⟩ := ha.cases
    cases hv'
    refine ⟨.int k n, ?_, .int _ _⟩
    have := aMax_sound (P := P) (w := w) (k := k) r r' x n hr hn
    simp [builtin, Builtin.max_, hr', this]
  · cases hv

/-- what the operands hold -/
def OpsR (M : Mp) (e : Env) (a : Act) (o : Op) : Prop := ∀ x ∈ o.operands, VR M (e.opd x) (a.eval x)

theorem All2.map {α β γ : Type} {R : β → γ → Prop} {f : α → β} {g : α → γ} : ∀ (l : List α), (∀ x ∈ l, R (f x) (g x)) → All2 R (l.map f) (l.map g)
  | [], _ => .nil
  | x :: l, h => .cons (h x (by simp)) (All2.map l fun y hy => h y (by simp [hy]))

theorem LR.map {α : Type} {f g : α → Value} : ∀ (l : List α), (∀ x ∈ l, VR M (f x) (g x)) → LR M (l.map f) (l.map g)
  | [], _ => .nil M
  | x :: l, h => .cons (h x (by simp)) (LR.map l fun y hy => h y (by simp [hy]))

theorem optR_map {e : Env} {a : Act} {x : Option Operand} (h : ∀ y, x = some y → VR M (e.opd y) (a.eval y)) : OptR M (x.map e.opd) (x.map a.eval) := by
  cases x with
  | none => exact .none
  | some y => exact .some (h y rfl)

theorem sStep_sound (hG : G.Fits2 P) (H : HR B M h w) {e : Env} {a : Act} {o : Oper} {v : Value} (hρ : OpsR M e a o.op) (hs : sStep G e h o = some v) :
    ∃ v', (execOp a.eval o).run P w = .ok (.value v') w ∧ VR M v v' := by
  unfold sStep at hs
  unfold OpsR at hρ
  cases hop : o.op <;> rw [hop] at hs hρ <;> simp only [reduceCtorEq] at hs
  case move x => injection hs with hs; subst hs; exact ⟨_, by simp [execOp, hop], hρ x (by simp [Op.operands])⟩
  case assign x => injection hs with hs; subst hs; exact ⟨_, by simp [execOp, hop], hρ x (by simp [Op.operands])⟩
  case pick c x y =>
    have hc := hρ c (by simp [Op.operands])
    split at hs
    · rename_i t ht
      injection hs with hs
      rw [ht] at hc
      have hct : a.eval c = .bool t := hc.bool_inv
      subst hs
      refine ⟨if t then a.eval x else a.eval y, by simp [execOp, hop, hct, asBool], ?_⟩
      cases t with
      | true => exact hρ x (by simp [Op.operands])
      | false => exact hρ y (by simp [Op.operands])
    · cases hs
  case build t parts =>
    obtain ⟨v', h1, h2⟩ := aBuild_sound (P := P) hG (parts' := parts.map fun (i, x) => (i, a.eval x)) (by
      rw [Array.toList_map]
      exact All2.map _ fun p hp => ⟨rfl, hρ p.2 (by simp only [Op.operands, List.mem_toArray, List.mem_map]; exact ⟨p, hp, rfl⟩)⟩) hs w
    exact ⟨v', by simp [execOp, hop, h1], h2⟩
  case load t x =>
    obtain ⟨v', h1, h2⟩ := loadAt_sound hG.toFits H (hρ x (by simp [Op.operands])) hs
    exact ⟨v', by simp [execOp, hop, h1], h2⟩
  case nilCheck x =>
    have hx := hρ x (by simp [Op.operands])
    split at hs
    · rename_i ad hxe
      injection hs with hs; subst hs
      rw [hxe] at hx
      obtain ⟨b, o1, p, rfl, hM, hae⟩ := hx.ptr_inv
      refine ⟨_, ?_, .ptr hM⟩
      simp [execOp, hop, hae]
    · rename_i f c1 c2 hxe
      injection hs with hs; subst hs
      rw [hxe] at hx
      obtain ⟨fs', cs', hae, h1, h2⟩ := hx.func_list
      refine ⟨_, ?_, hx⟩
      simp [execOp, hop, hae]
    · rename_i t v1 hxe
      injection hs with hs; subst hs
      rw [hxe] at hx
      obtain ⟨y, hae, hv1⟩ := hx.iface_inv
      refine ⟨_, ?_, .iface _ hv1⟩
      simp [execOp, hop, hae]
    · cases hs
  case binOp op t x y yt =>
    obtain ⟨v', h1, h2⟩ := aBin_run hG.toFits hs (hρ x (by simp [Op.operands])) (hρ y (by simp [Op.operands])) w
    exact ⟨v', by simp only [execOp, hop, Sem.run_bind, h1, Result.andThen_ok, Sem.run_pure], h2⟩
  case unOp op t x =>
    obtain ⟨v', h1, h2⟩ := aUn_run (P := P) hs (hρ x (by simp [Op.operands])) w
    exact ⟨v', by simp [execOp, hop, h1], h2⟩
  case convert s d x =>
    obtain ⟨v', h1, h2⟩ := aConvert_sound hG.toFits (hρ x (by simp [Op.operands])) hs w
    exact ⟨v', by simp [execOp, hop, h1], h2⟩
  case makeInterface t x =>
    split at hs
    · cases hs
    · rename_i d hni hu
      injection hs with hs; subst hs
      refine ⟨.iface t (a.eval x), ?_, .iface _ (hρ x (by simp [Op.operands]))⟩
      have hd : ∀ ms, d ≠ .interface ms := fun ms e => hni ms e
      cases d <;> first | exact absurd rfl (hd _) | simp [execOp, hop, Instr.makeInterface, run_und (hG.und _ _ hu)]
    · cases hs
  case makeFunc fn first captured =>
    injection hs with hs; subst hs
    refine ⟨.func fn (first.map a.eval) (captured.map a.eval), by simp [execOp, hop, Instr.makeFunc], ?_⟩
    have h1 := LR.func (M := M) fn (LR.map (f := e.opd) (g := a.eval) first.toList fun x hx => hρ x (by simp [Op.operands]; left; simpa using hx))
      (LR.map (f := e.opd) (g := a.eval) captured.toList fun x hx => hρ x (by simp [Op.operands]; right; simpa using hx))
    have e1 : ∀ (f : Operand → Value) (l : Array Operand), (l.toList.map f).toArray = l.map f := fun f l => by apply Array.ext'; simp
    rwa [e1, e1, e1, e1] at h1
  case slice t x lo hi mx =>
    obtain ⟨v', h1, h2⟩ := aSlice_sound (P := P) hG.toFits H (hρ x (by simp [Op.operands]))
      (optR_map (e := e) (a := a) (x := lo) fun y hy => hρ y (by subst hy; simp [Op.operands]))
      (optR_map (e := e) (a := a) (x := hi) fun y hy => hρ y (by subst hy; simp [Op.operands]))
      (optR_map (e := e) (a := a) (x := mx) fun y hy => hρ y (by subst hy; simp [Op.operands])) hs
    exact ⟨v', by simp [execOp, hop, h1], h2⟩
  case fieldAddr t x f =>
    obtain ⟨v', h1, h2⟩ := aField_sound hG.toFits (hρ x (by simp [Op.operands])) hs w
    exact ⟨v', by simp [execOp, hop, h1], h2⟩
  case field t x f =>
    obtain ⟨v', h1, h2⟩ := aFieldV_sound hG.toFits (hρ x (by simp [Op.operands])) hs w
    exact ⟨v', by simp [execOp, hop, h1], h2⟩
  case indexAddr t x i =>
    obtain ⟨v', h1, h2⟩ := aIndexAddr_sound hG.toFits (hρ x (by simp [Op.operands])) (hρ i (by simp [Op.operands])) hs w
    exact ⟨v', by simp [execOp, hop, h1], h2⟩
  case index t x i =>
    obtain ⟨v', h1, h2⟩ := aIndex_sound hG.toFits (hρ x (by simp [Op.operands])) (hρ i (by simp [Op.operands])) hs w
    exact ⟨v', by simp [execOp, hop, h1], h2⟩
  case lookup t x i ok =>
    obtain ⟨v', h1, h2⟩ := aLookup_sound hG.toFits H (hρ x (by simp [Op.operands])) (hρ i (by simp [Op.operands])) hs
    exact ⟨v', by simp [execOp, hop, h1], h2⟩
  case entry it =>
    obtain ⟨v', h1, h2⟩ := aEntry_sound (P := P) H (hρ it (by simp [Op.operands])) hs
    exact ⟨v', by simp [execOp, hop, h1], h2⟩
  case typeAssert x t t2 ok =>
    obtain ⟨v', h1, h2⟩ := aAssert_sound hG.toFits (xt := t) (hρ x (by simp [Op.operands])) hs w
    exact ⟨v', by simp [execOp, hop, h1], h2⟩
  case extract t i =>
    have ht := hρ t (by simp [Op.operands])
    split at hs
    · rename_i vs hte
      rw [hte] at ht
      obtain ⟨ds, hae, hl⟩ := ht.tuple_list
      obtain ⟨v', h1, h2⟩ := hl.get (by rw [Array.getElem?_toList]; exact hs)
      rw [Array.getElem?_toList] at h1
      exact ⟨v', by simp [execOp, hop, hae, Instr.extract, h1], h2⟩
    · cases hs
  case call c =>
    split at hs
    · rename_i b hb
      obtain ⟨v', h1, h2⟩ := aStill_sound (P := P) hG.toFits H (ts := c.argTypes) (ty := o.type) (cs := c.args.map fun | .const _ => true | _ => false) (args' := c.args.map a.eval) (by
        rw [Array.toList_map]
        exact LR.map _ fun x hx => hρ x (by simp [Op.operands, Call.operands, hb]; simpa using hx)) hs
      refine ⟨v', ?_, h2⟩
      simp only [execOp, hop, resolve, hb, Sem.run_bind, Sem.run_pure, Result.andThen_ok, invoke]
      exact h1
    · cases hs

end
end Go.AE
