/- Operations on values alone: what the evaluator says of them is what the model does. -/
import Derived.Test.YtaceaifoajkgaaaGreatDoorAErel
import Derived.Laws.StructEq
import Derived.ChangeKeysEq
namespace Go.AE

structure Tabs.Fits (G : Tabs) (P : Program) : Prop where
  und : ∀ t d, G.und t = some d → P.underlying t = some d
  held : ∀ t fs, G.und t = some (.struct fs) → P.stoodInHeld t = false
  info : ∀ t i, G.info t = some i → P.info? t = some i
  zero : ∀ t i z, G.info t = some i → i.zero = some z → VR (fun _ => none) z z ∧ z.cells.size = i.size ∧ z.cells.toList.all Value.oneCell' = true ∧ fits z = true

section
variable {G : Tabs} {P : Program} {M : Mp} {w : World}

theorem VR.of_none {v v' : Value} (hv : VR (fun _ => none) v v') : VR M v v' := hv.mono fun _ _ h => by cases h

theorem run_und {t : TypeId} {d : TypeDesc} (hu : P.underlying t = some d) (w : World) : (underlying t).run P w = .ok d w := by
  simp [underlying, hu]
theorem run_inf {t : TypeId} {i : TypeInfo} (hi : P.info? t = some i) (w : World) : (typeInfo t).run P w = .ok i w := by
  simp [typeInfo, hi]
theorem run_isAgg_of {t : TypeId} {d : TypeDesc} (hu : P.underlying t = some d) (w : World) : (isAgg t).run P w = .ok (isAggD d) w := by
  cases d <;> simp [isAgg, underlying, hu, isAggD]

theorem aSize_run (hG : G.Fits P) {t : TypeId} {n : Nat} (h : aSize G t = some n) (w : World) : (sizeOf t).run P w = .ok n w := by
  unfold aSize at h
  cases hi : G.info t with
  | none => rw [hi] at h; cases h
  | some i => rw [hi] at h; injection h with h; subst h; simp [sizeOf, typeInfo, hG.info _ _ hi]
theorem aSize_cellsOf (hG : G.Fits P) {t : TypeId} {n : Nat} (h : aSize G t = some n) : P.cellsOf t = n ∧ ∃ i, P.info? t = some i := by
  unfold aSize at h
  cases hi : G.info t with
  | none => rw [hi] at h; cases h
  | some i => rw [hi] at h; injection h with h; subst h; exact ⟨by simp [Program.cellsOf, hG.info _ _ hi], i, hG.info _ _ hi⟩
theorem aZero_run (hG : G.Fits P) {t : TypeId} {z : Value} (h : aZero G t = some z) (w : World) :
    (zeroValue t).run P w = .ok z w ∧ (∀ M, VR M z z) ∧ z.cells.toList.all Value.oneCell' = true ∧ fits z = true := by
  unfold aZero at h
  cases hi : G.info t with
  | none => rw [hi] at h; cases h
  | some i =>
    rw [hi] at h
    have hz : i.zero = some z := h
    exact ⟨by simp [zeroValue, typeInfo, hG.info _ _ hi, hz], fun M => (hG.zero _ _ _ hi hz).1.of_none, (hG.zero _ _ _ hi hz).2.2.1, (hG.zero _ _ _ hi hz).2.2.2⟩

theorem aPart_run (hG : G.Fits P) {t : TypeId} {cs ds : Array Value} {off : Nat} {v : Value} (hl : LR M cs.toList ds.toList) (one : cs.toList.all Value.oneCell' = true)
    (h : aPart G t cs.toList off = some v) (w : World) : ∃ v', (part t ds off).run P w = .ok v' w ∧ VR M v v' := by
  unfold aPart at h
  cases hu : G.und t with
  | none => rw [hu] at h; cases h
  | some d =>
    rw [hu] at h
    simp only [Option.bind_some] at h
    simp only [part, Sem.run_bind, run_isAgg_of (hG.und _ _ hu), Result.andThen_ok]
    cases hd : isAggD d with
    | true =>
      rw [hd] at h
      simp only [cond_true] at h
      cases hn : aSize G t with
      | none => rw [hn] at h; cases h
      | some n =>
        rw [hn] at h
        injection h with h
        subst h
        refine ⟨.agg (ds.extract off (off + n)), by simp [aSize_run hG hn], ?_⟩
        have h1 := (hl.drop off).take n
        have h2 : ds.extract off (off + n) = (List.take n (List.drop off ds.toList)).toArray := by
          apply Array.toList_inj.1
          simp [Array.toList_extract]
        rw [h2]
        refine LR.agg h1 ?_
        rw [List.all_eq_true] at one ⊢
        exact fun x hx => one x (List.mem_of_mem_drop (List.mem_of_mem_take hx))
    | false =>
      rw [hd] at h
      simp only [cond_false] at h
      obtain ⟨v', h1, h2⟩ := hl.get h
      refine ⟨v', ?_, h2⟩
      have : ds[off]? = some v' := by rw [← Array.getElem?_toList]; exact h1
      simp [this]

theorem bytesEq_eq (a b : ByteArray) : bytesEq a b = (a == b) := by
  rw [beq_toListBytes, ByteArray.toList_eq, ByteArray.toList_eq]; rfl

theorem aEq_run (hG : G.Fits P) : ∀ (d : Nat) (t : TypeId) (x y x' y' : Value) (b : Bool), aEq G d t x y = some b → VR M x x' → VR M y y' →
    ∀ (n : Nat), d ≤ n → ∀ w, (Op.equalIn n t x' y').run P w = .ok b w := by
  intro d
  induction d with
  | zero => intro t x y x' y' b h; simp [aEq] at h
  | succ d ih =>
    intro t x y x' y' b h hx hy n hn w
    obtain ⟨n, rfl⟩ : ∃ m, n = m + 1 := ⟨n - 1, by omega⟩
    unfold aEq at h
    cases hu : G.und t with
    | none => rw [hu] at h; cases h
    | some ds =>
      rw [hu] at h
      simp only [Option.bind_some] at h
      have hu' := hG.und _ _ hu
      split at h
      · injection h with h; subst h; cases hx; cases hy; simp [Op.equalIn, run_und hu']
      · cases hx; cases hy
        split at h
        · rename_i hk; injection h with h; subst h; simp [Op.equalIn, run_und hu', hk]
        · cases h
      · injection h with h; subst h; cases hx; cases hy; simp [Op.equalIn, run_und hu', bytesEq_eq]
      · rename_i fs xs ys
        obtain ⟨xs', rfl, hlx, ox⟩ := hx.agg_list
        obtain ⟨ys', rfl, hly, oy⟩ := hy.agg_list
        have hf : P.fieldsOf t = fs := by simp [Program.fieldsOf, hu']
        rw [run_equalIn_struct w n t xs' ys' (by rw [hf]; exact hu') (hG.held _ _ hu), hf]
        generalize fs.toList = l at h
        clear hf hu hu'
        induction l generalizing b w with
        | nil => simp [aEqFields] at h; subst h; simp [Op.eqFields]
        | cons f l il =>
          simp only [aEqFields] at h
          cases hname : (f.name == "_") with
          | true => rw [hname] at h; simp at h
          | false =>
            rw [hname] at h
            simp only [cond_false] at h
            have hne : f.name ≠ "_" := by simpa using hname
            cases h1 : aPart G f.type xs.toList f.offset with
            | none => rw [h1] at h; cases h
            | some a =>
              rw [h1] at h
              simp only [Option.bind_some] at h
              cases h2 : aPart G f.type ys.toList f.offset with
              | none => rw [h2] at h; cases h
              | some c =>
                rw [h2] at h
                simp only [Option.bind_some] at h
                cases h3 : aEq G d f.type a c with
                | none => rw [h3] at h; cases h
                | some r =>
                  rw [h3] at h
                  simp only [Option.bind_some] at h
                  obtain ⟨a', ra, va⟩ := aPart_run hG hlx ox h1 w
                  obtain ⟨c', rc, vc⟩ := aPart_run hG hly oy h2 w
                  have r3 := ih _ _ _ _ _ _ h3 va vc n (by omega) w
                  simp only [Op.eqFields, hne, ne_eq, not_false_eq_true, if_true, Sem.run_bind, ra, rc, r3, Result.andThen_ok]
                  cases r with
                  | true => simp only [cond_true] at h; simpa using il b w h
                  | false => simp only [cond_false] at h; injection h with h; subst h; simp
      · rename_i len e xs ys
        obtain ⟨xs', rfl, hlx, ox⟩ := hx.agg_list
        obtain ⟨ys', rfl, hly, oy⟩ := hy.agg_list
        cases hs : aSize G e with
        | none => rw [hs] at h; cases h
        | some m =>
          rw [hs] at h
          simp only [Option.bind_some] at h
          obtain ⟨hc, i, hi⟩ := aSize_cellsOf hG hs
          rw [run_equalIn_array (w := w) n xs' ys' hu' hi, hc]
          generalize List.range len = l at h
          induction l generalizing b w with
          | nil => simp [aEqElems] at h; subst h; simp [Op.eqItems]
          | cons j l il =>
            simp only [aEqElems] at h
            cases h1 : aPart G e xs.toList (j * m) with
            | none => rw [h1] at h; cases h
            | some a =>
              rw [h1] at h
              simp only [Option.bind_some] at h
              cases h2 : aPart G e ys.toList (j * m) with
              | none => rw [h2] at h; cases h
              | some c =>
                rw [h2] at h
                simp only [Option.bind_some] at h
                cases h3 : aEq G d e a c with
                | none => rw [h3] at h; cases h
                | some r =>
                  rw [h3] at h
                  simp only [Option.bind_some] at h
                  obtain ⟨a', ra, va⟩ := aPart_run hG hlx ox h1 w
                  obtain ⟨c', rc, vc⟩ := aPart_run hG hly oy h2 w
                  have r3 := ih _ _ _ _ _ _ h3 va vc n (by omega) w
                  simp only [Op.eqItems, Sem.run_bind, ra, rc, r3, Result.andThen_ok]
                  cases r with
                  | true => simp only [cond_true] at h; simpa using il b w h
                  | false => simp only [cond_false] at h; injection h with h; subst h; simp
      · cases h

theorem noIface_guard (hG : G.Fits P) : ∀ (d : Nat) (t : TypeId), noIface G d t = true → ∀ n, d ≤ n → P.eqGuardType n t = false := by
  intro d
  induction d with
  | zero => intro t h; simp [noIface] at h
  | succ d ih =>
    intro t h n hn
    obtain ⟨n, rfl⟩ : ∃ m, n = m + 1 := ⟨n - 1, by omega⟩
    unfold noIface at h
    cases hu : G.und t with
    | none => rw [hu] at h; simp at h
    | some ds =>
      rw [hu] at h
      have hu' := hG.und _ _ hu
      unfold Program.eqGuardType
      rw [hu']
      cases ds <;> simp only at h ⊢
      case struct fs =>
        rw [Array.any_eq_false]
        intro i hi
        have h1 := List.all_eq_true.1 h fs[i] (by simp)
        have := ih _ h1 n (by omega)
        simp [this]
      case array len e => exact ih _ h n (by omega)
      case interface ms => cases h

theorem depth_ge (P : Program) : 20 ≤ P.depth := by unfold Program.depth Made.depth; omega

set_option maxHeartbeats 2000000 in
theorem aEql_run (hG : G.Fits P) {op : BinOp} (hop : op = .eql ∨ op = .neq) {nilOk : Bool} {t : TypeId} {x y : Operand} {a c a' c' : Value} {b : Bool} (hn : nilOk = true → (isConst x || isConst y) = true)
    (h : aEql G nilOk t a c = some b) (ha : VR M a a') (hc : VR M c c') (hni : ∀ k n, a ≠ .int k n) (w : World) :
    (eqGuard op t x y a' c').run P w = .ok () w ∧ (Op.equal t a' c').run P w = .ok b w := by
  have hopm : (!(op matches .eql | .neq)) = false := by rcases hop with rfl | rfl <;> rfl
  unfold aEql at h
  split at h
  · -- agg
    cases hi : noIface G 20 t with
    | false => rw [hi] at h; simp at h
    | true =>
      rw [hi] at h
      simp only [cond_true] at h
      obtain ⟨xs', rfl, _, _⟩ := ha.agg_list
      obtain ⟨ys', rfl, _, _⟩ := hc.agg_list
      refine ⟨run_eqGuard_agg w op t x y xs' ys' (noIface_guard hG 20 t hi _ (depth_ge P)), ?_⟩
      exact aEq_run hG 20 t _ _ _ _ b h ha hc 10000 (by omega) w
  all_goals first
    | (cases h; done)
    | skip
  all_goals
    first
    | (cases hu : G.und t with
        | none => rw [hu] at h; cases h
        | some d =>
          rw [hu] at h
          simp only [Option.bind_some] at h
          have hu' := hG.und _ _ hu
          cases d <;> simp only [reduceCtorEq] at h
          all_goals
            injection h with h
            subst h
            cases ha <;> cases hc <;> (refine ⟨by rcases hop with rfl | rfl <;> simp [eqGuard], ?_⟩; refine (?_ : ∀ n, (Op.equalIn (n + 1) t _ _).run P w = _) 9999; intro n; simp [Op.equalIn, run_und hu']))
    | (cases hno : nilOk with
        | false => rw [hno] at h; simp at h
        | true =>
          rw [hno] at h
          simp only [cond_true] at h
          have hco := hn hno
          cases hu : G.und t with
          | none => rw [hu] at h; cases h
          | some d =>
            rw [hu] at h
            simp only [Option.bind_some] at h
            have hu' := hG.und _ _ hu
            cases d <;> simp only [reduceCtorEq] at h
            all_goals
              injection h with h
              subst h
              cases ha; cases hc
              refine ⟨?_, (by refine (?_ : ∀ n, (Op.equalIn (n + 1) t _ _).run P w = _) 9999; intro n; simp [Op.equalIn, run_und hu'])⟩
              rcases hop with rfl | rfl <;> (cases x <;> cases y <;> simp_all [eqGuard, isConst]))

theorem aStr_run {op : BinOp} {a b : ByteArray} {v : Value} (h : aStr op a b = some v) (t : TypeId) (w : World) : (binOp op t (.string a) (.string b)).run P w = .ok v w ∧ VR M v v := by
  unfold aStr bytesEq at h
  cases op <;> simp only [reduceCtorEq] at h
  case add =>
    split at h
    · rename_i hlt
      injection h with h; subst h
      refine ⟨?_, .str _⟩
      have : ¬ (((a.size + b.size : Nat) : Int) > IntKind.i64.max) := by
        have : IntKind.i64.max = 9223372036854775807 := by decide
        unfold small at hlt
        omega
      simp only [binOp, Op.stringOp]
      rw [if_neg this]
      rfl
    · cases h
  all_goals
    injection h with h; subst h
    refine ⟨?_, .bool _⟩
    simp [binOp, Op.stringOp, ByteArray.toList_eq]

theorem aInt_run {op : BinOp} {k : IntKind} {a b : Int} {v : Value} (h : aInt op k a b = some v) (t : TypeId) (w : World) : (binOp op t (.int k a) (.int k b)).run P w = .ok v w ∧ VR M v v := by
  unfold aInt at h
  cases op <;> simp only [reduceCtorEq] at h
  case quo =>
    split at h
    · cases h
    · rename_i hz; injection h with h; subst h; exact ⟨by simp [binOp, Op.intDiv, hz], .int _ _⟩
  case rem =>
    split at h
    · cases h
    · rename_i hz; injection h with h; subst h; exact ⟨by simp [binOp, Op.intDiv, hz], .int _ _⟩
  case add => injection h with h; subst h; exact ⟨by simp [binOp, Op.intArith], .int _ _⟩
  case sub => injection h with h; subst h; exact ⟨by simp [binOp, Op.intArith], .int _ _⟩
  case mul => injection h with h; subst h; exact ⟨by simp [binOp, Op.intArith], .int _ _⟩
  case and => injection h with h; subst h; exact ⟨by simp only [binOp, ne_eq, not_true_eq_false, if_false]; rfl, .int _ _⟩
  case or => injection h with h; subst h; exact ⟨by simp only [binOp, ne_eq, not_true_eq_false, if_false]; rfl, .int _ _⟩
  case xor => injection h with h; subst h; exact ⟨by simp only [binOp, ne_eq, not_true_eq_false, if_false]; rfl, .int _ _⟩
  case andNot => injection h with h; subst h; exact ⟨by simp only [binOp, ne_eq, not_true_eq_false, if_false]; rfl, .int _ _⟩
  all_goals
    injection h with h; subst h
    exact ⟨by simp [binOp, Op.intCmp], .bool _⟩

theorem aShift_run {op : BinOp} (hop : op = .shl ∨ op = .shr) {k k' : IntKind} {a b : Int} {v : Value} (h : aShift op k a b = some v) (t : TypeId) (w : World) :
    (binOp op t (.int k a) (.int k' b)).run P w = .ok v w ∧ VR M v v := by
  unfold aShift at h
  split at h
  · cases h
  · rename_i hb
    rcases hop with rfl | rfl
    all_goals
      injection h with h; subst h
      exact ⟨by simp [binOp, Op.shift, hb], .int _ _⟩

theorem run_eqGuard_int (op : BinOp) (t : TypeId) (x y : Operand) (k k' : IntKind) (a b : Int) (w : World) : (eqGuard op t x y (.int k a) (.int k' b)).run P w = .ok () w := by
  cases op <;> simp [eqGuard]
theorem run_eqGuard_str (op : BinOp) (t : TypeId) (x y : Operand) (a b : ByteArray) (w : World) : (eqGuard op t x y (.string a) (.string b)).run P w = .ok () w := by
  cases op <;> simp [eqGuard]

theorem binOp_eql_run {t : TypeId} {x y : Value} {b : Bool} (h : (Op.equal t x y).run P w = .ok b w) (hi : (∀ k n, x ≠ .int k n)) (hs : ∀ s, x ≠ .string s)
    (hf : ∀ k n, x ≠ .float k n) (hc : ∀ k n m, x ≠ .complex k n m) : (binOp .eql t x y).run P w = .ok (.bool b) w ∧ (binOp .neq t x y).run P w = .ok (.bool (!b)) w := by
  cases x <;> first
    | (exact absurd rfl (hi _ _))
    | (exact absurd rfl (hs _))
    | (exact absurd rfl (hf _ _))
    | (exact absurd rfl (hc _ _ _))
    | (constructor <;> simp [binOp, h])

theorem aBin_run (hG : G.Fits P) {op : BinOp} {t : TypeId} {x y : Operand} {a c a' c' v : Value} (h : aBin G (isConst x || isConst y) op t a c = some v) (ha : VR M a a') (hc : VR M c c') (w : World) :
    ∃ v', (do eqGuard op t x y a' c'; binOp op t a' c' : Sem Value).run P w = .ok v' w ∧ VR M v v' := by
  unfold aBin at h
  split at h
  · cases ha; cases hc
    split at h
    · rename_i k' _ _
      obtain ⟨h1, h2⟩ := aShift_run (P := P) (M := M) (k' := k') (.inl rfl) h t w
      exact ⟨v, by simp [run_eqGuard_int, h1], h2⟩
    · rename_i k' _ _
      obtain ⟨h1, h2⟩ := aShift_run (P := P) (M := M) (k' := k') (.inr rfl) h t w
      exact ⟨v, by simp [run_eqGuard_int, h1], h2⟩
    · split at h
      · rename_i hk
        subst hk
        obtain ⟨h1, h2⟩ := aInt_run (P := P) (M := M) h t w
        exact ⟨v, by simp [run_eqGuard_int, h1], h2⟩
      · cases h
  · cases ha; cases hc
    obtain ⟨h1, h2⟩ := aStr_run (P := P) (M := M) h t w
    exact ⟨v, by simp [run_eqGuard_str, h1], h2⟩
  · rename_i hni hns
    split at h
    · cases he : aEql G (isConst x || isConst y) t a c with
      | none => rw [he] at h; cases h
      | some b =>
        rw [he] at h; injection h with h; subst h
        have hai : ∀ k n, a ≠ .int k n := by
          intro k n e; subst e; unfold aEql at he; split at he <;> simp_all
        have hstr : ∀ s, a ≠ .string s := by
          intro s e; subst e; unfold aEql at he; split at he <;> simp_all
        obtain ⟨g1, g2⟩ := aEql_run hG (.inl rfl) (x := x) (y := y) (fun h => h) he ha hc hai w
        have hb := binOp_eql_run (t := t) g2 (by cases ha <;> simp_all) (by cases ha <;> simp_all) (by cases ha <;> simp) (by cases ha <;> simp)
        exact ⟨.bool b, by simp [g1, hb.1], .bool _⟩
    · cases he : aEql G (isConst x || isConst y) t a c with
      | none => rw [he] at h; cases h
      | some b =>
        rw [he] at h; injection h with h; subst h
        have hai : ∀ k n, a ≠ .int k n := by
          intro k n e; subst e; unfold aEql at he; split at he <;> simp_all
        have hstr : ∀ s, a ≠ .string s := by
          intro s e; subst e; unfold aEql at he; split at he <;> simp_all
        obtain ⟨g1, g2⟩ := aEql_run hG (.inr rfl) (x := x) (y := y) (fun h => h) he ha hc hai w
        have hb := binOp_eql_run (t := t) g2 (by cases ha <;> simp_all) (by cases ha <;> simp_all) (by cases ha <;> simp) (by cases ha <;> simp)
        exact ⟨.bool (!b), by simp [g1, hb.2], .bool _⟩
    · cases h

theorem aUn_run {op : UnOp} {a a' v : Value} (h : aUn op a = some v) (ha : VR M a a') (w : World) : ∃ v', (Op.unary op a').run P w = .ok v' w ∧ VR M v v' := by
  unfold aUn at h
  split at h
  · injection h with h; subst h; cases ha; exact ⟨_, by simp [Op.unary, Op.intArith], .int _ _⟩
  · injection h with h; subst h; cases ha; exact ⟨_, by simp [Op.unary], .bool _⟩
  · cases h

end
end Go.AE
