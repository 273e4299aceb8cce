/- Operations that make a block. -/
import Derived.Test.YtaceaifoajkgaaaGreatDoorAEstill
import Derived.Laws.MakeOwn
namespace Go.AE
section
variable {G : Tabs} {P : Program} {B : Nat} {M : Mp} {h : Hp} {w : World}

theorem rep_length (l : List Value) : ∀ n, (rep l n).length = n * l.length := by
  intro n
  induction n with
  | zero => simp [rep]
  | succ n ih => simp [rep, ih, Nat.succ_mul, Nat.add_comm]

theorem rep_get (l : List Value) : ∀ (n i : Nat), i < n * l.length → (rep l n)[i]? = l[i % l.length]? := by
  intro n
  induction n with
  | zero => intro i h; omega
  | succ n ih =>
    intro i h
    have hpos : 0 < l.length := by
      rcases Nat.eq_zero_or_pos l.length with h0 | h0
      · rw [h0] at h; omega
      · exact h0
    simp only [rep]
    by_cases hi : i < l.length
    · rw [List.getElem?_append_left hi, Nat.mod_eq_of_lt hi]
    · have h2 : i - l.length < n * l.length := by rw [Nat.add_mul, Nat.one_mul] at h; omega
      rw [List.getElem?_append_right (by omega), ih _ h2]
      congr 1
      exact (Nat.mod_eq_sub_mod (by omega)).symm

theorem made_rep (z : Array Value) (n m : Nat) (hm : z.size = m) : (madeCells z (n * m)).toList = rep z.toList n := by
  subst hm
  apply List.ext_getElem?
  intro i
  by_cases hi : i < n * z.size
  · rw [rep_get _ _ _ (by simpa using hi)]
    have hz : 0 < z.size := by
      rcases Nat.eq_zero_or_pos z.size with h0 | h0
      · rw [h0] at hi; omega
      · exact h0
    have hlt : i % z.size < z.size := Nat.mod_lt _ hz
    simp only [madeCells, Array.toList_map, Array.toList_range, List.getElem?_map, List.getElem?_range hi, Option.map_some, Array.length_toList]
    rw [Array.getElem?_toList, Array.getElem?_eq_getElem hlt]
    simp [hlt]
  · rw [List.getElem?_eq_none (by simp [madeCells]; omega), List.getElem?_eq_none (by rw [rep_length]; simp; omega)]

theorem rep_all {l : List Value} (h : l.all Value.oneCell' = true) : ∀ n, (rep l n).all Value.oneCell' = true := by
  intro n
  induction n with
  | zero => rfl
  | succ n ih => simp only [rep, List.all_append, h, ih, Bool.and_self]

theorem rep_LR {l l' : List Value} (h : LR M l l') : ∀ n, LR M (rep l n) (rep l' n) := by
  intro n
  induction n with
  | zero => exact .nil M
  | succ n ih => exact h.append ih

theorem rep_mono {M M' : Mp} (hM : M.le M') {l l' : List Value} (h : LR M l l') : LR M' l l' := h.mono hM

theorem or_rw {c : List Value} {c' : Array Value} {e : TypeId} {n : Nat} (h : LR M c c'.toList) (one : c.all Value.oneCell' = true) : OR M (.cells c e .rw) ⟨n, 0, .rw⟩ (.cells c' e) :=
  .rw rfl rfl h (Nat.le_refl 0) one

/-- what such an operation does -/
def Makes (P : Program) (M : Mp) (a : Act) (o : Oper) (n : New) : Prop :=
  ∀ w : World, ∃ x v', (execOp a.eval o).run P w = .ok (.value v') (w.alloc x) ∧ (∀ M', M.le M' → OR M' n.ob ⟨w.heap.size, 0, .rw⟩ x) ∧
    (∀ M' id, M' id = some ⟨w.heap.size, 0, .rw⟩ → VR M' (n.to id) v') ∧ n.ob.live = true

theorem ptrTo_VR {M' : Mp} {id b : Nat} (h : M' id = some ⟨b, 0, .rw⟩) : VR M' (ptrTo id) (.pointer (some ⟨b, 0, none⟩)) := by
  have := VR.ptr (M := M') (o := 0) h
  simpa [ptrTo] using this
theorem sliceTo_VR {M' : Mp} {id b : Nat} (l c : Nat) (h : M' id = some ⟨b, 0, .rw⟩) : VR M' (sliceTo l c id) (.slice (some ⟨b, 0, none⟩) l c) := by
  have := VR.slc (M := M') (o := 0) l c h rfl
  simpa [sliceTo] using this

theorem zero_all (hG : G.Fits P) {t : TypeId} {i : TypeInfo} {z : Value} (hi : G.info t = some i) (hz : i.zero = some z) :
    P.info? t = some i ∧ (∀ M, LR M z.cells.toList z.cells.toList) ∧ z.cells.size = i.size ∧ z.cells.toList.all Value.oneCell' = true := by
  obtain ⟨h1, h2, h3, _⟩ := hG.zero _ _ _ hi hz
  exact ⟨hG.info _ _ hi, fun M => (h1.of_none (M := M)).cells, h2, h3⟩

theorem nStep_sound (hG : G.Fits2 P) {e : Env} {a : Act} {o : Oper} {n : New} (hρ : OpsR M e a o.op) (hs : nStep G e o = some n) : Makes P M a o n := by
  intro w
  unfold nStep at hs
  unfold OpsR at hρ
  cases hop : o.op <;> rw [hop] at hs hρ <;> simp only [reduceCtorEq] at hs
  case alloc t =>
    unfold aAlloc at hs
    obtain ⟨z, hz, hs⟩ := map_some hs
    subst hs
    obtain ⟨hzr, hzv, hz1, _⟩ := aZero_run hG.toFits hz w
    refine ⟨.cells z.cells t, .pointer (some ⟨w.heap.size, 0, none⟩), ?_, fun M' _ => or_rw (hzv M').cells hz1, fun M' id hM => ptrTo_VR hM, rfl⟩
    simp [execOp, hop, Instr.alloc, hzr, newVar, newRow]
  case box t x =>
    unfold aBox at hs
    obtain ⟨hf, hs⟩ := bif_some hs
    injection hs with hs
    subst hs
    have hx := hρ x (by simp [Op.operands])
    refine ⟨.cells (a.eval x).cells t, .pointer (some ⟨w.heap.size, 0, none⟩), ?_, fun M' hM => or_rw (hx.mono hM).cells (fits_cells hx hf), fun M' id hM => ptrTo_VR hM, rfl⟩
    simp [execOp, hop, Instr.box, newVar, newRow]
  case buildSlice t len parts =>
    unfold aBuildSlice at hs
    split at hs
    · rename_i el hu
      obtain ⟨m, hm, hs⟩ := bind_some hs
      obtain ⟨⟨hle, hm0⟩, hs⟩ := if_some hs
      obtain ⟨z, hz, hs⟩ := bind_some hs
      obtain ⟨c, hc, hs⟩ := map_some hs
      subst hs
      unfold aZero at hz
      obtain ⟨i, hi, hz'⟩ := bind_some hz
      obtain ⟨hpi, hzl, hzs, hz1⟩ := zero_all hG.toFits hi hz'
      have him : i.size = m := by unfold aSize at hm; rw [hi] at hm; injection hm
      have hp : All2 (fun (p q : Nat × Value) => p.1 = q.1 ∧ VR M p.2 q.2) (parts.toList.map fun (i, x) => (i, e.opd x)) (parts.map fun (i, x) => (i, a.eval x)).toList := by
        rw [Array.toList_map]
        exact All2.map _ fun p hp => ⟨rfl, hρ p.2 (by simp only [Op.operands, List.mem_toArray, List.mem_map]; exact ⟨p, hp, rfl⟩)⟩
      have hmade : (madeCells z.cells (len * m)).toList = rep z.cells.toList len := made_rep _ _ _ (hzs.trans him)
      obtain ⟨c', hf, hl, one⟩ := fill_sound (M := M) _ _ _ c (madeCells z.cells (len * m)) hp (by rw [hmade]; exact rep_LR (hzl M) len) (rep_all hz1 len) hc
      refine ⟨.cells c' el, .slice (some ⟨w.heap.size, 0, none⟩) len len, ?_, fun M' hM => or_rw (hl.mono hM) one, fun M' id hM => sliceTo_VR len len hM, rfl⟩
      have hbig : ¬ (len * m > 2 ^ 24) := by omega
      have hzr : (zeroValue el).run P w = .ok z w := by simp [zeroValue, run_inf hpi, hz']
      by_cases h0 : len * m = 0
      · have hem : ∀ (f : Nat → Value), (Array.range (len * m)).map f = #[] := by
          intro f; rw [h0]; simp
        have hmk : madeCells z.cells (len * m) = #[] := hem _
        rw [hmk] at hf
        simp only [execOp, hop, Instr.buildSlice, Sem.run_bind, run_und (hG.und _ _ hu), Result.andThen_ok, aSize_run hG.toFits hm, if_neg hbig, if_pos h0, Sem.run_pure, hem, hf]
        simp [newRow]
      · have hmk : (Array.range (len * m)).map (z.cells[· % z.cells.size]!) = madeCells z.cells (len * m) := rfl
        simp only [execOp, hop, Instr.buildSlice, Sem.run_bind, run_und (hG.und _ _ hu), Result.andThen_ok, aSize_run hG.toFits hm, if_neg hbig, if_neg h0, Sem.run_pure, hzr, hmk, hf]
        simp [newRow]
    · cases hs
  case makeMap t r =>
    cases r with
    | none =>
      injection hs with hs; subst hs
      refine ⟨.map #[] 0, .map (some w.heap.size), ?_, fun M' _ => .map rfl .nil, fun M' id hM => ?_, rfl⟩
      · simp [execOp, hop, Instr.makeMap]
      · exact VR.map (M := M') hM
    | some x =>
      simp only at hs
      split at hs
      · rename_i k e1 n1 m1 hu hxe
        injection hs with hs; subst hs
        have hx := hρ x (by simp [Op.operands])
        rw [hxe] at hx
        refine ⟨.map #[] 0, .map (some w.heap.size), ?_, fun M' _ => .map rfl .nil, fun M' id hM => ?_, rfl⟩
        · simp [execOp, hop, Instr.makeMap, run_und (hG.und _ _ hu), hx.int_inv, asInt, asIntOf]
        · exact VR.map (M := M') hM
      · cases hs
  case makeSlice t l c =>
    unfold aMakeSlice at hs
    split at hs
    · rename_i kl l1 kc c1 hle hce
      split at hs
      · rename_i el hu
        obtain ⟨i, hi, hs⟩ := bind_some hs
        obtain ⟨⟨h0, hlc, hcs, hsz, hby⟩, hs⟩ := if_some hs
        obtain ⟨z, hz, hs⟩ := map_some hs
        subst hs
        obtain ⟨hpi, hzl, hzs, hz1⟩ := zero_all hG.toFits hi hz
        have hl := (hle ▸ hρ l (by simp [Op.operands])).int_inv
        have hc := (hce ▸ hρ c (by simp [Op.operands])).int_inv
        have hcn : c1 < 4294967296 := hcs
        have hb : (i.bytes : Int) * c1 ≤ 281474976710656 := by
          have h1 : (i.bytes : Int) * c1 ≤ 1024 * 4294967296 := Int.mul_le_mul (by omega) (by omega) (by omega) (by omega)
          omega
        have hr := run_make (P := P) w t el i z (hG.und _ _ hu) hpi hz kl kc l1 c1 h0 hlc hb (by omega)
        have hmade : (madeCells z.cells (c1.toNat * i.size)).toList = rep z.cells.toList c1.toNat := made_rep _ _ _ hzs
        refine ⟨.cells (madeCells z.cells (c1.toNat * i.size)) el, .slice (some ⟨w.heap.size, 0, none⟩) l1.toNat c1.toNat, ?_, fun M' hM => or_rw (by rw [hmade]; exact rep_LR (hzl M') _) (rep_all hz1 _), fun M' id hM => sliceTo_VR _ _ hM, rfl⟩
        simp [execOp, hop, hl, hc, hr]
      · cases hs
    · cases hs

end
end Go.AE
