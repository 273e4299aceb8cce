/- Stores, and what else changes a row. -/
import Derived.Test.YtaceaifoajkgaaaGreatDoorAEnew
import Derived.Laws.Append
namespace Go.AE
section
variable {G : Tabs} {P : Program} {B : Nat} {M : Mp} {h : Hp} {w : World}

theorem modify_eq {α : Type} (l : Array α) (b : Nat) (f : α → α) (x : α) (h : l[b]? = some x) : l.modify b f = l.setIfInBounds b (f x) := by
  apply Array.ext_getElem?
  intro i
  rw [Array.getElem?_modify, Array.getElem?_setIfInBounds]
  have hb : b < l.size := by
    rcases Nat.lt_or_ge b l.size with h' | h'
    · exact h'
    · rw [Array.getElem?_eq_none h'] at h; cases h
  by_cases e : b = i
  · subst e
    rw [Array.getElem?_eq_getElem hb] at h
    injection h with h
    simp [hb, h]
  · simp [e]

theorem atBlock_heap (w : World) (b : Nat) (o : Obj) (hb : b < w.heap.size) : (w.atBlock b o).heap[b]? = some o := by
  simp [World.atBlock, hb]
theorem atBlock_twice (w : World) (b : Nat) (o o' : Obj) : (w.atBlock b o).atBlock b o' = w.atBlock b o' := by
  unfold World.atBlock
  congr 1
  apply Array.ext_getElem?
  intro i
  simp only [Array.getElem?_setIfInBounds, Array.size_setIfInBounds]
  by_cases e : b = i <;> simp [e]
theorem atBlock_self (w : World) (b : Nat) (o : Obj) (h : w.heap[b]? = some o) : w.atBlock b o = w := by
  have : w.heap.setIfInBounds b o = w.heap := by
    apply Array.ext_getElem?
    intro i
    rw [Array.getElem?_setIfInBounds]
    by_cases e : b = i
    · subst e
      have hb : b < w.heap.size := by
        rcases Nat.lt_or_ge b w.heap.size with h' | h'
        · exact h'
        · rw [Array.getElem?_eq_none h'] at h; cases h
      rw [Array.getElem?_eq_getElem hb] at h
      injection h with h
      simp [hb, h]
    · simp [e]
  unfold World.atBlock
  rw [this]

theorem lt_of_some {α : Type} {l : Array α} {b : Nat} {x : α} (h : l[b]? = some x) : b < l.size := by
  rcases Nat.lt_or_ge b l.size with h' | h'
  · exact h'
  · rw [Array.getElem?_eq_none h'] at h; cases h

def notFrozen (fz : Nat × Nat) (n : Nat) : Prop := fz.2 ≤ fz.1 ∨ n ≤ fz.1

theorem run_storeCells {b o : Nat} {e : TypeId} {fz : Nat × Nat} : ∀ (vs : List Value) (i : Nat) (c : Array Value) (w : World), w.heap[b]? = some (.cells c e fz) → notFrozen fz c.size → o + i + vs.length ≤ c.size → vs.all Value.oneCell' = true →
    (storeCells ⟨b, o, none⟩ vs i).run P w = .ok () (w.atBlock b (.cells (c.toList.take (o + i) ++ vs ++ c.toList.drop (o + i + vs.length)).toArray e fz))
  | [], i, c, w, hb, _, _, _ => by
    simp only [storeCells, List.append_nil, List.length_nil, Nat.add_zero, List.take_append_drop, Array.toArray_toList]
    rw [atBlock_self w b _ hb]
    rfl
  | v :: rest, i, c, w, hb, hf, hl, h1 => by
    have hi : o + i < c.size := by simp at hl; omega
    have hv : v.oneCell' = true := by simp at h1; exact h1.1
    have hcell : w.cell? ⟨b, o + i, none⟩ = some c[o + i] := by simp [World.cell?, hb, hi]
    have hfro : w.frozen? ⟨b, o + i, none⟩ = false := by
      simp only [World.frozen?, hb]
      unfold notFrozen at hf
      rcases hf with hf | hf
      · simp; omega
      · simp; omega
    have hset : w.setCell ⟨b, o + i, none⟩ v = w.atBlock b (.cells (c.setIfInBounds (o + i) v) e fz) := by
      unfold World.setCell World.atBlock
      rw [modify_eq _ _ _ _ hb]
      simp
    have hst : (store ((⟨b, o, none⟩ : Addr).add i) v).run P w = .ok () (w.atBlock b (.cells (c.setIfInBounds (o + i) v) e fz)) := by
      rw [add_addr, run_store P w _ v _ hv, hcell]
      simp [hfro, hset]
    have ih := run_storeCells (b := b) (o := o) (e := e) (fz := fz) rest (i + 1) (c.setIfInBounds (o + i) v) (w.atBlock b (.cells (c.setIfInBounds (o + i) v) e fz)) (atBlock_heap _ _ _ (lt_of_some hb))
      (by simpa using hf) (by simp at hl ⊢; omega) (by simp at h1; simpa using h1.2)
    simp only [storeCells, Sem.run_bind, hst, Result.andThen_ok, ih, atBlock_twice]
    congr 4
    have e := list_seg_step c.toList (o + i) v rest (by simp at hl ⊢; omega)
    simpa [Array.toList_setIfInBounds, Nat.add_assoc] using e

/-- the row behind a change, seen through its place -/
theorem seg_of {X v : List Value} {sh o n : Nat} (h1 : sh + n ≤ X.length) (h2 : o + v.length ≤ n) :
    ((X.take (o + sh) ++ v ++ X.drop (o + sh + v.length)).drop sh).take n = ((X.drop sh).take n).take o ++ v ++ ((X.drop sh).take n).drop (o + v.length) := by
  apply List.ext_getElem?
  intro i
  simp only [List.getElem?_take, List.getElem?_drop, List.getElem?_append, List.length_append, List.length_take, List.length_drop]
  by_cases hi : i < n
  · simp only [hi, if_true]
    by_cases ho : i < o
    · rw [if_pos (by omega), if_pos (by omega), if_pos (by omega), if_pos (by omega), if_pos (by omega), if_pos ho]
    · by_cases hv : i < o + v.length
      · rw [if_pos (by omega), if_neg (by omega), if_pos (by omega), if_neg (by omega)]
        congr 1; omega
      · rw [if_neg (by omega), if_neg (by omega)]
        rw [if_pos (by omega)]
        congr 1; omega
  · simp only [hi, if_false]
    rw [if_neg (by omega), if_neg (by omega)]

theorem RowAt.notFrozen {p : Pl} {c : List Value} {e : TypeId} {md : Md} {c' : Array Value} {fz : Nat × Nat} (R : RowAt M w p c e md c' fz) (hmd : md ≠ .ro) : notFrozen fz c'.size := by
  rcases R.kind with ⟨k, _⟩ | ⟨_, _, _, _, hz⟩ | ⟨_, _, _, _, _, _, hz⟩
  · exact absurd k hmd
  · exact .inl hz
  · exact hz
theorem RowAt.notRo {p : Pl} {c : List Value} {e : TypeId} {md : Md} {c' : Array Value} {fz : Nat × Nat} (R : RowAt M w p c e md c' fz) (hmd : md ≠ .ro) : p.k ≠ .ro := by
  rcases R.kind with ⟨k, _⟩ | ⟨_, k, _⟩ | ⟨_, _, _, k, _⟩
  · exact absurd k hmd
  · rw [k]; simp
  · rw [k]; simp

/-- a piece of a row changed -/
theorem RowAt.change (H : HR B M h w) {b : Nat} {p : Pl} {c : List Value} {e : TypeId} {md : Md} {c' : Array Value} {fz : Nat × Nat} (R : RowAt M w p c e md c' fz) (hM : M b = some p) (hb : h.get b = some (.cells c e md)) (hmd : md ≠ .ro)
    {o : Nat} {v v' r : List Value} (hv : LR M v v') (one : v.all Value.oneCell' = true) (hs : splice c o v = some r) :
    (storeCells ⟨p.b, o + p.sh, none⟩ v').run P w = .ok () (w.atBlock p.b (.cells (c'.toList.take (o + p.sh) ++ v' ++ c'.toList.drop (o + p.sh + v'.length)).toArray e fz)) ∧
    HR B M (h.put b (.cells r e md)) (w.atBlock p.b (.cells (c'.toList.take (o + p.sh) ++ v' ++ c'.toList.drop (o + p.sh + v'.length)).toArray e fz)) ∧
    Ext M h w M (h.put b (.cells r e md)) (w.atBlock p.b (.cells (c'.toList.take (o + p.sh) ++ v' ++ c'.toList.drop (o + p.sh + v'.length)).toArray e fz)) := by
  obtain ⟨hr, hle⟩ := splice_some hs
  have hvl : v'.length = v.length := hv.1.symm
  have hone' : v'.all Value.oneCell' = true := by
    rw [List.all_eq_true]
    intro x hx
    obtain ⟨i, hi, rfl⟩ := List.getElem_of_mem hx
    have hi' : i < v.length := by omega
    have h1 := hv.2 i hi'
    simp only [List.getD_eq_getElem?_getD, List.getElem?_eq_getElem hi, List.getElem?_eq_getElem hi', Option.getD_some] at h1
    rw [h1.oneCell']
    exact List.all_eq_true.1 one _ (List.getElem_mem hi')
  by_cases hc : c = []
  · have hv0 : v = [] := by subst hc; cases v with | nil => rfl | cons _ _ => simp at hle
    subst hv0
    have hv0' : v' = [] := hv.nil_left
    subst hv0'
    have hr0 : r = c := by rw [hr]; simp
    rw [hr0]
    have hw : w.atBlock p.b (.cells (c'.toList.take (o + p.sh) ++ ([] : List Value) ++ c'.toList.drop (o + p.sh + ([] : List Value).length)).toArray e fz) = w := by
      simp only [List.append_nil, List.length_nil, Nat.add_zero, List.take_append_drop, Array.toArray_toList]
      exact atBlock_self w _ _ R.at_
    obtain ⟨x, hx, ho⟩ := H.ob b p _ hM hb rfl
    rw [R.at_] at hx; injection hx with hx
    rw [← hx] at ho
    have h1 := H.at_put (o' := .cells c e md) (x := .cells c' e fz) hM hb rfl ho
    have h2 := Ext.at_put (h := h) (w := w) (.cells c e md) (.cells c' e fz) hM hb rfl (R.notRo hmd)
    rw [atBlock_self w _ _ R.at_] at h1 h2
    rw [hw]
    exact ⟨rfl, h1, h2⟩
  · have hlen : p.sh + c.length ≤ c'.size := by
      rcases R.len with h | h
      · exact h
      · exact absurd h hc
    refine ⟨?_, ?_, Ext.at_put _ _ hM hb rfl (R.notRo hmd)⟩
    · have := run_storeCells (P := P) (o := o + p.sh) v' 0 c' w R.at_ (R.notFrozen hmd) (by omega) hone'
      simpa using this
    · refine H.at_put hM hb rfl ?_
      have hl : LR M r (((c'.toList.take (o + p.sh) ++ v' ++ c'.toList.drop (o + p.sh + v'.length)).drop p.sh).take c.length) := by
        rw [seg_of (by simpa using hlen) (by omega), hr, hvl]
        exact ((R.rel.take o).append hv).append (R.rel.drop _)
      have hrl : r.length = c.length := by rw [hr]; simp; omega
      have honer : r.all Value.oneCell' = true := by rw [hr]; exact all_splice R.one one _ _
      have hsz : (c'.toList.take (o + p.sh) ++ v' ++ c'.toList.drop (o + p.sh + v'.length)).length = c'.size := by simp; omega
      rcases R.kind with ⟨k, _⟩ | ⟨rfl, k, hsh, hsize, hz⟩ | ⟨tot, sz, rfl, k, ht, hn, hz⟩
      · exact absurd k hmd
      · refine .rw k hsh ?_ hz honer
        rw [hsh] at hl ⊢
        simp only [List.drop_zero] at hl
        rw [List.take_of_length_le (by rw [hsh] at hsz; omega)] at hl
        exact hl
      · refine .opn k (by simpa using hsz.trans ht) hn ?_ ?_ honer
        · rw [hrl]; exact hl
        · rcases hz with hz | hz
          · exact .inl hz
          · right; simp only [List.size_toArray]; omega

end
end Go.AE
