/- How the relation goes on behind a new block, a changed block, a moved block. -/
import Derived.Test.YtaceaifoajkgaaaGreatDoorAErel
import Derived.Laws.World
namespace Go.AE

def _root_.Go.World.atBlock (w : World) (b : Nat) (o : Obj) : World := { w with heap := w.heap.setIfInBounds b o }

def Mp.upd (M : Mp) (n : Nat) (p : Pl) : Mp := fun id => if id = n then some p else M id

theorem Mp.le_upd {M : Mp} {n : Nat} {p : Pl} (h : M n = none) : M.le (M.upd n p) := by
  intro id q hq
  unfold Mp.upd
  split
  · rename_i e; subst e; rw [h] at hq; cases hq
  · exact hq
theorem Mp.upd_same (M : Mp) (n : Nat) (p : Pl) : (M.upd n p) n = some p := by simp [Mp.upd]

section
variable {B : Nat} {M : Mp} {h : Hp} {w : World}

theorem Hp.wf_put (hw : ∀ id, h.next ≤ id → h.get id = none) {b : Nat} {o : Ob} (o' : Ob) (hb : h.get b = some o) : ∀ id, (h.put b o').next ≤ id → (h.put b o').get id = none := by
  intro id hid
  rw [Hp.get_put]
  split
  · rename_i e; subst e; rw [hw _ hid] at hb; cases hb
  · exact hw _ hid
theorem Hp.wf_new (hw : ∀ id, h.next ≤ id → h.get id = none) (o : Ob) : ∀ id, (h.new o).next ≤ id → (h.new o).get id = none := by
  intro id hid
  rw [Hp.next_new] at hid
  rw [Hp.get_new, if_neg (by omega)]
  exact hw _ (by omega)

theorem HR.none_next (H : HR B M h w) (hB : h.next < B) : M h.next = none := by
  cases hm : M h.next with
  | none => rfl
  | some p => rcases H.fresh _ _ hm with h | h <;> omega

theorem HR.drawn (H : HR B M h w) (n : Nat) : HR B M h { w with drawn := n } := ⟨H.wf, H.inHeap, H.fresh, H.one, H.ob⟩
theorem Ext.drawn (M : Mp) (h : Hp) (w : World) (n : Nat) : Ext M h w M h { w with drawn := n } :=
  ⟨Mp.le_refl M, Nat.le_refl _, Nat.le_refl _, fun _ _ _ => rfl, fun _ h _ => h, (fun _ _ h h' => by rw [h'] at h; cases h), (fun _ _ h h' => by rw [h'] at h; cases h), (fun _ _ _ => rfl), rfl, rfl, rfl⟩

theorem EsR.mono {M M' : Mp} (hM : M.le M') {l l' : List MapEntry} (h : EsR M l l') : EsR M' l l' := by
  induction h with
  | nil => exact .nil
  | cons h _ ih => exact .cons ⟨h.1.mono hM, h.2.1.mono hM, h.2.2⟩ ih

theorem OR.mono {M M' : Mp} (hM : M.le M') {o : Ob} {p : Pl} {x : Obj} (h : OR M o p x) : OR M' o p x := by
  cases h with
  | ro hk hs h ho => exact .ro hk hs (h.mono hM) ho
  | rw hk hs h hz ho => exact .rw hk hs (h.mono hM) hz ho
  | opn hk ht hn h hz ho => exact .opn hk ht hn (h.mono hM) hz ho
  | map hk h => exact .map hk (h.mono hM)
  | inil hk hs => exact .inil hk hs
  | iter hk hs hm => exact .iter hk hs (hM _ _ hm)
  | sit hk hs => exact .sit hk hs

/-- a name that leads nowhere yet is given a block of its own -/
theorem HR.fill (H : HR B M h w) {id : Nat} {x : Obj} {k : Kd} (hn : M id = none) (hf : id < h.next ∨ B ≤ id)
    (ho : ∀ o, h.get id = some o → o.live = true → OR (M.upd id ⟨w.heap.size, 0, k⟩) o ⟨w.heap.size, 0, k⟩ x) :
    HR B (M.upd id ⟨w.heap.size, 0, k⟩) h (w.alloc x) := by
  have hle : M.le (M.upd id ⟨w.heap.size, 0, k⟩) := Mp.le_upd hn
  refine ⟨H.wf, ?_, ?_, ?_, ?_⟩
  · intro i p hp
    simp only [World.alloc, Array.size_push]
    unfold Mp.upd at hp
    split at hp
    · injection hp with hp; subst hp; exact Nat.lt_succ_self _
    · exact Nat.lt_succ_of_lt (H.inHeap _ _ hp)
  · intro i p hp
    unfold Mp.upd at hp
    split at hp
    · rename_i e; subst e; exact hf
    · exact H.fresh _ _ hp
  · intro i j p q oi oj hi hj gi gj li lj hb
    unfold Mp.upd at hi hj
    split at hi
    · rename_i ei
      split at hj
      · rename_i ej; rw [ei, ej]
      · injection hi with hi; subst hi
        have := H.inHeap _ _ hj
        simp only at hb; omega
    · rename_i ei
      split at hj
      · injection hj with hj; subst hj
        have := H.inHeap _ _ hi
        simp only at hb; omega
      · exact H.one i j p q oi oj hi hj gi gj li lj hb
  · intro i p oo hp hg hl
    unfold Mp.upd at hp
    split at hp
    · rename_i e
      subst e
      injection hp with hp; subst hp
      exact ⟨x, by unfold World.alloc; simp, ho oo hg hl⟩
    · obtain ⟨y, hy, hr⟩ := H.ob i p oo hp hg hl
      refine ⟨y, ?_, hr.mono hle⟩
      have := H.inHeap _ _ hp
      simp only [World.alloc]
      rw [Array.getElem?_push_lt this]
      rw [Array.getElem?_eq_getElem this] at hy
      exact hy

/-- a new name that leads nowhere -/
theorem HR.name (H : HR B M h w) (hB : h.next < B) (o : Ob) : HR B M (h.new o) w := by
  have hn := H.none_next hB
  have key : ∀ i p, M i = some p → i ≠ h.next := fun i p hp e => by subst e; rw [hn] at hp; cases hp
  refine ⟨Hp.wf_new H.wf o, H.inHeap, ?_, ?_, ?_⟩
  · intro i p hp
    rw [Hp.next_new]
    rcases H.fresh _ _ hp with h | h
    · exact .inl (by omega)
    · exact .inr h
  · intro i j p q oi oj hi hj gi gj li lj hb
    rw [Hp.get_new, if_neg (key _ _ hi)] at gi
    rw [Hp.get_new, if_neg (key _ _ hj)] at gj
    exact H.one i j p q oi oj hi hj gi gj li lj hb
  · intro i p oo hp hg hl
    rw [Hp.get_new, if_neg (key _ _ hp)] at hg
    exact H.ob i p oo hp hg hl

/-- a new block -/
theorem HR.new (H : HR B M h w) (hB : h.next < B) {o : Ob} {x : Obj} {k : Kd} (ho : OR (M.upd h.next ⟨w.heap.size, 0, k⟩) o ⟨w.heap.size, 0, k⟩ x) :
    HR B (M.upd h.next ⟨w.heap.size, 0, k⟩) (h.new o) (w.alloc x) := by
  refine (H.name hB o).fill (H.none_next hB) (.inl (by rw [Hp.next_new]; omega)) fun o' ho' hl' => ?_
  rw [Hp.get_new, if_pos rfl] at ho'
  injection ho' with ho'; subst ho'
  exact ho

theorem Ext.new (H : HR B M h w) (hB : h.next < B) (o : Ob) (x : Obj) (k : Kd) : Ext M h w (M.upd h.next ⟨w.heap.size, 0, k⟩) (h.new o) (w.alloc x) := by
  have hn := H.none_next hB
  refine ⟨Mp.le_upd hn, by rw [Hp.next_new]; omega, by unfold World.alloc; simp, fun b hb _ => ?_, fun b hm hb => ?_, fun id p hp hnn => ?_, fun id p hp hnn => ?_, (fun id _ hlt => by rw [Hp.get_new, if_neg (by omega)]), rfl, rfl, rfl⟩
  · simp only [World.alloc]
    rw [Array.getElem?_push_lt hb, Array.getElem?_eq_getElem hb]
  · obtain ⟨id, p, oo, hp, hg, hl, hpb, hk⟩ := hm
    unfold Mp.upd at hp
    split at hp
    · injection hp with hp; subst hp; simp only at hpb; omega
    · rename_i e
      rw [Hp.get_new, if_neg e] at hg
      exact ⟨id, p, oo, hp, hg, hl, hpb, hk⟩
  · unfold Mp.upd at hp
    split at hp
    · injection hp with hp; subst hp; exact .inl (Nat.le_refl _)
    · rw [hnn] at hp; cases hp
  · unfold Mp.upd at hp
    split at hp
    · rename_i e; subst e; rw [Hp.next_new]; omega
    · rw [hnn] at hp; cases hp

/-- a changed block -/
theorem HR.at_put (H : HR B M h w) {id : Nat} {p : Pl} {o o' : Ob} {x : Obj} (hM : M id = some p) (hg : h.get id = some o) (hl : o.live = true) (ho : OR M o' p x) :
    HR B M (h.put id o') (w.atBlock p.b x) := by
  refine ⟨Hp.wf_put H.wf o' hg, ?_, H.fresh, ?_, ?_⟩
  · intro i q hq
    simpa [World.atBlock] using H.inHeap i q hq
  · intro i j pi pj oi oj hi hj gi gj li lj hb
    rw [Hp.get_put] at gi gj
    by_cases ei : i = id
    · by_cases ej : j = id
      · omega
      · subst ei; rw [if_neg ej] at gj
        exact H.one i j pi pj o oj hi hj hg gj hl lj hb
    · rw [if_neg ei] at gi
      by_cases ej : j = id
      · subst ej
        exact H.one i j pi pj oi o hi hj gi hg li hl hb
      · rw [if_neg ej] at gj
        exact H.one i j pi pj oi oj hi hj gi gj li lj hb
  · intro i q oo hq hgi hli
    rw [Hp.get_put] at hgi
    by_cases ei : i = id
    · subst ei
      rw [if_pos rfl] at hgi
      injection hgi with hgi; subst hgi
      rw [hM] at hq; injection hq with hq; subst hq
      refine ⟨x, ?_, ho⟩
      have := H.inHeap _ _ hM
      simp [World.atBlock, this]
    · rw [if_neg ei] at hgi
      obtain ⟨y, hy, hr⟩ := H.ob i q oo hq hgi hli
      refine ⟨y, ?_, hr⟩
      have hne : p.b ≠ q.b := fun hb => ei (H.one i id q p oo o hq hM hgi hg hli hl hb.symm)
      simp only [World.atBlock]
      rw [Array.getElem?_setIfInBounds_ne hne]
      exact hy

theorem Ext.at_put {id : Nat} {p : Pl} {o : Ob} (o' : Ob) (x : Obj) (hM : M id = some p) (hg : h.get id = some o) (hl : o.live = true) (hk : p.k ≠ .ro) :
    Ext M h w M (h.put id o') (w.atBlock p.b x) := by
  refine ⟨Mp.le_refl M, Nat.le_refl _, by simp [World.atBlock], fun b _ hm => ?_, fun b hm _ => ?_, (fun _ _ h h' => by rw [h'] at h; cases h), (fun _ _ h h' => by rw [h'] at h; cases h), (fun i hn _ => by rw [Hp.get_put, if_neg (fun e => by subst e; rw [hM] at hn; cases hn)]), rfl, rfl, rfl⟩
  · have hne : p.b ≠ b := fun e => hm ⟨id, p, o, hM, hg, hl, e, hk⟩
    simp only [World.atBlock]
    exact Array.getElem?_setIfInBounds_ne hne
  · obtain ⟨i, q, oo, hq, hgi, hli, hqb, hqk⟩ := hm
    rw [Hp.get_put] at hgi
    by_cases e : i = id
    · subst e
      rw [hM] at hq; injection hq with hq; subst hq
      exact ⟨i, p, o, hM, hg, hl, hqb, hk⟩
    · rw [if_neg e] at hgi
      exact ⟨i, q, oo, hq, hgi, hli, hqb, hqk⟩

/-- a dead row -/
theorem HR.kill (H : HR B M h w) (id : Nat) {ob : Ob} (hg : h.get id = some ob) : HR B M (h.put id .dead) w := by
  refine ⟨Hp.wf_put H.wf .dead hg, H.inHeap, H.fresh, ?_, ?_⟩
  · intro i j p q oi oj hi hj gi gj li lj hb
    rw [Hp.get_put] at gi gj
    by_cases ei : i = id
    · rw [if_pos ei] at gi; injection gi with gi; subst gi; cases li
    · by_cases ej : j = id
      · rw [if_pos ej] at gj; injection gj with gj; subst gj; cases lj
      · rw [if_neg ei] at gi; rw [if_neg ej] at gj
        exact H.one i j p q oi oj hi hj gi gj li lj hb
  · intro i p oo hp hg hl
    rw [Hp.get_put] at hg
    by_cases ei : i = id
    · rw [if_pos ei] at hg; injection hg with hg; subst hg; cases hl
    · rw [if_neg ei] at hg; exact H.ob i p oo hp hg hl
theorem Ext.kill (M : Mp) (h : Hp) (w : World) (id : Nat) {p : Pl} (hM : M id = some p) : Ext M h w M (h.put id .dead) w := by
  refine ⟨Mp.le_refl M, Nat.le_refl _, Nat.le_refl _, fun b _ hm => rfl, fun b hm _ => ?_, (fun _ _ h h' => by rw [h'] at h; cases h), (fun _ _ h h' => by rw [h'] at h; cases h), (fun i hn _ => by rw [Hp.get_put, if_neg (fun e => by subst e; rw [hM] at hn; cases hn)]), rfl, rfl, rfl⟩
  obtain ⟨i, q, oo, hq, hgi, hli, hqb, hqk⟩ := hm
  rw [Hp.get_put] at hgi
  by_cases e : i = id
  · rw [if_pos e] at hgi; injection hgi with hgi; subst hgi; cases hli
  · rw [if_neg e] at hgi
    exact ⟨i, q, oo, hq, hgi, hli, hqb, hqk⟩

/-- the row of an open block, under a new name; the block may have changed -/
theorem HR.move (H : HR B M h w) (hB : h.next < B) {id : Nat} {p : Pl} {o o' : Ob} {x : Obj} {sh : Nat} {k : Kd} (hM : M id = some p) (hg : h.get id = some o) (hl : o.live = true)
    (ho : OR (M.upd h.next ⟨p.b, sh, k⟩) o' ⟨p.b, sh, k⟩ x) :
    HR B (M.upd h.next ⟨p.b, sh, k⟩) ((h.put id .dead).new o') (w.atBlock p.b x) := by
  have hn := H.none_next hB
  have hle : M.le (M.upd h.next ⟨p.b, sh, k⟩) := Mp.le_upd hn
  refine ⟨Hp.wf_new (Hp.wf_put H.wf .dead hg) o', ?_, ?_, ?_, ?_⟩
  · intro i q hq
    simp only [World.atBlock, Array.size_setIfInBounds]
    unfold Mp.upd at hq
    split at hq
    · injection hq with hq; subst hq; exact H.inHeap _ p hM
    · exact H.inHeap _ _ hq
  · intro i q hq
    rw [Hp.next_new, Hp.next_put]
    unfold Mp.upd at hq
    split at hq
    · rename_i e; left; omega
    · rcases H.fresh _ _ hq with h | h
      · left; omega
      · right; exact h
  · intro i j pi pj oi oj hi hj gi gj li lj hb
    unfold Mp.upd at hi hj
    rw [Hp.get_new, Hp.next_put] at gi gj
    rw [Hp.get_put] at gi gj
    split at hi
    · rename_i ei
      split at hj
      · rename_i ej; omega
      · rename_i ej
        injection hi with hi; subst hi
        rw [if_neg ej] at gj
        by_cases e : j = id
        · rw [if_pos e] at gj; injection gj with gj; subst gj; cases lj
        · rw [if_neg e] at gj
          exact absurd (H.one id j p pj o oj hM hj hg gj hl lj hb) (fun e' => e e'.symm)
    · rename_i ei
      rw [if_neg ei] at gi
      by_cases e : i = id
      · rw [if_pos e] at gi; injection gi with gi; subst gi; cases li
      · rw [if_neg e] at gi
        split at hj
        · injection hj with hj; subst hj
          exact absurd (H.one i id pi p oi o hi hM gi hg li hl hb) e
        · rename_i ej
          rw [if_neg ej] at gj
          by_cases e2 : j = id
          · rw [if_pos e2] at gj; injection gj with gj; subst gj; cases lj
          · rw [if_neg e2] at gj
            exact H.one i j pi pj oi oj hi hj gi gj li lj hb
  · intro i q oo hq hgi hli
    rw [Hp.get_new, Hp.next_put, Hp.get_put] at hgi
    unfold Mp.upd at hq
    split at hq
    · rename_i e
      rw [if_pos e] at hgi
      injection hq with hq; subst hq
      injection hgi with hgi; subst hgi
      refine ⟨x, ?_, ho⟩
      have := H.inHeap _ _ hM
      simp [World.atBlock, this]
    · rename_i e
      rw [if_neg e] at hgi
      by_cases e2 : i = id
      · rw [if_pos e2] at hgi; injection hgi with hgi; subst hgi; cases hli
      · rw [if_neg e2] at hgi
        obtain ⟨y, hy, hr⟩ := H.ob i q oo hq hgi hli
        refine ⟨y, ?_, hr.mono hle⟩
        have hne : p.b ≠ q.b := fun hb => e2 (H.one i id q p oo o hq hM hgi hg hli hl hb.symm)
        simp only [World.atBlock]
        rw [Array.getElem?_setIfInBounds_ne hne]
        exact hy

theorem Ext.move (H : HR B M h w) (hB : h.next < B) {id : Nat} {p : Pl} {o : Ob} (o' : Ob) (x : Obj) (sh : Nat) (k : Kd) (hM : M id = some p) (hg : h.get id = some o) (hl : o.live = true) (hk : p.k ≠ .ro) :
    Ext M h w (M.upd h.next ⟨p.b, sh, k⟩) ((h.put id .dead).new o') (w.atBlock p.b x) := by
  have hn := H.none_next hB
  refine ⟨Mp.le_upd hn, by rw [Hp.next_new, Hp.next_put]; omega, by simp [World.atBlock], fun b _ hm => ?_, fun b hm hb => ?_, fun i q hq hnn => ?_, fun i q hq hnn => ?_, (fun i hnn hlt => by rw [Hp.get_new, Hp.next_put, if_neg (by omega), Hp.get_put, if_neg (fun e => by subst e; rw [hM] at hnn; cases hnn)]), rfl, rfl, rfl⟩
  · have hne : p.b ≠ b := fun e => hm ⟨id, p, o, hM, hg, hl, e, hk⟩
    simp only [World.atBlock]
    exact Array.getElem?_setIfInBounds_ne hne
  · obtain ⟨i, q, oo, hq, hgi, hli, hqb, hqk⟩ := hm
    rw [Hp.get_new, Hp.next_put, Hp.get_put] at hgi
    unfold Mp.upd at hq
    split at hq
    · injection hq with hq; subst hq; exact ⟨id, p, o, hM, hg, hl, hqb, hk⟩
    · rename_i e
      rw [if_neg e] at hgi
      by_cases e2 : i = id
      · rw [if_pos e2] at hgi; injection hgi with hgi; subst hgi; cases hli
      · rw [if_neg e2] at hgi
        exact ⟨i, q, oo, hq, hgi, hli, hqb, hqk⟩
  · unfold Mp.upd at hq
    split at hq
    · injection hq with hq; subst hq; exact .inr ⟨id, p, o, hM, hg, hl, rfl, hk⟩
    · rw [hnn] at hq; cases hq
  · unfold Mp.upd at hq
    split at hq
    · rename_i e; subst e; rw [Hp.next_new, Hp.next_put]; omega
    · rw [hnn] at hq; cases hq

end
end Go.AE
