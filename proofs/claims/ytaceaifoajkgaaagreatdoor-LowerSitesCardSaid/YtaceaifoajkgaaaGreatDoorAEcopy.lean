/- copy, clear, []byte(s). -/
import Derived.Test.YtaceaifoajkgaaaGreatDoorAEapp
import Derived.Lib.ConvBytes
namespace Go.AE
section
variable {G : Tabs} {P : Program} {B : Nat} {M : Mp} {h : Hp} {w : World}

theorem aTake_sound (H : HR B M h w) {n len k : Nat} {s s' : Value} {l : List Value} (hs : VR M s s') (hc : aTake h n len s = some (k, l)) :
    ∃ m, (∀ w, (Builtin.lenOf s').run P w = .ok m w) ∧ Nat.min m len = k ∧ (∃ l' : List Value, (Builtin.firstCells n k s').run P w = .ok l'.toArray w ∧ LR M l l') ∧ l.all Value.oneCell' = true ∧ l.length = k * n := by
  unfold aTake at hc
  split at hc
  · injection hc with hc; injection hc with h1 h2; subst h1; subst h2
    cases hs
    exact ⟨0, fun w => rfl, by simp, ⟨[], by simp [Builtin.firstCells], .nil M⟩, rfl, by simp⟩
  · rename_i b o len' cap
    split at hc
    · rename_i c e md hb
      obtain ⟨l2, hl, hc⟩ := map_some hc
      injection hc with h1 h2; subst h1; subst h2
      obtain ⟨⟨hl1, hlen⟩, _⟩ := cut_some hl
      have fin : ∀ {p : Pl}, M b = some p → ∀ c2, ∃ m, (∀ w, (Builtin.lenOf (.slice (some ⟨p.b, o + p.sh, none⟩) len' c2)).run P w = .ok m w) ∧ Nat.min m len = Nat.min len' len ∧
          (∃ l' : List Value, (Builtin.firstCells n (Nat.min len' len) (.slice (some ⟨p.b, o + p.sh, none⟩) len' c2)).run P w = .ok l'.toArray w ∧ LR M l2 l') ∧ l2.all Value.oneCell' = true ∧ l2.length = Nat.min len' len * n := by
        intro p hM c2
        obtain ⟨c', fz, R⟩ := H.row hM hb
        obtain ⟨g1, g2⟩ := R.cut (P := P) hl
        exact ⟨len', fun w => rfl, rfl, ⟨_, by simpa [Builtin.firstCells] using g2, g1⟩, by rw [hl1]; exact all_sub R.one _ _, hlen⟩
      cases hs with
      | slc _ _ hM hk => exact fin hM _
      | slo _ _ c2 hM hk hcc hll => exact fin hM _
      | sle _ hM hk a =>
        have h0 : Nat.min 0 len = 0 := Nat.zero_min _
        rw [h0] at hlen ⊢
        have : l2 = [] := by simpa using hlen
        subst this
        exact ⟨0, fun w => rfl, Nat.zero_min _, ⟨[], by simp [Builtin.firstCells, loadCells, loadCellsFrom], .nil M⟩, rfl, by simp⟩
    · cases hc
  · rename_i s
    obtain ⟨hn1, hc⟩ := bif_some hc
    obtain rfl := Nat.eq_of_beq_eq_true hn1
    injection hc with hc; injection hc with h1 h2; subst h1; subst h2
    cases hs
    refine ⟨s.size, fun w => rfl, rfl, ⟨(s.data.toList.take (Nat.min s.size len)).map fun x => Value.int .u8 x.toNat, ?_, LR.map _ fun _ _ => .int _ _⟩, ?_, ?_⟩
    · simp only [Builtin.firstCells, Sem.run_pure]
      congr 1
      apply Array.ext'
      have : (s.extract 0 (Nat.min s.size len)).data = s.data.extract 0 (Nat.min s.size len) := ByteArray.data_extract
      rw [this]
      simp
    · rw [List.all_eq_true]
      intro x hx
      obtain ⟨y, _, rfl⟩ := List.mem_map.1 hx
      rfl
    · simp only [List.length_map, List.length_take, Array.length_toList, Nat.mul_one]
      have h1 : s.data.size = s.size := rfl
      have h2 : Nat.min s.size len ≤ s.size := Nat.min_le_left _ _
      omega
  · cases hc

theorem aCopy_sound (hG : G.Fits P) (H : HR B M h w) {ts : Array TypeId} {ty t : TypeId} {d d' s s' v : Value} {h1 : Hp} (ht : ts[0]? = some t) (hd : VR M d d') (hs : VR M s s') (hc : aCopy G h t d s = some (.val v h1)) :
    ∃ v' w', (Builtin.copy_ ts ty #[d', s']).run P w = .ok v' w' ∧ Ext M h w M h1 w' ∧ HR B M h1 w' ∧ VR M v v' := by
  unfold aCopy at hc
  split at hc
  · rename_i e hu
    obtain ⟨n, hn, hc1⟩ := bind_some hc
    clear hc
    split at hc1
    · rename_i b o len cap
      obtain ⟨kl, hkl, hc2⟩ := bind_some hc1
      clear hc1
      obtain ⟨k, l⟩ := kl
      simp only at hc2
      obtain ⟨m, hlen, hmin, ⟨l', hf, hl⟩, hone, hll⟩ := aTake_sound (P := P) H hs hkl
      split at hc2
      · rename_i c e' md hb
        have zero : k = 0 → ∀ (a : Addr) (c2 : Nat), (Builtin.copy_ ts ty #[.slice (some a) len c2, s']).run P w = .ok (iv 0) w := by
          intro hk a c2
          have hl0 : l' = [] := by have := hl.1; rw [hll, hk] at this; simp at this; exact List.eq_nil_of_length_eq_zero this.symm
          subst hl0
          rw [hk] at hf hmin
          simp [Builtin.copy_, ht, run_und (hG.und _ _ hu), hlen, aSize_run hG hn, hmin, hf, storeCells, goInt, iv]
        cases hk0 : Nat.beq k 0 with
        | true =>
          rw [hk0] at hc2
          simp only [cond_true] at hc2
          injection hc2 with hc2; injection hc2 with a1 a2; subst a1; subst a2
          have hk := Nat.eq_of_beq_eq_true hk0
          obtain ⟨b', c2, hd'⟩ := slice_inv hd
          have hbs : ∃ a, b' = some a := by rw [hd'] at hd; cases hd <;> exact ⟨_, rfl⟩
          obtain ⟨a, rfl⟩ := hbs
          rw [hd']
          exact ⟨_, w, zero hk a c2, Ext.refl _ _ _, H, .int _ _⟩
        | false =>
          rw [hk0] at hc2
          simp only [cond_false] at hc2
          have hk := Nat.ne_of_beq_eq_false hk0
          split at hc2
          · cases hc2
          · rename_i hro
            obtain ⟨r, hr, hc3⟩ := map_some hc2
            injection hc3 with a1 a2; subst a1; subst a2
            have fin : ∀ {p : Pl}, M b = some p → ∀ c2, ∃ v' w', (Builtin.copy_ ts ty #[.slice (some ⟨p.b, o + p.sh, none⟩) len c2, s']).run P w = .ok v' w' ∧ Ext M h w M (h.put b (.cells r e' md)) w' ∧ HR B M (h.put b (.cells r e' md)) w' ∧ VR M (iv k) v' := by
              intro p hM c2
              obtain ⟨c', fz, R⟩ := H.row hM hb
              obtain ⟨q1, q2, q3⟩ := R.change (P := P) H hM hb (fun e => hro e) hl hone hr
              refine ⟨iv k, _, ?_, q3, q2, .int _ _⟩
              simp [Builtin.copy_, ht, run_und (hG.und _ _ hu), hlen, aSize_run hG hn, hmin, hf, q1, goInt, iv]
            cases hd with
            | slc _ _ hM hk => exact fin hM _
            | slo _ _ c2 hM hk hcc hll => exact fin hM _
            | sle _ hM hk' a => exact absurd (by rw [← hmin]; exact Nat.min_zero _) hk
      · cases hc2
    · cases hc1
  · cases hc

theorem zeros_rep (z : Array Value) (n : Nat) : (Builtin.zeroCells z n).toList = rep z.toList n := made_rep z n z.size rfl

theorem aClear_sound (hG : G.Fits P) (H : HR B M h w) {ts : Array TypeId} {ty t : TypeId} {x x' v : Value} {h1 : Hp} (ht : ts[0]? = some t) (hx : VR M x x') (hc : aClear G h t x = some (.val v h1)) :
    ∃ v' w', (Builtin.clear_ ts ty #[x']).run P w = .ok v' w' ∧ Ext M h w M h1 w' ∧ HR B M h1 w' ∧ VR M v v' := by
  unfold aClear at hc
  split at hc
  · rename_i e b o len cap hu
    obtain ⟨z, hz, hc1⟩ := bind_some hc
    clear hc
    obtain ⟨hzr, hzv, hz1, _⟩ := aZero_run hG hz w
    cases hk0 : Nat.beq len 0 with
    | true =>
      rw [hk0] at hc1
      simp only [cond_true] at hc1
      injection hc1 with hc1; injection hc1 with a1 a2; subst a1; subst a2
      have hk := Nat.eq_of_beq_eq_true hk0
      subst hk
      refine ⟨.tuple #[], w, ?_, Ext.refl _ _ _, H, .undef M⟩
      obtain ⟨b', c2, hd'⟩ := slice_inv hx
      rw [hd']
      cases b' <;> simp [Builtin.clear_, ht, run_und (hG.und _ _ hu)]
    | false =>
      rw [hk0] at hc1
      simp only [cond_false] at hc1
      have hk := Nat.ne_of_beq_eq_false hk0
      split at hc1
      · rename_i c e' md hb
        split at hc1
        · cases hc1
        · rename_i hro
          obtain ⟨r, hr, hc3⟩ := map_some hc1
          injection hc3 with a1 a2; subst a1; subst a2
          have fin : ∀ {p : Pl}, M b = some p → ∀ c2, ∃ v' w', (Builtin.clear_ ts ty #[.slice (some ⟨p.b, o + p.sh, none⟩) len c2]).run P w = .ok v' w' ∧ Ext M h w M (h.put b (.cells r e' md)) w' ∧ HR B M (h.put b (.cells r e' md)) w' ∧ VR M undef v' := by
            intro p hM c2
            obtain ⟨c', fz, R⟩ := H.row hM hb
            obtain ⟨q1, q2, q3⟩ := R.change (P := P) H hM hb (fun e => hro e) (rep_LR (hzv M).cells len) (rep_all hz1 len) hr
            refine ⟨.tuple #[], _, ?_, q3, q2, .undef M⟩
            have hlen : ∃ m, len = m + 1 := ⟨len - 1, by omega⟩
            obtain ⟨m, rfl⟩ := hlen
            simp [Builtin.clear_, ht, run_und (hG.und _ _ hu), hzr, zeros_rep, q1]
          cases hx with
          | slc _ _ hM hk => exact fin hM _
          | slo _ _ c2 hM hk hcc hll => exact fin hM _
          | sle _ hM hk' a => exact absurd rfl hk
      · cases hc1
  · rename_i kt et r hu
    obtain ⟨p, hM, rfl⟩ := hx.map_inv
    split at hc
    · rename_i es cl hb
      injection hc with hc; injection hc with a1 a2; subst a1; subst a2
      obtain ⟨es', hx', he, hkd⟩ := H.map hM hb
      obtain ⟨g1, g2⟩ := H.mapPut (cl2 := cl) (es2 := []) (es2' := #[]) hM hb hkd .nil
      refine ⟨.tuple #[], _, ?_, g2, g1, .undef M⟩
      simp [Builtin.clear_, ht, run_und (hG.und _ _ hu), run_getMap hx', run_setMap _ hx']
    · cases hc
  · cases hc

theorem aConvertH_sound (hG : G.Fits P) (H : HR B M h w) {s d : TypeId} {x x' v : Value} {h1 : Hp} (hx : VR M x x') (hB : h1.next ≤ B) (hc : aConvertH G h s d x = some (.val v h1)) :
    ∃ M' v' w', (convert s d x').run P w = .ok v' w' ∧ Ext M h w M' h1 w' ∧ HR B M' h1 w' ∧ VR M' v v' := by
  unfold aConvertH at hc
  split at hc
  · rename_i e st hs hd
    split at hc
    · rename_i he hsz
      obtain ⟨hsm, hc1⟩ := if_some hc
      injection hc1 with hc1; injection hc1 with a1 a2; subst a1; subst a2
      cases hx
      rw [Hp.next_new] at hB
      have hlt : h.next < B := by omega
      have Hd : HR B M h w.drew := H.drawn (w.drawn + 1)
      have Ed : Ext M h w M h w.drew := Ext.drawn M h w (w.drawn + 1)
      have hcap : st.size ≤ grownCap w st.size 0 e := grownCap_ge w _ _ _
      have hsz1 : st.data.size = st.size := rfl
      have hcs : (Lib.bytesCells w e st).size = grownCap w st.size 0 e := by
        unfold Lib.bytesCells
        simp only [Array.size_append, Array.size_map, Array.size_replicate]
        omega
      have hw : Lib.bytesWorld w e st = w.drew.alloc (.cells (Lib.bytesCells w e st) e ((Lib.bytesCells w e st).size, (Lib.bytesCells w e st).size + 1)) := by
        have hh : (Lib.bytesWorld w e st).heap = (w.drew.alloc (.cells (Lib.bytesCells w e st) e ((Lib.bytesCells w e st).size, (Lib.bytesCells w e st).size + 1))).heap := by
          apply Array.ext_getElem?
          intro i
          have hd1 : (w.drew.alloc (.cells (Lib.bytesCells w e st) e ((Lib.bytesCells w e st).size, (Lib.bytesCells w e st).size + 1))).heap = w.heap.push (.cells (Lib.bytesCells w e st) e ((Lib.bytesCells w e st).size, (Lib.bytesCells w e st).size + 1)) := rfl
          rw [hd1]
          rcases Nat.lt_trichotomy i w.heap.size with hi | hi | hi
          · rw [Lib.bytesWorld_at_old w e st i hi, Array.getElem?_push_lt hi, Array.getElem?_eq_getElem hi]
          · subst hi; rw [Lib.bytesWorld_at_new]; simp
          · rw [Array.getElem?_eq_none (by rw [Lib.bytesWorld_size]; omega), Array.getElem?_eq_none (by simp; omega)]
        have hx : Lib.bytesWorld w e st = { w.drew with heap := (Lib.bytesWorld w e st).heap } := by
          unfold Lib.bytesWorld World.freeze
          rw [if_neg Nat.one_ne_zero]
          rfl
        rw [hx, hh]
        rfl
      have hrun := Lib.run_convert_string_bytes (P := P) w s d e st (hG.und _ _ hs) (hG.und _ _ hd) (hG.und _ _ he)
      have hle := Mp.le_upd (M := M) (n := h.next) (p := ⟨w.heap.size, 0, .opn (grownCap w st.size 0 e) 1⟩) (H.none_next hlt)
      rw [hw] at hrun
      refine ⟨M.upd h.next ⟨w.heap.size, 0, .opn (grownCap w st.size 0 e) 1⟩, _, _, hrun, Ed.trans (Ext.new Hd hlt _ _ _), Hd.new hlt ?_, ?_⟩
      · refine .opn rfl hcs (by omega) ?_ (.inr (Nat.le_refl _)) (strCells_one st)
        have : (((Lib.bytesCells w e st).toList.drop 0).take (st.data.toList.map fun x => Value.int .u8 x.toNat).length) = st.data.toList.map fun x => Value.int .u8 x.toNat := by
          unfold Lib.bytesCells
          simp only [List.drop_zero, Array.toList_append, Array.toList_map]
          rw [List.take_left]
        rw [this]
        exact (strCells_LR st M).mono hle
      · have := VR.slo (M := M.upd h.next ⟨w.heap.size, 0, .opn (grownCap w st.size 0 e) 1⟩) (b := h.next) (o := 0) st.size 0 (grownCap w st.size 0 e) (Mp.upd_same _ _ _) rfl (by simp) hcap
        simpa using this
    · cases hc
  · obtain ⟨v1, hv1, hc1⟩ := map_some hc
    injection hc1 with a1 a2; subst a1; subst a2
    obtain ⟨v', g1, g2⟩ := aConvert_sound hG hx hv1 w
    exact ⟨M, v', w, g1, Ext.refl _ _ _, H, g2⟩

end
end Go.AE
