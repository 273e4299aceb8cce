/- append, copy, clear, []byte(s). -/
import Derived.Test.YtaceaifoajkgaaaGreatDoorAEeff
namespace Go.AE
section
variable {G : Tabs} {P : Program} {B : Nat} {M : Mp} {h : Hp} {w : World}

theorem strCells_LR (s : ByteArray) (M : Mp) : LR M (s.data.toList.map fun x => Value.int .u8 x.toNat) (s.data.toList.map fun x => Value.int .u8 x.toNat) :=
  LR.map _ fun _ _ => .int _ _
theorem strCells_one (s : ByteArray) : (s.data.toList.map fun x => Value.int .u8 x.toNat).all Value.oneCell' = true := by
  rw [List.all_eq_true]
  intro x hx
  obtain ⟨y, _, rfl⟩ := List.mem_map.1 hx
  rfl

theorem aCells_sound (H : HR B M h w) {n k : Nat} {x x' : Value} {new : List Value} (hx : VR M x x') (hc : aCells h n x = some (k, new)) :
    (∀ w, (Builtin.lenOf x').run P w = .ok k w) ∧ (∃ new' : List Value, (Builtin.firstCells n k x').run P w = .ok new'.toArray w ∧ LR M new new') ∧ new.all Value.oneCell' = true ∧ new.length = k * n := by
  unfold aCells at hc
  split at hc
  · obtain ⟨hl, hc⟩ := if_some hc
    injection hc with hc; injection hc with h1 h2; subst h1; subst h2
    cases hx
    subst hl
    exact ⟨fun w => rfl, ⟨[], by simp [Builtin.firstCells], .nil M⟩, rfl, by simp⟩
  · rename_i b o len cap
    split at hc
    · rename_i c e md hb
      obtain ⟨l, hl, hc⟩ := map_some hc
      injection hc with h1 h2; subst h1; subst h2
      obtain ⟨⟨hl1, hlen⟩, _⟩ := cut_some hl
      have hone : ∀ {p : Pl}, M b = some p → l.all Value.oneCell' = true := by
        intro p hM
        obtain ⟨c', fz, R⟩ := H.row hM hb
        rw [hl1]; exact all_sub R.one _ _
      cases hx with
      | slc _ _ hM hk =>
        obtain ⟨c', fz, R⟩ := H.row hM hb
        obtain ⟨g1, g2⟩ := R.cut (P := P) hl
        exact ⟨fun w => rfl, ⟨_, by simpa [Builtin.firstCells] using g2, g1⟩, hone hM, hlen⟩
      | slo _ _ c2 hM hk hcc hll =>
        obtain ⟨c', fz, R⟩ := H.row hM hb
        obtain ⟨g1, g2⟩ := R.cut (P := P) hl
        exact ⟨fun w => rfl, ⟨_, by simpa [Builtin.firstCells] using g2, g1⟩, hone hM, hlen⟩
      | sle _ hM hk a =>
        have : l = [] := by simpa using hlen
        subst this
        exact ⟨fun w => rfl, ⟨[], by simp [Builtin.firstCells, loadCells, loadCellsFrom], .nil M⟩, rfl, hlen⟩
    · cases hc
  · rename_i s
    obtain ⟨hn1, hc⟩ := bif_some hc
    obtain rfl := Nat.eq_of_beq_eq_true hn1
    injection hc with hc; injection hc with h1 h2; subst h1; subst h2
    cases hx
    refine ⟨fun w => rfl, ⟨_, ?_, strCells_LR s M⟩, strCells_one s, by simp⟩
    have : s.extract 0 s.size = s := ByteArray.extract_zero_size
    simp only [Builtin.firstCells, this, Sem.run_pure]
    congr 1
    apply Array.ext'
    simp
  · cases hc

/-- an append that grows -/
theorem append_grows {t u e : TypeId} {d : TypeDesc} {i : TypeInfo} {z : Value} {ts : Array TypeId} {ty : TypeId} (ht : ts[0]? = some t) (hu : ts[1]? = some u) (htu : P.underlying t = some (.slice e)) (huu : P.underlying u = some d)
    (hd : (∃ e2, d = .slice e2) ∨ d = .string) (hi : P.info? e = some i) (hz : i.zero = some z) (hby : i.bytes ≤ 1024) {base : Option Addr} {sLen sCap k : Nat} {x' : Value} {old new : List Value}
    (hk : ∀ w, (Builtin.lenOf x').run P w = .ok k w) (hnew : (Builtin.firstCells i.size k x').run P w.drew = .ok new.toArray w.drew)
    (hold : (Builtin.firstCells i.size sLen (.slice base sLen sCap)).run P w.drew = .ok old.toArray w.drew) (hg : sCap < sLen + k) (hsm : sLen + k < small) :
    (Builtin.append_ ts ty #[.slice base sLen sCap, x']).run P w =
      .ok (.slice (some ⟨w.heap.size, 0, none⟩) (sLen + k) (grownCap w (sLen + k) sCap e)) (w.drew.alloc (.cells (old.toArray ++ new.toArray ++ Builtin.zeroCells z.cells (grownCap w (sLen + k) sCap e - (sLen + k))) e)) := by
  have hn : ¬ (sLen + k ≤ sCap) := by omega
  have hsm' : sLen + k < 4294967296 := hsm
  have h63 : ¬ (((sLen + k : Nat) : Int) > IntKind.i64.max) := by
    have : IntKind.i64.max = 9223372036854775807 := by decide
    omega
  have hb : (sLen + k) * i.bytes ≤ 140737488355328 := by
    have : (sLen + k) * i.bytes ≤ 4294967296 * 1024 := Nat.mul_le_mul (by omega) hby
    omega
  have h48 : ¬ (Builtin.nextslicecap (sLen + k) sCap * i.bytes > 2 ^ 48) := by
    have := growslice_fits (old := sCap) hg hb
    omega
  have h63' : ¬ (9223372036854775807 < ((sLen : Int) + (k : Int))) := by omega
  have h48' : ¬ (281474976710656 < Builtin.nextslicecap (sLen + k) sCap * i.bytes) := by omega
  rcases hd with ⟨_, rfl⟩ | rfl
  all_goals simp [Builtin.append_, ht, hu, run_und htu, run_und huu, sizeOf, run_inf hi, zeroValue, hz, hk, hn, h63', h48', Question.forced, hnew, hold, newRow, grownCap]
  all_goals
    congr 2
    apply Array.ext'
    simp [List.append_assoc]

/-- an append within the room -/
theorem append_fits {t u e : TypeId} {d : TypeDesc} {i : TypeInfo} {ts : Array TypeId} {ty : TypeId} (ht : ts[0]? = some t) (hu : ts[1]? = some u) (htu : P.underlying t = some (.slice e)) (huu : P.underlying u = some d)
    (hd : (∃ e2, d = .slice e2) ∨ d = .string) (hi : P.info? e = some i) {base : Option Addr} {sLen sCap k : Nat} {x' : Value} {new : List Value} {w' : World}
    (hk : ∀ w, (Builtin.lenOf x').run P w = .ok k w) (hnew : (Builtin.firstCells i.size k x').run P w = .ok new.toArray w)
    (hg : sLen + k ≤ sCap) (hst : (match base with | some a => storeCells (a.add (sLen * i.size)) new | none => pure () : Sem Unit).run P w = .ok () w') :
    (Builtin.append_ ts ty #[.slice base sLen sCap, x']).run P w = .ok (.slice base (sLen + k) sCap) w' := by
  cases base with
  | none =>
    have : w' = w := by simp at hst; exact hst.symm
    subst this
    rcases hd with ⟨_, rfl⟩ | rfl
    all_goals simp [Builtin.append_, ht, hu, run_und htu, run_und huu, sizeOf, run_inf hi, hk, hg, hnew]
  | some a =>
    simp only at hst
    rcases hd with ⟨_, rfl⟩ | rfl
    all_goals simp [Builtin.append_, ht, hu, run_und htu, run_und huu, sizeOf, run_inf hi, hk, hg, hnew, hst]

theorem slice_inv {b : Option Addr} {l c : Nat} {v : Value} (h : VR M (.slice b l c) v) : ∃ b' c', v = .slice b' l c' := by
  cases h <;> exact ⟨_, _, rfl⟩

theorem zeros_size (z : Array Value) (n : Nat) : (Builtin.zeroCells z n).size = n * z.size := by simp [Builtin.zeroCells]

/-- a row made anew behind an append -/
theorem grown_sound (H : HR B M h w) (hB : h.next < B) {e : TypeId} {n k cap : Nat} {z : Array Value} {c : List Value} {c' : List Value} (hl : LR M c c') (one : c.all Value.oneCell' = true) (hn : n ≠ 0) (hz : z.size = n)
    (hlen : c.length = k * n) (hk : k ≤ cap) :
    ∃ M' v' x, x = Obj.cells (c'.toArray ++ Builtin.zeroCells z (cap - k)) e ∧ v' = Value.slice (some ⟨w.heap.size, 0, none⟩) k cap ∧
      Ext M h w M' (h.new (.cells c e (.opn n))) (w.alloc x) ∧ HR B M' (h.new (.cells c e (.opn n))) (w.alloc x) ∧ VR M' (.slice (some ⟨h.next, 0, none⟩) k 0) v' := by
  have hle := Mp.le_upd (M := M) (n := h.next) (p := ⟨w.heap.size, 0, .opn (cap * n) n⟩) (H.none_next hB)
  refine ⟨M.upd h.next ⟨w.heap.size, 0, .opn (cap * n) n⟩, _, _, rfl, rfl, Ext.new H hB _ _ _, H.new hB ?_, ?_⟩
  · refine .opn rfl ?_ hn ?_ (.inl (Nat.le_refl 0)) one
    · have : c'.length = c.length := hl.1.symm
      simp only [Array.size_append, List.size_toArray, zeros_size, hz, this, hlen]
      rw [← Nat.add_mul]
      congr 1; omega
    · have : ((c'.toArray ++ Builtin.zeroCells z (cap - k)).toList.drop 0).take c.length = c' := by
        simp only [List.drop_zero, Array.toList_append, List.toList_toArray]
        rw [hl.1, List.take_left]
      rw [this]
      exact hl.mono hle
  · have := VR.slo (M := M.upd h.next ⟨w.heap.size, 0, .opn (cap * n) n⟩) (b := h.next) (o := 0) k 0 cap (Mp.upd_same _ _ _) rfl (by simp) hk
    simpa using this

theorem aAppend_sound (hG : G.Fits P) (H : HR B M h w) {t u : TypeId} {d : TypeDesc} {ts : Array TypeId} {ty : TypeId} {s s' x x' v : Value} {h1 : Hp} (ht : ts[0]? = some t) (hu : ts[1]? = some u) (huu : P.underlying u = some d)
    (hd : (∃ e2, d = .slice e2) ∨ d = .string) (hs : VR M s s') (hx : VR M x x') (hB : h1.next ≤ B) (ha : aAppend G h t s x = some (.val v h1)) :
    ∃ M' v' w', (Builtin.append_ ts ty #[s', x']).run P w = .ok v' w' ∧ Ext M h w M' h1 w' ∧ HR B M' h1 w' ∧ VR M' v v' := by
  unfold aAppend at ha
  split at ha
  · rename_i e hut
    obtain ⟨i, hi, hb1⟩ := bind_some ha
    clear ha
    have ha := hb1; clear hb1
    split at ha
    · cases ha
    · rename_i hsz
      have hsz0 : i.size ≠ 0 := fun e => hsz (.inl e)
      have hby : i.bytes ≤ 1024 := by
        rcases Nat.lt_or_ge 1024 i.bytes with h | h
        · exact absurd (.inr (.inl h)) hsz
        · exact h
      obtain ⟨z, hz⟩ : ∃ z, i.zero = some z := by
        cases hzz : i.zero with
        | none => exact absurd (.inr (.inr (by rw [hzz]; rfl))) hsz
        | some z => exact ⟨z, rfl⟩
      obtain ⟨hpi, _, hzs, _⟩ := zero_all hG hi hz
      have htu := hG.und _ _ hut
      obtain ⟨kn, hkn, hb1⟩ := bind_some ha
      clear ha
      have ha := hb1; clear hb1
      obtain ⟨k, new⟩ := kn
      simp only at ha
      obtain ⟨hlen, ⟨new', hnr, hnl⟩, hone, hnlen⟩ := aCells_sound (P := P) H hx hkn
      obtain ⟨_, ⟨new2, hnr2, hnl2⟩, _, _⟩ := aCells_sound (P := P) (w := w.drew) (H.drawn (w.drawn + 1)) hx hkn
      have Hd : HR B M h w.drew := H.drawn (w.drawn + 1)
      have Ed : Ext M h w M h w.drew := Ext.drawn M h w (w.drawn + 1)
      split at ha
      · -- nil
        cases hs
        split at ha
        · rename_i hk0
          injection ha with ha; injection ha with a1 a2; subst a1; subst a2
          subst hk0
          exact ⟨M, _, w, append_fits ht hu htu huu hd hpi hlen hnr (by omega) rfl, Ext.refl _ _ _, H, .snil 0 0⟩
        · rename_i hk0
          obtain ⟨hks, ha⟩ := if_some ha
          injection ha with ha; injection ha with a1 a2; subst a1; subst a2
          rw [Hp.next_new] at hB
          have hg := append_grows (ty := ty) ht hu htu huu hd hpi hz hby (base := none) (sLen := 0) (sCap := 0) (old := []) hlen hnr2 (by simp [Builtin.firstCells]) (by omega) (by simpa using hks)
          obtain ⟨M', v', y, hy, hv', E1, H1, V1⟩ := grown_sound Hd (by omega) (e := e) (n := i.size) (k := k) (cap := grownCap w (0 + k) 0 e) (z := z.cells) hnl2 hone hsz0 hzs hnlen (by have := grownCap_ge w (0 + k) 0 e; omega)
          refine ⟨M', v', _, ?_, Ed.trans E1, H1, V1⟩
          rw [hg, hy, hv']
          simp
      · -- a row
        rename_i b o len cap
        split at ha
        · cases ha
        · rename_i hsmall
          have hsm : len + k < small := by omega
          split at ha
          · rename_i c e' md hb
            obtain ⟨old, hold, hb1⟩ := bind_some ha
            clear ha
            have ha := hb1; clear hb1
            obtain ⟨⟨ho1, ho2⟩, _⟩ := cut_some hold
            split at ha
            · -- open
              rename_i sz
              split at ha
              · rename_i hk0
                injection ha with ha; injection ha with a1 a2; subst a1; subst a2
                subst hk0
                have hn0 : new' = [] := by have := hnl.1; rw [hnlen] at this; simp at this; exact List.eq_nil_of_length_eq_zero this.symm
                subst hn0
                have key : ∀ (ad : Addr) (c2 : Nat), len ≤ c2 → (Builtin.append_ ts ty #[.slice (some ad) len c2, x']).run P w = .ok (.slice (some ad) len c2) w := by
                  intro ad c2 hl2
                  exact append_fits (w' := w) ht hu htu huu hd hpi hlen hnr (by omega) rfl
                cases hs with
                | slc _ _ hM hk =>
                  obtain ⟨c', fz, R⟩ := H.row hM hb
                  rcases R.kind with ⟨k', _⟩ | ⟨k', _⟩ | ⟨tot, sz', k', k2, _⟩
                  · cases k'
                  · cases k'
                  · rw [k2] at hk; cases hk
                | slo _ _ c2 hM hk hc hl => exact ⟨M, _, w, key _ _ hl, Ext.refl _ _ _, H, .slo _ _ _ hM hk hc hl⟩
                | sle _ hM hk a => exact ⟨M, _, w, key _ _ (Nat.le_refl _), Ext.refl _ _ _, H, .sle _ hM hk a⟩
              · rename_i hk0
                obtain ⟨⟨hee, hisz, _⟩, hb1⟩ := if_some ha
                clear ha
                have ha := hb1; clear hb1
                injection ha with ha; injection ha with a1 a2; subst a1; subst a2
                subst hee; subst hisz
                rw [Hp.next_new, Hp.next_put] at hB
                have hlt : h.next < B := by omega
                have grow : ∀ (ad : Addr) (c2 : Nat) (old' : List Value), LR M old old' → (Builtin.firstCells i.size len (.slice (some ad) len c2)).run P w.drew = .ok old'.toArray w.drew → c2 < len + k →
                    ∃ M' v' w', (Builtin.append_ ts ty #[.slice (some ad) len c2, x']).run P w = .ok v' w' ∧ Ext M h w M' ((h.put b .dead).new (.cells (old ++ new) e (.opn i.size))) w' ∧
                      HR B M' ((h.put b .dead).new (.cells (old ++ new) e (.opn i.size))) w' ∧ VR M' (.slice (some ⟨h.next, 0, none⟩) (len + k) 0) v' := by
                  intro ad c2 old' hlo hfo hg2
                  have hMb : ∃ p, M b = some p := by cases hs <;> exact ⟨_, ‹_›⟩
                  obtain ⟨pb, hMb⟩ := hMb
                  have hg := append_grows (ty := ty) ht hu htu huu hd hpi hz hby hlen hnr2 hfo hg2 hsm
                  have oneo : (old ++ new).all Value.oneCell' = true := by
                    have : old.all Value.oneCell' = true := by
                      have hM : ∃ p, M b = some p := by cases hs <;> exact ⟨_, ‹_›⟩
                      obtain ⟨p, hM⟩ := hM
                      obtain ⟨c', fz, R⟩ := H.row hM hb
                      rw [ho1]; exact all_sub R.one _ _
                    rw [List.all_append, this, hone]; rfl
                  obtain ⟨M', v', y, hy, hv', E1, H1, V1⟩ := grown_sound (Hd.kill b hb) (by rw [Hp.next_put]; exact hlt) (e := e) (n := i.size) (k := len + k) (cap := grownCap w (len + k) c2 e) (z := z.cells) (hlo.append hnl2) oneo hsz0 hzs
                    (by rw [List.length_append, ho2, hnlen, Nat.add_mul]) (grownCap_ge w (len + k) c2 e)
                  refine ⟨M', v', _, ?_, (Ed.trans (Ext.kill M h w.drew b hMb)).trans E1, H1, V1⟩
                  rw [hg, hy, hv']
                  simp
                cases hs with
                | slc _ _ hM hk =>
                  obtain ⟨c', fz, R⟩ := H.row hM hb
                  rcases R.kind with ⟨k', _⟩ | ⟨k', _⟩ | ⟨tot, sz', k', k2, _⟩
                  · cases k'
                  · cases k'
                  · rw [k2] at hk; cases hk
                | sle _ hM hk a =>
                  have : old = [] := by simpa using ho2
                  subst this
                  exact grow a 0 [] (.nil M) (by simp [Builtin.firstCells, loadCells, loadCellsFrom]) (by omega)
                | slo _ _ c2 hM hk hc hl =>
                  rename_i p tot sz'
                  obtain ⟨c', fz, R⟩ := H.row hM hb
                  obtain ⟨g1, g2⟩ := R.cut (P := P) hold
                  by_cases hroom : len + k ≤ c2
                  · -- in its place
                    rcases R.kind with ⟨k', _⟩ | ⟨k', _⟩ | ⟨tot2, sz2, k', k2, htot, _, hfz⟩
                    · cases k'
                    · cases k'
                    · injection k' with k'; subst k'
                      rw [k2] at hk; injection hk with e1 e2; subst e1; subst e2
                      have hn2 : new'.length = k * i.size := by rw [← hnl.1]; exact hnlen
                      have hfit : o + p.sh + len * i.size + k * i.size ≤ c'.size := by
                        rw [htot, ← hc]
                        have : (len + k) * i.size ≤ c2 * i.size := Nat.mul_le_mul_right _ hroom
                        rw [Nat.add_mul] at this
                        omega
                      have one' : new'.all Value.oneCell' = true := by
                        rw [List.all_eq_true]
                        intro y hy
                        obtain ⟨j, hj, rfl⟩ := List.getElem_of_mem hy
                        have hj' : j < new.length := by rw [hnl.1]; exact hj
                        have hh := hnl.2 j hj'
                        simp only [List.getD_eq_getElem?_getD, List.getElem?_eq_getElem hj, List.getElem?_eq_getElem hj', Option.getD_some] at hh
                        rw [hh.oneCell']
                        exact List.all_eq_true.1 hone _ (List.getElem_mem hj')
                      have hst := run_storeCells (P := P) (b := p.b) (o := o + p.sh + len * i.size) (e := e) (fz := fz) new' 0 c' w R.at_ (R.notFrozen (by simp)) (by omega) one'
                      have hrun := append_fits (ty := ty) ht hu htu huu hd hpi (base := some ⟨p.b, o + p.sh, none⟩) (sLen := len) (sCap := c2) hlen hnr hroom (by simpa only [add_addr] using hst)
                      have oneo : (old ++ new).all Value.oneCell' = true := by
                        have : old.all Value.oneCell' = true := by rw [ho1]; exact all_sub R.one _ _
                        rw [List.all_append, this, hone]; rfl
                      have hle := Mp.le_upd (M := M) (n := h.next) (p := ⟨p.b, o + p.sh, .opn tot2 i.size⟩) (H.none_next hlt)
                      refine ⟨M.upd h.next ⟨p.b, o + p.sh, .opn tot2 i.size⟩, _, _, hrun, Ext.move H hlt _ _ _ _ hM hb rfl (by rw [k2]; simp), H.move hlt hM hb rfl ?_, ?_⟩
                      · refine .opn rfl ?_ hsz0 ?_ ?_ oneo
                        · simp only [List.size_toArray, List.length_append, List.length_take, List.length_drop, Array.length_toList]
                          omega
                        · have e1 : ((c'.toList.take (o + p.sh + len * i.size + 0) ++ new' ++ c'.toList.drop (o + p.sh + len * i.size + 0 + new'.length)).toArray.toList.drop (o + p.sh)).take (old ++ new).length =
                              (c'.toList.drop (o + p.sh)).take (len * i.size) ++ new' := by
                            apply List.ext_getElem?
                            intro j
                            simp only [Nat.add_zero, List.getElem?_take, List.getElem?_drop, List.getElem?_append, List.length_append, List.length_take, List.length_drop, Array.length_toList, ho2, hnlen, hn2]
                            by_cases hj : j < len * i.size + k * i.size
                            · simp only [hj, if_true]
                              by_cases hj2 : j < len * i.size
                              · rw [if_pos (by omega), if_pos (by omega), if_pos (by omega), if_pos (by omega), if_pos hj2]
                              · rw [if_pos (by omega), if_neg (by omega), if_neg (by omega)]
                                congr 1; omega
                            · simp only [hj, if_false]
                              rw [if_neg (by omega), List.getElem?_eq_none (by omega)]
                          rw [e1]
                          exact (g1.append hnl).mono hle
                        · rcases hfz with hfz | hfz
                          · exact .inl hfz
                          · right
                            simp only [List.size_toArray, List.length_append, List.length_take, List.length_drop, Array.length_toList]
                            omega
                      · have := VR.slo (M := M.upd h.next ⟨p.b, o + p.sh, .opn tot2 i.size⟩) (b := h.next) (o := 0) (len + k) 0 c2 (Mp.upd_same _ _ _) rfl (by simp; omega) hroom
                        simpa using this
                  · obtain ⟨c3, fz3, R3⟩ := Hd.row hM hb
                    obtain ⟨g3, g4⟩ := R3.cut (P := P) hold
                    exact grow _ c2 _ g3 (by simpa [Builtin.firstCells] using g4) (by omega)
            · -- closed
              rename_i md hmd
              have hno : ∀ {p : Pl} {tot sz : Nat}, M b = some p → p.k = .opn tot sz → False := by
                intro p tot sz hM hk
                obtain ⟨c', fz, R⟩ := H.row hM hb
                rcases R.kind with ⟨_, k', _⟩ | ⟨_, k', _⟩ | ⟨tot', sz', k', _⟩
                · rw [k'] at hk; cases hk
                · rw [k'] at hk; cases hk
                · exact hmd _ k'
              cases hs with
              | slo _ _ c2 hM hk hc hl => exact (hno hM hk).elim
              | sle _ hM hk a => exact (hno hM hk).elim
              | slc _ _ hM hk =>
                rename_i p
                obtain ⟨c', fz, R⟩ := H.row hM hb
                obtain ⟨g1, g2⟩ := R.cut (P := P) hold
                split at ha
                · rename_i hroom
                  split at ha
                  · rename_i hk0
                    injection ha with ha; injection ha with a1 a2; subst a1; subst a2
                    subst hk0
                    have hn0 : new' = [] := by have := hnl.1; rw [hnlen] at this; simp at this; exact List.eq_nil_of_length_eq_zero this.symm
                    subst hn0
                    exact ⟨M, _, w, append_fits (w' := w) ht hu htu huu hd hpi hlen hnr hroom rfl, Ext.refl _ _ _, H, .slc _ _ hM hk⟩
                  · split at ha
                    · cases ha
                    · rename_i hro
                      obtain ⟨r, hr, ha⟩ := map_some ha
                      injection ha with a1 a2; subst a1; subst a2
                      obtain ⟨q1, q2, q3⟩ := R.change (P := P) H hM hb (fun e => hro e) hnl hone hr
                      refine ⟨M, _, _, append_fits ht hu htu huu hd hpi hlen hnr hroom ?_, q3, q2, .slc _ _ hM hk⟩
                      simp only [add_addr]
                      rw [show o + p.sh + len * i.size = o + len * i.size + p.sh by omega]
                      exact q1
                · rename_i hroom
                  injection ha with ha; injection ha with a1 a2; subst a1; subst a2
                  rw [Hp.next_new] at hB
                  obtain ⟨c3, fz3, R3⟩ := Hd.row hM hb
                  obtain ⟨g3, g4⟩ := R3.cut (P := P) hold
                  have hg := append_grows (ty := ty) ht hu htu huu hd hpi hz hby (base := some ⟨p.b, o + p.sh, none⟩) (sLen := len) (sCap := cap) hlen hnr2 (by simpa [Builtin.firstCells] using g4) (by omega) hsm
                  have oneo : (old ++ new).all Value.oneCell' = true := by
                    have : old.all Value.oneCell' = true := by rw [ho1]; exact all_sub R.one _ _
                    rw [List.all_append, this, hone]; rfl
                  obtain ⟨M', v', y, hy, hv', E1, H1, V1⟩ := grown_sound Hd (by omega) (e := e) (n := i.size) (k := len + k) (cap := grownCap w (len + k) cap e) (z := z.cells) (g3.append hnl2) oneo hsz0 hzs
                    (by rw [List.length_append, ho2, hnlen, Nat.add_mul]) (grownCap_ge w (len + k) cap e)
                  refine ⟨M', v', _, ?_, Ed.trans E1, H1, V1⟩
                  rw [hg, hy, hv']
                  simp
          · cases ha
      · cases ha
  · cases ha

end
end Go.AE
