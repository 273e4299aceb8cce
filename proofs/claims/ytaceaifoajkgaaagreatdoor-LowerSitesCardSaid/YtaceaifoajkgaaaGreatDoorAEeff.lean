/- Operations with an effect, but for calls. -/
import Derived.Test.YtaceaifoajkgaaaGreatDoorAEstore
namespace Go.AE
section
variable {G : Tabs} {P : Program} {B : Nat} {M : Mp} {h : Hp} {w : World}

/-- what an operation comes to -/
def RunsTo (P : Program) (B : Nat) (M : Mp) (h : Hp) (w : World) (s : Sem Next) (v : Value) (h1 : Hp) : Prop :=
  ∃ M' v' w', (s.run P w = .ok (.value v') w' ∨ (s.run P w = .ok .skip w' ∧ v' = undef)) ∧ Ext M h w M' h1 w' ∧ HR B M' h1 w' ∧ VR M' v v'

theorem aStore_sound (hG : G.Fits P) (H : HR B M h w) {t : TypeId} {a a' x x' : Value} {h1 : Hp} (ha : VR M a a') (hx : VR M x x') (hs : aStore G h t a x = some h1) :
    ∃ w', (Instr.storeAt t a' x').run P w = .ok () w' ∧ Ext M h w M h1 w' ∧ HR B M h1 w' := by
  unfold aStore at hs
  split at hs
  · rename_i b o
    obtain ⟨b', o', p, hbo, hM, rfl⟩ := ha.ptr_inv
    injection hbo with hb1 ho1 _
    subst hb1; subst ho1
    split at hs
    · rename_i c e md hb
      have key : md ≠ .ro → ((aSize G t).bind fun n => if x.cells.size = n ∧ fits x = true then (splice c o x.cells.toList).map fun c' => h.put b (.cells c' e md) else none) = some h1 →
          ∃ w', (Instr.storeAt t (.pointer (some ⟨p.b, o + p.sh, none⟩)) x').run P w = .ok () w' ∧ Ext M h w M h1 w' ∧ HR B M h1 w' := by
        intro hmd hs
        obtain ⟨n, hn, hs⟩ := bind_some hs
        obtain ⟨⟨hsz, hf⟩, hs⟩ := if_some hs
        obtain ⟨r, hr, hs⟩ := map_some hs
        subst hs
        obtain ⟨c', fz, R⟩ := H.row hM hb
        obtain ⟨g1, g2, g3⟩ := R.change (P := P) H hM hb hmd hx.cells (fits_cells hx hf) hr
        refine ⟨_, ?_, g3, g2⟩
        have hsz' : x'.cells.size = n := by have := hx.cells.1; simp at this; omega
        simp [Instr.storeAt, Instr.sureAddr, storeVar, aSize_run hG hn, hsz', g1]
      split at hs
      · cases hs
      · rename_i hmd
        exact key (fun e => hmd e) hs
    · cases hs
  · cases hs

theorem run_setMap {r : Nat} {es : Array MapEntry} {cl : Nat} (o : Obj) (hb : w.heap[r]? = some (.map es cl)) : (setObj r o).run P w = .ok () (w.atBlock r o) := by
  simp [setObj, Sem.run, hb, World.atBlock]
theorem run_setIter {r : Nat} {m : Option Nat} {since : Nat} {seen : Array Nat} {st : Nat} (o : Obj) (hb : w.heap[r]? = some (.mapIter m since seen st)) : (setObj r o).run P w = .ok () (w.atBlock r o) := by
  simp [setObj, Sem.run, hb, World.atBlock]

theorem bytesEq_true {a b : ByteArray} (h : bytesEq a b = true) : a = b := by
  obtain ⟨⟨x⟩⟩ := a
  obtain ⟨⟨y⟩⟩ := b
  simp [bytesEq] at h
  rw [h]
theorem sBeq_eq {a b : Value} (h : sBeq a b = true) : a = b := by
  unfold sBeq at h
  split at h
  · simp at h; rw [h]
  · simp at h; rw [h.1, h.2]
  · rw [bytesEq_true h]
  · cases h
theorem sBeq_VR {a b a' : Value} (h : sBeq a b = true) (ha : VR M a a') : a' = a := by
  unfold sBeq at h
  split at h
  · exact ha.bool_inv
  · exact ha.int_inv
  · exact ha.str_inv
  · cases h
theorem sameBits_s {a b : Value} (h : sBeq a b = true) (n : Nat) : Instr.sameBits n a b = true := by
  unfold sBeq at h
  split at h
  · simpa [Instr.sameBits] using h
  · simpa [Instr.sameBits] using h
  · rw [bytesEq_eq] at h; unfold Instr.sameBits; exact h
  · cases h
theorem kBeqs_VR : ∀ (l r l' r' : List Value), kBeqs l r = true → LR M l l' → LR M r r' → l' = l ∧ r' = r ∧ l.length = r.length ∧ ((l.zip r).all fun (x, y) => Instr.sameBits 9999 x y) = true := by
  intro l
  induction l with
  | nil =>
    intro r l' r' h hl hr
    cases r with
    | nil => rw [hl.nil_left, hr.nil_left]; exact ⟨rfl, rfl, rfl, rfl⟩
    | cons _ _ => cases h
  | cons a l ih =>
    intro r l' r' h hl hr
    cases r with
    | nil => cases h
    | cons b r =>
      simp only [kBeqs, Bool.and_eq_true] at h
      obtain ⟨a', la, rfl, ha, hla⟩ := hl.cases
      obtain ⟨b', rb, rfl, hb, hrb⟩ := hr.cases
      obtain ⟨e1, e2, e3, e4⟩ := ih r la rb h.2 hla hrb
      have eab := sBeq_eq h.1
      have ea := sBeq_VR h.1 ha
      have eb : b' = b := by
        have : sBeq b a = true := by rw [← eab] at h ⊢; exact h.1
        exact sBeq_VR this hb
      subst e1; subst e2; subst ea; subst eb
      exact ⟨rfl, rfl, by simp [e3], by simp [e4, sameBits_s h.1]⟩
theorem kBeq_sound {a b a' b' : Value} (h : kBeq a b = true) (ha : VR M a a') (hb : VR M b b') : Instr.sameBits 10000 a' b' = true := by
  unfold kBeq at h
  split at h
  · obtain ⟨ca, rfl, hla, _⟩ := ha.agg_list
    obtain ⟨cb, rfl, hlb, _⟩ := hb.agg_list
    obtain ⟨e1, e2, e3, e4⟩ := kBeqs_VR _ _ _ _ h hla hlb
    rw [← e1, ← e2] at e3 e4
    have e3' : ca.size = cb.size := by simpa using e3
    show (ca.size == cb.size && (ca.toList.zip cb.toList).all fun (x, y) => Instr.sameBits 9999 x y) = true
    rw [e4, e3']; simp
  · rename_i x y _
    have e := sBeq_eq h
    have e1 := sBeq_VR h ha
    have e2 : b' = b := by
      have : sBeq b a = true := by rw [← e] at h ⊢; exact h
      exact sBeq_VR this hb
    rw [e1, e2]
    exact sameBits_s h _

theorem EsR.modify {es es' : List MapEntry} (he : EsR M es es') {f g : MapEntry → MapEntry} (hfg : ∀ e e', ER M e e' → ER M (f e) (g e')) : ∀ i, EsR M (es.modify i f) (es'.modify i g) := by
  induction he with
  | nil => intro i; cases i <;> exact .nil
  | cons h ht ih =>
    intro i
    cases i with
    | zero => simpa using All2.cons (hfg _ _ h) ht
    | succ i => simpa using All2.cons h (ih i)
theorem EsR.snoc {es es' : List MapEntry} (he : EsR M es es') {e e' : MapEntry} (h : ER M e e') : EsR M (es ++ [e]) (es' ++ [e']) := by
  induction he with
  | nil => exact .cons h .nil
  | cons h ht ih => exact .cons h ih
theorem EsR.eraseIdx {es es' : List MapEntry} (he : EsR M es es') : ∀ i, EsR M (es.eraseIdx i) (es'.eraseIdx i) := by
  induction he with
  | nil => intro i; exact .nil
  | cons h ht ih =>
    intro i
    cases i with
    | zero => simpa using ht
    | succ i => simpa using All2.cons h (ih i)

/-- a map changed -/
theorem HR.mapPut (H : HR B M h w) {r : Nat} {p : Pl} {es : List MapEntry} {cl cl2 : Nat} {es2 : List MapEntry} {es2' : Array MapEntry} (hM : M r = some p) (hb : h.get r = some (.map es cl)) (hk : p.k = .rw) (he : EsR M es2 es2'.toList) :
    HR B M (h.put r (.map es2 cl2)) (w.atBlock p.b (.map es2' cl2)) ∧ Ext M h w M (h.put r (.map es2 cl2)) (w.atBlock p.b (.map es2' cl2)) :=
  ⟨H.at_put hM hb rfl (.map hk he), Ext.at_put _ _ hM hb rfl (by rw [hk]; simp)⟩

theorem aUpdate_sound (hG : G.Fits P) (H : HR B M h w) {t : TypeId} {m m' k k' x x' : Value} {h1 : Hp} (hm : VR M m m') (hk : VR M k k') (hx : VR M x x') (hs : aUpdate G h t m k x = some h1) :
    ∃ w', (Instr.mapUpdate t m' k' x').run P w = .ok () w' ∧ Ext M h w M h1 w' ∧ HR B M h1 w' := by
  unfold aUpdate at hs
  split at hs
  · rename_i kt et r hu
    obtain ⟨p, hM, rfl⟩ := hm.map_inv
    split at hs
    · rename_i es cl hb
      obtain ⟨f, hf, hs⟩ := bind_some hs
      obtain ⟨es', hx', he, hkd⟩ := H.map hM hb
      obtain ⟨r', hck, hfk, hfr⟩ := aAsk_run hG hk he hf
      cases hfr with
      | none =>
        injection hs with hs; subst hs
        obtain ⟨g1, g2⟩ := H.mapPut (cl2 := cl + 1) (es2' := es'.push { key := k', val := x', born := cl }) hM hb hkd (by rw [Array.toList_push]; exact he.snoc (e := { key := k, val := x, born := cl }) ⟨hk, hx, rfl⟩)
        exact ⟨_, by simp [Instr.mapUpdate, run_und (hG.und _ _ hu), run_getMap hx', hck, hfk, run_setMap _ hx'], g2, g1⟩
      | some hj hj' hee =>
        rename_i j e e'
        obtain ⟨hkb, hs⟩ := bif_some hs
        injection hs with hs; subst hs
        have hsame := kBeq_sound hkb hee.1 hk
        have hes : es'[j]? = some e' := by rw [← Array.getElem?_toList]; exact hj'
        obtain ⟨g1, g2⟩ := H.mapPut (cl2 := cl) (es2 := es.modify (0 + j) fun e => { e with key := k, val := x }) (es2' := es'.modify (0 + j) fun e => { e with key := k', val := x' }) hM hb hkd (by
          rw [Array.toList_modify]
          exact he.modify (f := fun e => { e with key := k, val := x }) (g := fun e => { e with key := k', val := x' }) (fun a b hab => ⟨hk, hx, hab.2.2⟩) _)
        exact ⟨_, by simp [Instr.mapUpdate, run_und (hG.und _ _ hu), run_getMap hx', hck, hfk, hes, Instr.keyThatStays, hsame, run_setMap _ hx'], g2, g1⟩
    · cases hs
  · cases hs

theorem aMapEntry_sound (hG : G.Fits P) (H : HR B M h w) {t : TypeId} {m m' k k' v : Value} {h1 : Hp} (hm : VR M m m') (hk : VR M k k') (hs : aMapEntry G h t m k = some (.val v h1)) :
    ∃ v' w', (Instr.mapEntry t m' k').run P w = .ok v' w' ∧ Ext M h w M h1 w' ∧ HR B M h1 w' ∧ VR M v v' := by
  unfold aMapEntry at hs
  split at hs
  · rename_i kt et r hu
    obtain ⟨p, hM, rfl⟩ := hm.map_inv
    split at hs
    · rename_i es cl hb
      obtain ⟨f, hf, hs⟩ := bind_some hs
      obtain ⟨es', hx', he, hkd⟩ := H.map hM hb
      obtain ⟨r', hck, hfk, hfr⟩ := aAsk_run hG hk he hf
      cases hfr with
      | none =>
        obtain ⟨z, hz, hs⟩ := map_some hs
        injection hs with hs1 hs2; subst hs1; subst hs2
        obtain ⟨hzr, hzv, _⟩ := aZero_run hG hz w
        obtain ⟨g1, g2⟩ := H.mapPut (cl2 := cl + 1) (es2' := es'.push { key := k', val := z, born := cl }) hM hb hkd (by rw [Array.toList_push]; exact he.snoc (e := { key := k, val := z, born := cl }) ⟨hk, hzv M, rfl⟩)
        exact ⟨_, _, by simp [Instr.mapEntry, run_und (hG.und _ _ hu), run_getMap hx', hck, hfk, hzr, run_setMap _ hx', goInt], g2, g1, (hzv M).pair (.int _ _)⟩
      | some hj hj' hee =>
        rename_i j e e'
        obtain ⟨hkb, hs⟩ := bif_some hs
        injection hs with hs; injection hs with hs1 hs2; subst hs1; subst hs2
        have hsame := kBeq_sound hkb hee.1 hk
        have hes : es'[j]? = some e' := by rw [← Array.getElem?_toList]; exact hj'
        obtain ⟨g1, g2⟩ := H.mapPut (cl2 := cl) (es2 := es.modify (0 + j) fun e => { e with key := k }) (es2' := es'.modify (0 + j) fun e => { e with key := k' }) hM hb hkd (by
          rw [Array.toList_modify]
          exact he.modify (f := fun e => { e with key := k }) (g := fun e => { e with key := k' }) (fun a b hab => ⟨hk, hab.2.1, hab.2.2⟩) _)
        refine ⟨.tuple #[e'.val, .int .i64 e'.born], _, by simp [Instr.mapEntry, run_und (hG.und _ _ hu), run_getMap hx', hck, hfk, hes, Instr.keyThatStays, hsame, run_setMap _ hx', goInt], g2, g1, ?_⟩
        exact hee.2.1.pair (by rw [hee.2.2]; exact .int _ _)
    · cases hs
  · cases hs

theorem EsR.findIdx {es es' : List MapEntry} (he : EsR M es es') (b : Int) : (es.findIdx? fun e => (e.born : Int) == b) = (es'.findIdx? fun e => (e.born : Int) == b) := by
  induction he with
  | nil => rfl
  | cons h ht ih => simp only [List.findIdx?_cons, h.2.2, ih]

theorem aEntryStore_sound (H : HR B M h w) {t : TypeId} {m m' s s' x x' : Value} {h1 : Hp} (hm : VR M m m') (hk : VR M s s') (hx : VR M x x') (hs : aEntryStore h m s x = some h1) :
    ∃ w', (Instr.entryStore t m' s' x').run P w = .ok () w' ∧ Ext M h w M h1 w' ∧ HR B M h1 w' := by
  unfold aEntryStore at hs
  split at hs
  · rename_i r kd b
    obtain ⟨p, hM, rfl⟩ := hm.map_inv
    have := hk.int_inv
    subst this
    split at hs
    · rename_i es cl hb
      obtain ⟨i, hi, hs⟩ := map_some hs
      subst hs
      obtain ⟨es', hx', he, hkd⟩ := H.map hM hb
      have hi' : es'.findIdx? (fun e => (e.born : Int) == b) = some i := by
        have e1 : es' = es'.toList.toArray := by simp
        rw [e1, List.findIdx?_toArray, ← he.findIdx b]; exact hi
      obtain ⟨g1, g2⟩ := H.mapPut (cl2 := cl) (es2 := es.modify i fun e => { e with val := x }) (es2' := es'.modify i fun e => { e with val := x' }) hM hb hkd (by
        rw [Array.toList_modify]
        exact he.modify (f := fun e => { e with val := x }) (g := fun e => { e with val := x' }) (fun a b hab => ⟨hab.1, hx, hab.2.2⟩) _)
      exact ⟨_, by simp [Instr.entryStore, run_getMap hx', asInt, asIntOf, hi', run_setMap _ hx'], g2, g1⟩
    · cases hs
  · cases hs

theorem aDelete_sound (hG : G.Fits P) (H : HR B M h w) {ts : Array TypeId} {ty t : TypeId} {m m' k k' v : Value} {h1 : Hp} (ht : ts[0]? = some t) (hm : VR M m m') (hk : VR M k k') (hs : aDelete G h t m k = some (.val v h1)) :
    ∃ v' w', (Builtin.delete_ ts ty #[m', k']).run P w = .ok v' w' ∧ Ext M h w M h1 w' ∧ HR B M h1 w' ∧ VR M v v' := by
  unfold aDelete at hs
  split at hs
  · rename_i kt et r hu
    obtain ⟨p, hM, rfl⟩ := hm.map_inv
    split at hs
    · rename_i es cl hb
      obtain ⟨f, hf, hs⟩ := map_some hs
      obtain ⟨es', hx', he, hkd⟩ := H.map hM hb
      obtain ⟨r', hck, hfk, hfr⟩ := aAsk_run hG hk he hf
      cases hfr with
      | none =>
        injection hs with hs1 hs2; subst hs1; subst hs2
        refine ⟨.tuple #[], w, ?_, Ext.refl _ _ _, H, .undef M⟩
        simp [Builtin.delete_, ht, run_und (hG.und _ _ hu), run_getMap hx', hck, hfk, run_setMap _ hx', atBlock_self w _ _ hx']
      | some hj hj' hee =>
        rename_i j e e'
        injection hs with hs1 hs2; subst hs1; subst hs2
        obtain ⟨g1, g2⟩ := H.mapPut (cl2 := cl) (es2' := es'.eraseIdxIfInBounds (0 + j)) hM hb hkd (by
          rw [Array.toList_eraseIdxIfInBounds]
          exact he.eraseIdx _)
        exact ⟨.tuple #[], _, by simp [Builtin.delete_, ht, run_und (hG.und _ _ hu), run_getMap hx', hck, hfk, run_setMap _ hx'], g2, g1, .undef M⟩
    · cases hs
  · cases hs

theorem All2.nil_left {α β : Type} {R : α → β → Prop} {l : List β} (h : All2 R [] l) : l = [] := by cases h; rfl
theorem All2.one {α β : Type} {R : α → β → Prop} {a : α} {l : List β} (h : All2 R [a] l) : ∃ b, l = [b] ∧ R a b := by
  cases h with
  | cons h ht => cases ht; exact ⟨_, rfl, h⟩
theorem EsR.filter {es es' : List MapEntry} (he : EsR M es es') (f : Nat → Bool) : EsR M (es.filter fun e => f e.born) (es'.filter fun e => f e.born) := by
  induction he with
  | nil => exact .nil
  | cons h ht ih =>
    simp only [List.filter_cons, h.2.2]
    split
    · exact .cons h ih
    · exact ih
theorem EsR.all {es es' : List MapEntry} (he : EsR M es es') (f : Nat → Bool) : (es.all fun e => f e.born) = (es'.all fun e => f e.born) := by
  induction he with
  | nil => rfl
  | cons h ht ih => simp only [List.all_cons, h.2.2, ih]

theorem aRange_sound (hG : G.Fits P) (H : HR B M h w) {t : TypeId} {m m' v : Value} {h1 : Hp} (hm : VR M m m') (hB : h1.next ≤ B) (hs : aRange G h t m = some (.val v h1)) :
    ∃ M' v' w', (Instr.range t m').run P w = .ok v' w' ∧ Ext M h w M' h1 w' ∧ HR B M' h1 w' ∧ VR M' v v' := by
  unfold aRange at hs
  obtain ⟨o, ho, hs⟩ := map_some hs
  injection hs with hs1 hs2
  subst hs1; subst hs2
  rw [Hp.next_new] at hB
  have hlt : h.next < B := by omega
  have hself := Mp.upd_same M h.next ⟨w.heap.size, 0, .rw⟩
  have hv : VR (M.upd h.next ⟨w.heap.size, 0, .rw⟩) (.pointer (some ⟨h.next, 0, none⟩)) (.pointer (some ⟨w.heap.size, 0, none⟩)) := ptrTo_VR hself
  split at ho
  · rename_i kt et hu
    injection ho with ho; subst ho
    cases hm
    exact ⟨_, _, w.alloc (.mapIter none 0 #[] 0), by simp [Instr.range, run_und (hG.und _ _ hu)], Ext.new H hlt _ _ .rw, H.new hlt (.inil rfl rfl), hv⟩
  · rename_i kt et r hu
    obtain ⟨p, hM, rfl⟩ := hm.map_inv
    split at ho
    · rename_i es cl hb
      injection ho with ho; subst ho
      obtain ⟨es', hx', he, hkd⟩ := H.map hM hb
      exact ⟨_, _, w.alloc (.mapIter (some p.b) cl #[] cl), by simp [Instr.range, run_und (hG.und _ _ hu), run_getMap hx'], Ext.new H hlt _ _ .rw, H.new hlt (.iter rfl rfl (Mp.le_upd (H.none_next hlt) _ _ hM)), hv⟩
    · cases ho
  · cases ho

theorem forced_one : (Question.mapNext 1).forced = true := rfl
theorem choose_one (n : Nat) (hn : n ≤ 1) (w : World) : (choose (.mapNext n)).run P w = .ok 0 w := by
  simp [choose, Sem.run, Question.forced, hn]

theorem aNext_sound (H : HR B M h w) {t : TypeId} {it it' v : Value} {s : Bool} {h1 : Hp} (hi : VR M it it') (hs : aNext h it s = some (.val v h1)) :
    ∃ v' w', (Instr.next it' s t).run P w = .ok v' w' ∧ Ext M h w M h1 w' ∧ HR B M h1 w' ∧ VR M v v' := by
  unfold aNext at hs
  split at hs
  · rename_i r
    obtain ⟨b', o', p, hbo, hM, rfl⟩ := hi.ptr_inv
    injection hbo with hb1 ho1 _
    subst hb1; subst ho1
    have hover : VR M (.tuple #[.bool false]) (.tuple #[.bool false]) := LR.tuple (.cons (.bool false) (.nil M))
    split at hs
    · rename_i since seen st hb
      injection hs with hs; injection hs with hs1 hs2; subst hs1; subst hs2
      obtain ⟨x, hx, ho⟩ := H.ob r p _ hM hb rfl
      cases ho with
      | inil hk hsh =>
        exact ⟨_, w, by simp [Instr.next, hsh, run_getIter hx], Ext.refl _ _ _, H, hover⟩
    · rename_i m since seen last hb
      obtain ⟨q, hq, hsh, hkd, hx⟩ := H.iter hM hb
      split at hs
      · rename_i es cl hm
        obtain ⟨es', hy, he, _⟩ := H.map hq hm
        simp only at hs
        split at hs
        · cases hs
        · rename_i hgone
          have hgone' : (!seen.toArray.isEmpty && !es'.isEmpty && es'.all (fun x => decide (x.born ≥ last))) = false := by
            have e1 := he.all (fun n => decide (n ≥ last))
            have e2 : es'.all (fun x => decide (x.born ≥ last)) = es.all (fun x => decide (x.born ≥ last)) := by rw [e1, Array.all_toList]
            have e3 : es'.isEmpty = es.isEmpty := by
              have hsz : es'.size = es.length := by have := he.length; simp at this; omega
              cases es with
              | nil => have : es' = #[] := Array.eq_empty_of_size_eq_zero hsz; rw [this]; rfl
              | cons _ _ =>
                have : es'.size ≠ 0 := by rw [hsz]; simp
                simp [Array.isEmpty, this]
            rw [e2, e3]
            simpa using hgone
          have hleft := he.filter (fun n => !seen.contains n)
          have eleft : es'.filter (fun e => !seen.toArray.contains e.born) = (es'.toList.filter fun e => !seen.contains e.born).toArray := by
            apply Array.ext'
            simp
          split at hs
          · rename_i hnil
            injection hs with hs; injection hs with hs1 hs2; subst hs1; subst hs2
            rw [hnil] at hleft
            have hl0 : es'.toList.filter (fun e => !seen.contains e.born) = [] := hleft.nil_left
            refine ⟨_, w, ?_, Ext.refl _ _ _, H, hover⟩
            simp only [Instr.next, hsh, Nat.add_zero, Sem.run_bind, run_getIter hx, Result.andThen_ok, run_getMap hy, hgone', Bool.false_eq_true, if_false, eleft, hl0]
            simp [choose_one, forced_one]
          · rename_i e hone
            split at hs
            · rename_i hborn
              injection hs with hs; injection hs with hs1 hs2; subst hs1; subst hs2
              rw [hone] at hleft
              obtain ⟨e', hl1, hee⟩ : ∃ e', es'.toList.filter (fun e => !seen.contains e.born) = [e'] ∧ ER M e e' := by
                exact hleft.one
              have hb' : e'.born < since := by rw [← hee.2.2]; exact hborn
              have hnge : ¬ (e'.born ≥ since) := by omega
              refine ⟨.tuple #[.bool true, e'.key, e'.val], w.atBlock p.b (.mapIter (some q.b) since (seen.toArray.push e'.born) cl), ?_, ?_, ?_, ?_⟩
              · simp only [Instr.next, hsh, Nat.add_zero, Sem.run_bind, run_getIter hx, Result.andThen_ok, run_getMap hy, hgone', Bool.false_eq_true, if_false, eleft, hl1]
                simp [choose_one, forced_one, hb', hnge, run_setIter _ hx]
              · exact Ext.at_put _ _ hM hb rfl (by rw [hkd]; simp)
              · refine H.at_put hM hb rfl ?_
                have : seen.toArray.push e'.born = (seen ++ [e.born]).toArray := by rw [hee.2.2]; simp
                rw [this]
                exact .iter hkd hsh hq
              · exact LR.tuple (.cons (.bool true) (.cons hee.1 (.cons hee.2.1 (.nil M))))
            · cases hs
          · cases hs
      · cases hs
    · cases hs
  · cases hs

end
end Go.AE
