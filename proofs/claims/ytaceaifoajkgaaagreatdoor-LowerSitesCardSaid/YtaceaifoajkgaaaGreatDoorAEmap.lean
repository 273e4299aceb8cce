/- Asking a map, and what stands at an iterator; then: all operations that leave all as it is. -/
import Derived.Test.YtaceaifoajkgaaaGreatDoorAEsl
namespace Go.AE
section
variable {G : Tabs} {P : Program} {B : Nat} {M : Mp} {h : Hp} {w : World}

theorem aKeyOk_run (hG : G.Fits P) (em : Bool) : ∀ (d : Nat) (t : TypeId) (v v' : Value), aKeyOk G d t v = true → VR M v v' → ∀ n, d ≤ n → ∀ w, (Instr.checkKey em n t v').run P w = .ok () w := by
  intro d
  induction d with
  | zero => intro t v v' h; simp [aKeyOk] at h
  | succ d ih =>
    intro t v v' h hv n hn w
    obtain ⟨n, rfl⟩ : ∃ m, n = m + 1 := ⟨n - 1, by omega⟩
    unfold aKeyOk at h
    split at h
    · rename_i fs cs hu
      obtain ⟨ds, rfl, hl, one⟩ := hv.agg_list
      simp only [Instr.checkKey, Sem.run_bind, run_und (hG.und _ _ hu), Result.andThen_ok]
      have hall := List.all_eq_true.1 h
      have key : ∀ f ∈ fs.toList, f.name ≠ "_" ∧ ∀ w, ∃ x', (part f.type ds f.offset).run P w = .ok x' w ∧ (Instr.checkKey em n f.type x').run P w = .ok () w := by
        intro f hf
        have hh := hall f hf
        simp only [Bool.and_eq_true, Bool.not_eq_true', beq_eq_false_iff_ne] at hh
        obtain ⟨hne, hp⟩ := hh
        refine ⟨hne, fun w => ?_⟩
        split at hp
        · rename_i x hx
          obtain ⟨x', h1, h2⟩ := aPart_run hG hl one hx w
          exact ⟨x', h1, ih _ _ _ hp h2 n (by omega) w⟩
        · cases hp
      rw [← Array.forIn_toList]
      clear hall h hu
      generalize fs.toList = l at key
      have hl : ∀ l : List Field, (∀ f ∈ l, f.name ≠ "_" ∧ ∀ w, ∃ x', (part f.type ds f.offset).run P w = .ok x' w ∧ (Instr.checkKey em n f.type x').run P w = .ok () w) → ∀ w,
          (forIn l PUnit.unit fun f _ => if f.name ≠ "_" then (do let x ← part f.type ds f.offset; Instr.checkKey em n f.type x; pure (ForInStep.yield PUnit.unit)) else pure (ForInStep.yield PUnit.unit) : Sem PUnit).run P w = .ok PUnit.unit w := by
        intro l
        induction l with
        | nil => intro _ w; rfl
        | cons f l il =>
          intro hk w
          obtain ⟨hne, hx⟩ := hk f (by simp)
          obtain ⟨x', h1, h2⟩ := hx w
          simp only [List.forIn_cons, Sem.run_bind, if_pos hne, h1, h2, Result.andThen_ok, Sem.run_pure]
          exact il (fun g hg => hk g (by simp [hg])) w
      have := hl l key w
      simp only [ne_eq, ite_not] at this ⊢
      first
        | exact this
        | (simp only [this, Result.andThen_ok]; rfl)
    · rename_i b hu; cases hv; simp [Instr.checkKey, run_und (hG.und _ _ hu)]
    · rename_i k n hu; cases hv; simp [Instr.checkKey, run_und (hG.und _ _ hu)]
    · rename_i s hu; cases hv; simp [Instr.checkKey, run_und (hG.und _ _ hu)]
    · cases h

/-- what is found -/
inductive FR (M : Mp) (es : List MapEntry) (es' : List MapEntry) (i : Nat) : Option (Nat × MapEntry) → Option (Nat × Value) → Prop
  | none : FR M es es' i .none .none
  | some {j : Nat} {e e' : MapEntry} (hj : es[j]? = some e) (hj' : es'[j]? = some e') (he : ER M e e') : FR M es es' i (some (i + j, e)) (some (i + j, e'.val))

theorem FR.step {es es' : List MapEntry} {i : Nat} {r : Option (Nat × MapEntry)} {r' : Option (Nat × Value)} (x x' : MapEntry) (hf : FR M es es' (i + 1) r r') : FR M (x :: es) (x' :: es') i r r' := by
  cases hf with
  | none => exact .none
  | some hj hj' he =>
    rename_i j e e'
    have := FR.some (M := M) (es := x :: es) (es' := x' :: es') (i := i) (j := j + 1) (e := e) (e' := e') (by simpa using hj) (by simpa using hj') he
    rw [show i + 1 + j = i + (j + 1) by omega]
    exact this

theorem aEq_now (hG : G.Fits P) {kt : TypeId} {d : TypeDesc} (hu : P.underlying kt = some d) {k k' x x' : Value} {b : Bool} (hk : VR M k k') (hx : VR M x x') (h : aEq G 20 kt k x = some b) :
    Instr.sameNow d k' x' = some b ∨ Instr.sameNow d k' x' = none := by
  unfold aEq at h
  obtain ⟨ds, hd, h⟩ := bind_some h
  have := hG.und _ _ hd
  rw [hu] at this
  injection this with this
  subst this
  split at h
  · injection h with h; subst h; cases hk; cases hx; left; rfl
  · cases hk; cases hx
    obtain ⟨he, h⟩ := if_some h
    injection h with h; subst h; left; simp [Instr.sameNow, he]
  · injection h with h; subst h; cases hk; cases hx; left; simp [Instr.sameNow, bytesEq_eq]
  · right; rename_i hx _; obtain ⟨_, rfl, _⟩ := VR.agg_list hk; rfl
  · right; obtain ⟨_, rfl, _⟩ := VR.agg_list hk; rfl
  · cases h

theorem findAsking_run (hG : G.Fits P) {kt : TypeId} {k k' : Value} (hk : VR M k k') : ∀ (es es' : List MapEntry) (i : Nat) (r : Option (Nat × MapEntry)), EsR M es es' → aFind G kt k es i = some r →
    ∃ r', (∀ w, (Instr.findAsking kt k' es' i).run P w = .ok r' w) ∧ FR M es es' i r r' := by
  intro es
  induction es with
  | nil => intro es' i r he h; cases he; simp [aFind] at h; subst h; exact ⟨none, fun w => rfl, .none⟩
  | cons e es ih =>
    intro es' i r he h
    cases he with
    | cons hee ht =>
      rename_i e' es'
      unfold aFind at h
      obtain ⟨b, hb, h⟩ := bind_some h
      have hr : ∀ w, (Op.equal kt k' e'.key).run P w = .ok b w := fun w => aEq_run hG 20 kt _ _ _ _ b hb hk hee.1 10000 (by omega) w
      cases b with
      | true =>
        simp only [cond_true] at h
        injection h with h; subst h
        exact ⟨some (i, e'.val), fun w => by simp [Instr.findAsking, hr], FR.some (j := 0) rfl rfl hee⟩
      | false =>
        simp only [cond_false] at h
        obtain ⟨r', h1, h2⟩ := ih es' (i + 1) r ht h
        exact ⟨r', fun w => by simp [Instr.findAsking, hr, h1], h2.step e e'⟩

theorem findNow_run (hG : G.Fits P) {kt : TypeId} {d : TypeDesc} (hu : P.underlying kt = some d) {k k' : Value} (hk : VR M k k') : ∀ (es es' : List MapEntry) (i : Nat) (r : Option (Nat × MapEntry)), EsR M es es' → aFind G kt k es i = some r →
    Instr.findNow d k' es' i = none ∨ ∃ r', Instr.findNow d k' es' i = some r' ∧ FR M es es' i r r' := by
  intro es
  induction es with
  | nil => intro es' i r he h; cases he; simp [aFind] at h; subst h; exact .inr ⟨none, rfl, .none⟩
  | cons e es ih =>
    intro es' i r he h
    cases he with
    | cons hee ht =>
      rename_i e' es'
      unfold aFind at h
      obtain ⟨b, hb, h⟩ := bind_some h
      rcases aEq_now hG hu hk hee.1 hb with hs | hs
      · cases b with
        | true =>
          simp only [cond_true] at h
          injection h with h; subst h
          exact .inr ⟨some (i, e'.val), by simp [Instr.findNow, hs], FR.some (j := 0) rfl rfl hee⟩
        | false =>
          simp only [cond_false] at h
          rcases ih es' (i + 1) r ht h with h1 | ⟨r', h1, h2⟩
          · exact .inl (by simp [Instr.findNow, hs, h1])
          · exact .inr ⟨r', by simp [Instr.findNow, hs, h1], h2.step e e'⟩
      · exact .inl (by simp [Instr.findNow, hs])

theorem aAsk_run (hG : G.Fits P) {kt : TypeId} {k k' : Value} (hk : VR M k k') {es : List MapEntry} {es' : Array MapEntry} {r : Option (Nat × MapEntry)} (he : EsR M es es'.toList) (h : aAsk G kt k es = some r) :
    ∃ r', (∀ em w, (Instr.checkKey em 10000 kt k').run P w = .ok () w) ∧ (∀ w, (Instr.findKey kt k' es'.toList).run P w = .ok r' w) ∧ FR M es es'.toList 0 r r' := by
  unfold aAsk at h
  obtain ⟨hok, h⟩ := bif_some h
  obtain ⟨ra, h1, h2⟩ := findAsking_run hG hk es es'.toList 0 r he h
  have hck : ∀ em w, (Instr.checkKey em 10000 kt k').run P w = .ok () w := fun em w => aKeyOk_run hG em 20 kt k k' hok hk 10000 (by omega) w
  have hu : ∃ d, P.underlying kt = some d := by
    unfold aKeyOk at hok
    cases hd : G.und kt with
    | none => rw [hd] at hok; simp at hok
    | some d => exact ⟨d, hG.und _ _ hd⟩
  obtain ⟨d, hu⟩ := hu
  rcases findNow_run hG hu hk es es'.toList 0 r he h with hn | ⟨rn, hn, hf⟩
  · exact ⟨ra, hck, fun w => by simp [Instr.findKey, run_und hu, hn, h1], h2⟩
  · exact ⟨rn, hck, fun w => by simp [Instr.findKey, run_und hu, hn], hf⟩

theorem run_getMap {r : Nat} {es : Array MapEntry} {cl : Nat} (hb : w.heap[r]? = some (.map es cl)) : (getObj r).run P w = .ok (.map es cl) w := by
  simp [getObj, Sem.run, hb]

theorem HR.map (H : HR B M h w) {r : Nat} {p : Pl} {es : List MapEntry} {cl : Nat} (hM : M r = some p) (hb : h.get r = some (.map es cl)) :
    ∃ es', w.heap[p.b]? = some (.map es' cl) ∧ EsR M es es'.toList ∧ p.k = .rw := by
  obtain ⟨x, hx, ho⟩ := H.ob r p _ hM hb rfl
  cases ho with
  | map hk he => exact ⟨_, hx, he, hk⟩

theorem aLookup_sound (hG : G.Fits P) (H : HR B M h w) {t : TypeId} {m m' k k' v : Value} {ok : Bool} (hm : VR M m m') (hk : VR M k k') (hv : aLookup G h t m k ok = some v) :
    ∃ v', (Instr.lookup t m' k' ok).run P w = .ok v' w ∧ VR M v v' := by
  unfold aLookup at hv
  split at hv
  · rename_i kt et hu
    obtain ⟨es, hes, hv⟩ := bind_some hv
    obtain ⟨r, hr, hv⟩ := bind_some hv
    obtain ⟨vb, hvb, hv⟩ := map_some hv
    have fin : ∀ (es' : Array MapEntry), EsR M es es'.toList → ∃ r', (∀ em w, (Instr.checkKey em 10000 kt k').run P w = .ok () w) ∧ (∀ w, (Instr.findKey kt k' es'.toList).run P w = .ok r' w) ∧
        ((r' = none ∧ (zeroValue et).run P w = .ok vb.1 w ∧ VR M vb.1 vb.1 ∧ vb.2 = false) ∨ ∃ i v1, r' = some (i, v1) ∧ VR M vb.1 v1 ∧ vb.2 = true) := by
      intro es' he
      obtain ⟨r', hck, hf, hfr⟩ := aAsk_run hG hk he hr
      refine ⟨r', hck, hf, ?_⟩
      cases hfr with
      | none =>
        obtain ⟨z, hz, hvb⟩ := map_some hvb
        subst hvb
        obtain ⟨hzr, hzv, _⟩ := aZero_run hG hz w
        exact .inl ⟨rfl, hzr, hzv M, rfl⟩
      | some hj hj' hee =>
        injection hvb with hvb; subst hvb
        exact .inr ⟨_, _, rfl, hee.2.1, rfl⟩
    obtain ⟨v0, b0⟩ := vb
    subst hv
    simp only at fin ⊢
    have close : ∀ v1, VR M v0 v1 → VR M (if ok = true then Value.tuple #[v0, Value.bool b0] else v0) (if ok = true then Value.tuple #[v1, Value.bool b0] else v1) := by
      intro v1 hv1
      cases ok with
      | true => exact hv1.pair (.bool _)
      | false => exact hv1
    split at hes
    · injection hes with hes; subst hes; cases hm
      obtain ⟨r', hck, hf, ⟨rfl, hz, hvv, rfl⟩ | ⟨i, v1, rfl, hv1, rfl⟩⟩ := fin #[] .nil
      · exact ⟨_, by simp only [Instr.lookup, Sem.run_bind, run_und (hG.und _ _ hu), Result.andThen_ok, hck, hf, hz, Sem.run_pure], close _ hvv⟩
      · exact ⟨_, by simp only [Instr.lookup, Sem.run_bind, run_und (hG.und _ _ hu), Result.andThen_ok, hck, hf, Sem.run_pure], close _ hv1⟩
    · cases hm with
      | map hM =>
        split at hes
        · rename_i es1 cl hb
          injection hes with hes; subst hes
          obtain ⟨es', hx, he, _⟩ := H.map hM hb
          obtain ⟨r', hck, hf, ⟨rfl, hz, hvv, rfl⟩ | ⟨i, v1, rfl, hv1, rfl⟩⟩ := fin es' he
          · exact ⟨_, by simp only [Instr.lookup, Sem.run_bind, run_und (hG.und _ _ hu), Result.andThen_ok, run_getMap hx, hck, hf, hz, Sem.run_pure], close _ hvv⟩
          · exact ⟨_, by simp only [Instr.lookup, Sem.run_bind, run_und (hG.und _ _ hu), Result.andThen_ok, run_getMap hx, hck, hf, Sem.run_pure], close _ hv1⟩
        · cases hes
    · cases hes
  · cases hv

end
end Go.AE
