/- Operations that read memory, or only reckon places. -/
import Derived.Test.YtaceaifoajkgaaaGreatDoorAEval
import Derived.Test.YtaceaifoajkgaaaGreatDoorAEheap
namespace Go.AE

section
variable {G : Tabs} {P : Program} {B : Nat} {M : Mp} {h : Hp} {w : World}

/-- what is known of a live row -/
structure RowAt (M : Mp) (w : World) (p : Pl) (c : List Value) (e : TypeId) (md : Md) (c' : Array Value) (fz : Nat × Nat) : Prop where
  at_ : w.heap[p.b]? = some (.cells c' e fz)
  rel : LR M c ((c'.toList.drop p.sh).take c.length)
  one : c.all Value.oneCell' = true
  kind : (md = .ro ∧ p.k = .ro ∧ p.sh = 0 ∧ c'.size = c.length) ∨ (md = .rw ∧ p.k = .rw ∧ p.sh = 0 ∧ c'.size = c.length ∧ fz.2 ≤ fz.1) ∨
    (∃ tot sz, md = .opn sz ∧ p.k = .opn tot sz ∧ c'.size = tot ∧ sz ≠ 0 ∧ (fz.2 ≤ fz.1 ∨ c'.size ≤ fz.1))

theorem HR.row (H : HR B M h w) {b : Nat} {p : Pl} {c : List Value} {e : TypeId} {md : Md} (hM : M b = some p) (hb : h.get b = some (.cells c e md)) :
    ∃ c' fz, RowAt M w p c e md c' fz := by
  obtain ⟨x, hx, ho⟩ := H.ob b p _ hM hb rfl
  cases ho with
  | ro hk hs hl ho =>
    refine ⟨_, _, hx, ?_, ho, .inl ⟨rfl, hk, hs, by simpa using hl.1.symm⟩⟩
    rw [hs, List.drop_zero, List.take_of_length_le (Nat.le_of_eq hl.1.symm)]; exact hl
  | rw hk hs hl hz ho =>
    refine ⟨_, _, hx, ?_, ho, .inr (.inl ⟨rfl, hk, hs, by simpa using hl.1.symm, hz⟩)⟩
    rw [hs, List.drop_zero, List.take_of_length_le (Nat.le_of_eq hl.1.symm)]; exact hl
  | opn hk ht hn hl hz ho => exact ⟨_, _, hx, hl, ho, .inr (.inr ⟨_, _, rfl, hk, ht, hn, hz⟩)⟩

theorem RowAt.len {p : Pl} {c : List Value} {e : TypeId} {md : Md} {c' : Array Value} {fz : Nat × Nat} (R : RowAt M w p c e md c' fz) : p.sh + c.length ≤ c'.size ∨ c = [] := by
  have := R.rel.1
  simp only [List.length_take, List.length_drop, Array.length_toList] at this
  by_cases hc : c = []
  · exact .inr hc
  · left
    have : 0 < c.length := List.length_pos_iff.2 hc
    omega

theorem cell_at {b o : Nat} {c : Array Value} {e : TypeId} {fz : Nat × Nat} (hb : w.heap[b]? = some (.cells c e fz)) : w.cell? ⟨b, o, none⟩ = c[o]? := by
  simp [World.cell?, hb]

theorem LR.get_at {c l : List Value} {sh o : Nat} (hl : LR M c ((l.drop sh).take c.length)) {v : Value} (hv : c[o]? = some v) :
    ∃ v', l[o + sh]? = some v' ∧ VR M v v' := by
  obtain ⟨v', h1, h2⟩ := hl.get hv
  refine ⟨v', ?_, h2⟩
  have hlt : o < c.length := by
    rcases Nat.lt_or_ge o c.length with h | h
    · exact h
    · rw [List.getElem?_eq_none h] at hv; cases hv
  rw [List.getElem?_take_of_lt hlt, List.getElem?_drop] at h1
  rwa [Nat.add_comm]

theorem add_addr (b o n : Nat) : (Addr.add ⟨b, o, none⟩ n) = ⟨b, o + n, none⟩ := by
  unfold Addr.add
  split
  · rename_i h; subst h; rfl
  · rfl

theorem run_loadCellsFrom {b o : Nat} {l : List Value} : ∀ (n i : Nat) (acc : Array Value), (∀ j, j < n → w.cell? ⟨b, o + (i + j), none⟩ = l[i + j]?) → i + n ≤ l.length →
    (loadCellsFrom ⟨b, o, none⟩ i n acc).run P w = .ok (acc ++ ((l.drop i).take n).toArray) w := by
  intro n
  induction n with
  | zero => intro i acc _ _; simp [loadCellsFrom]
  | succ n ih =>
    intro i acc hc hl
    have h0 := hc 0 (by omega)
    have hlt : i < l.length := by omega
    simp only [Nat.add_zero] at h0
    rw [List.getElem?_eq_getElem hlt] at h0
    simp only [loadCellsFrom, Sem.run_bind, run_load, add_addr, h0, Result.andThen_ok]
    rw [ih (i + 1) (acc.push l[i]) (fun j hj => by
      have := hc (j + 1) (by omega)
      rw [show i + 1 + j = i + (j + 1) by omega]; exact this) (by omega)]
    congr 1
    rw [List.drop_eq_getElem_cons hlt, List.take_succ_cons, Array.push_eq_append]; simp

theorem cut_some {c l : List Value} {o n : Nat} (h : cut c o n = some l) : (l = (c.drop o).take n ∧ l.length = n) ∧ (o + n ≤ c.length ∨ n = 0) := by
  unfold cut at h
  simp only at h
  split at h
  · rename_i hn
    injection h with h
    subst h
    refine ⟨⟨rfl, hn⟩, ?_⟩
    simp only [List.length_take, List.length_drop] at hn
    omega
  · cases h

theorem RowAt.cut {p : Pl} {c : List Value} {e : TypeId} {md : Md} {c' : Array Value} {fz : Nat × Nat} (R : RowAt M w p c e md c' fz) {o n : Nat} {l : List Value} (hc : cut c o n = some l) :
    LR M l ((c'.toList.drop (o + p.sh)).take n) ∧ (loadCells ⟨p.b, o + p.sh, none⟩ n).run P w = .ok ((c'.toList.drop (o + p.sh)).take n).toArray w := by
  obtain ⟨⟨hl, hlen⟩, hle⟩ := cut_some hc
  rcases hle with hle | hz
  · constructor
    · have h1 := (R.rel.drop o).take n
      have h2 : List.take n (List.drop o (List.take c.length (List.drop p.sh c'.toList))) = (c'.toList.drop (o + p.sh)).take n := by
        rw [List.drop_take, List.drop_drop, List.take_take, Nat.min_eq_left (by omega), Nat.add_comm]
      rw [hl]
      rwa [h2] at h1
    · unfold loadCells
      rw [run_loadCellsFrom (l := c'.toList.drop (o + p.sh)) n 0 #[]]
      · simp
      · intro j hj
        rw [cell_at R.at_]
        simp [List.getElem?_drop]
      · have := R.rel.1
        simp only [List.length_take, List.length_drop] at this ⊢
        omega
  · subst hz
    have : l = [] := by simpa using hlen
    subst this
    exact ⟨by simpa using LR.nil M, by simp [loadCells, loadCellsFrom]⟩

theorem all_sub {c : List Value} (one : c.all Value.oneCell' = true) (o n : Nat) : ((c.drop o).take n).all Value.oneCell' = true := by
  rw [List.all_eq_true] at one ⊢
  exact fun x hx => one x (List.mem_of_mem_drop (List.mem_of_mem_take hx))

theorem loadVar_sound (hG : G.Fits P) (H : HR B M h w) {t : TypeId} {b o : Nat} {p : Pl} {v : Value} (hM : M b = some p) (hv : aLoad G h t (.pointer (some ⟨b, o, none⟩)) = some v) :
    ∃ v', (loadVar t ⟨p.b, o + p.sh, none⟩).run P w = .ok v' w ∧ VR M v v' := by
  unfold aLoad at hv
  simp only at hv
  split at hv
  · rename_i c e md hb
    obtain ⟨c', fz, R⟩ := H.row hM hb
    cases hu : G.und t with
    | none => rw [hu] at hv; cases hv
    | some d =>
      rw [hu] at hv
      simp only [Option.bind_some] at hv
      unfold loadVar
      simp only [Sem.run_bind, run_isAgg_of (hG.und _ _ hu), Result.andThen_ok]
      cases hd : isAggD d with
      | true =>
        rw [hd] at hv
        simp only [cond_true] at hv
        cases hn : aSize G t with
        | none => rw [hn] at hv; cases hv
        | some n =>
          rw [hn] at hv
          simp only [Option.bind_some] at hv
          cases hc : cut c o n with
          | none => rw [hc] at hv; cases hv
          | some l =>
            rw [hc] at hv
            injection hv with hv
            subst hv
            obtain ⟨h1, h2⟩ := R.cut (P := P) hc
            obtain ⟨⟨hl, _⟩, _⟩ := cut_some hc
            exact ⟨_, by simp [aSize_run hG hn, h2], LR.agg h1 (by rw [hl]; exact all_sub R.one o n)⟩
      | false =>
        rw [hd] at hv
        simp only [cond_false] at hv
        obtain ⟨v', hv', hr⟩ := R.rel.get_at hv
        refine ⟨v', ?_, hr⟩
        simp only [if_false, Bool.false_eq_true, run_load, cell_at R.at_]
        rw [← Array.getElem?_toList, hv']
  · cases hv

theorem aLoad_ptr {t : TypeId} {a v : Value} (hv : aLoad G h t a = some v) : ∃ b o, a = .pointer (some ⟨b, o, none⟩) := by
  unfold aLoad at hv
  split at hv
  · exact ⟨_, _, rfl⟩
  · cases hv

theorem loadAt_sound (hG : G.Fits P) (H : HR B M h w) {t : TypeId} {a a' v : Value} (ha : VR M a a') (hv : aLoad G h t a = some v) :
    ∃ v', (Instr.loadAt t a').run P w = .ok v' w ∧ VR M v v' := by
  obtain ⟨b, o, rfl⟩ := aLoad_ptr hv
  cases ha with
  | ptr hM =>
    obtain ⟨v', h1, h2⟩ := loadVar_sound hG H hM hv
    exact ⟨v', by simpa [Instr.loadAt, Instr.sureAddr] using h1, h2⟩

theorem aField_sound (hG : G.Fits P) {t : TypeId} {a a' v : Value} {i : Nat} (ha : VR M a a') (hv : aField G t a i = some v) (w : World) :
    ∃ v', (Instr.fieldAt t a' i).run P w = .ok v' w ∧ VR M v v' := by
  unfold aField at hv
  split at hv
  · rename_i b o
    cases ha with
    | ptr hM =>
      rename_i p
      split at hv
      · rename_i fs hu
        cases hf : fs[i]? with
        | none => rw [hf] at hv; cases hv
        | some f =>
          rw [hf] at hv
          simp only [Option.bind_some] at hv
          cases hs : aSize G f.type with
          | none => rw [hs] at hv; cases hv
          | some n =>
            rw [hs] at hv
            simp only [Option.bind_some] at hv
            cases hn : Nat.beq n 0 with
            | true => rw [hn] at hv; cases hv
            | false =>
              rw [hn] at hv
              injection hv with hv
              subst hv
              have hn' : n ≠ 0 := Nat.ne_of_beq_eq_false hn
              refine ⟨.pointer (some ⟨p.b, o + p.sh + f.offset, none⟩), ?_, ?_⟩
              · simp [Instr.fieldAt, run_und (hG.und _ _ hu), hf, Instr.sureAddr, fieldPlace, aSize_run hG hs, hn', add_addr]
              · have := VR.ptr (M := M) (o := o + f.offset) hM
                rw [show o + f.offset + p.sh = o + p.sh + f.offset by omega] at this
                exact this
      · cases hv
  · cases hv

theorem aIndexAddr_sound (hG : G.Fits P) {t : TypeId} {x x' i i' v : Value} (hx : VR M x x') (hi : VR M i i') (hv : aIndexAddr G t x i = some v) (w : World) :
    ∃ v', (Instr.indexAt t x' i').run P w = .ok v' w ∧ VR M v v' := by
  unfold aIndexAddr at hv
  split at hv
  · rename_i k i
    cases hi
    split at hv
    · rename_i len e b o hu
      cases hx with
      | ptr hM =>
        rename_i p
        cases hs : aSize G e with
        | none => rw [hs] at hv; cases hv
        | some n =>
          rw [hs] at hv
          simp only [Option.bind_some] at hv
          split at hv
          · rename_i hb
            injection hv with hv
            subst hv
            refine ⟨.pointer (some ⟨p.b, o + p.sh + i.toNat * n, none⟩), ?_, ?_⟩
            · simp [Instr.indexAt, asIntOf, run_und (hG.und _ _ hu), Instr.sureAddr, hb, aSize_run hG hs, add_addr]
            · have := VR.ptr (M := M) (o := o + i.toNat * n) hM
              rw [show o + i.toNat * n + p.sh = o + p.sh + i.toNat * n by omega] at this
              exact this
          · cases hv
    · rename_i e b o len cap hu
      cases hs : aSize G e with
      | none => rw [hs] at hv; cases hv
      | some n =>
        rw [hs] at hv
        simp only [Option.bind_some] at hv
        split at hv
        · rename_i hb
          injection hv with hv
          subst hv
          have key : ∀ (p : Pl) (c' : Nat), M b = some p → ∃ v', (Instr.indexAt t (.slice (some ⟨p.b, o + p.sh, none⟩) len c') (.int k i)).run P w = .ok v' w ∧ VR M (aAdd b o (i.toNat * n)) v' := by
            intro p c' hM
            refine ⟨.pointer (some ⟨p.b, o + p.sh + i.toNat * n, none⟩), ?_, ?_⟩
            · simp [Instr.indexAt, asIntOf, run_und (hG.und _ _ hu), hb, aSize_run hG hs, add_addr]
            · have := VR.ptr (M := M) (o := o + i.toNat * n) hM
              rw [show o + i.toNat * n + p.sh = o + p.sh + i.toNat * n by omega] at this
              exact this
          cases hx with
          | slc l c hM hk => exact key _ _ hM
          | slo l c c' hM hk hc hl => exact key _ _ hM
          | sle c hM hk a => simp at hb; omega
        · cases hv
    · cases hv
  · cases hv

theorem aFieldV_sound (hG : G.Fits P) {t : TypeId} {x x' v : Value} {i : Nat} (hx : VR M x x') (hv : aFieldV G t x i = some v) (w : World) :
    ∃ v', (Instr.field t x' i).run P w = .ok v' w ∧ VR M v v' := by
  unfold aFieldV at hv
  split at hv
  · rename_i fs cs hu
    obtain ⟨ds, rfl, hl, one⟩ := hx.agg_list
    cases hf : fs[i]? with
    | none => rw [hf] at hv; cases hv
    | some f =>
      rw [hf] at hv
      simp only [Option.bind_some] at hv
      obtain ⟨v', h1, h2⟩ := aPart_run hG hl one hv w
      exact ⟨v', by simp [Instr.field, run_und (hG.und _ _ hu), hf, asAgg, h1], h2⟩
  · cases hv

theorem aIndex_sound (hG : G.Fits P) {t : TypeId} {x x' i i' v : Value} (hx : VR M x x') (hi : VR M i i') (hv : aIndex G t x i = some v) (w : World) :
    ∃ v', (Instr.index t x' i').run P w = .ok v' w ∧ VR M v v' := by
  unfold aIndex at hv
  split at hv
  · rename_i k i
    cases hi
    split at hv
    · rename_i len e cs hu
      obtain ⟨ds, rfl, hl, one⟩ := hx.agg_list
      cases hs : aSize G e with
      | none => rw [hs] at hv; cases hv
      | some n =>
        rw [hs] at hv
        simp only [Option.bind_some] at hv
        split at hv
        · rename_i hb
          obtain ⟨v', h1, h2⟩ := aPart_run hG hl one hv w
          exact ⟨v', by simp [Instr.index, asIntOf, run_und (hG.und _ _ hu), hb, aSize_run hG hs, h1], h2⟩
        · cases hv
    · rename_i s hu
      cases hx
      split at hv
      · rename_i hb
        cases hc : s.data.toList[i.toNat]? with
        | none => rw [hc] at hv; cases hv
        | some c =>
          rw [hc] at hv
          injection hv with hv
          subst hv
          refine ⟨_, ?_, .int _ _⟩
          have hc' : s[i.toNat]? = some c := by
            have hlt : i.toNat < s.data.size := by
              rcases Nat.lt_or_ge i.toNat s.data.toList.length with h | h
              · simpa using h
              · rw [List.getElem?_eq_none h] at hc; cases hc
            have : i.toNat < s.size := hlt
            rw [getElem?_pos s i.toNat this]
            rw [Array.getElem?_toList, Array.getElem?_eq_getElem hlt] at hc
            injection hc with hc
            rw [← hc]; rfl
          simp [Instr.index, asIntOf, run_und (hG.und _ _ hu), hb, hc']
      · cases hv
    · cases hv
  · cases hv

theorem aLen_sound (hG : G.Fits P) (H : HR B M h w) {t : TypeId} {x x' v : Value} {ts : Array TypeId} {ty : TypeId} (ht : ts[0]? = some t) (hx : VR M x x') (hv : aLen G h t x = some v) :
    (Builtin.len_ ts ty #[x']).run P w = .ok v w ∧ VR M v v := by
  unfold aLen at hv
  split at hv
  · rename_i hu; injection hv with hv; subst hv; cases hx; exact ⟨by simp [Builtin.len_, ht, run_und (hG.und _ _ hu), goInt, iv], .int _ _⟩
  · rename_i hu; injection hv with hv; subst hv; refine ⟨?_, .int _ _⟩; cases hx <;> simp [Builtin.len_, ht, run_und (hG.und _ _ hu), goInt, iv]
  · rename_i hu; injection hv with hv; subst hv; refine ⟨?_, .int _ _⟩; cases hx <;> simp [Builtin.len_, ht, run_und (hG.und _ _ hu), goInt, iv]
  · rename_i hu; injection hv with hv; subst hv; cases hx; exact ⟨by simp [Builtin.len_, ht, run_und (hG.und _ _ hu), goInt, iv], .int _ _⟩
  · rename_i r hu
    cases hx with
    | map hM =>
      split at hv
      · rename_i es cl hb
        injection hv with hv; subst hv
        obtain ⟨y, hy, ho⟩ := H.ob _ _ _ hM hb rfl
        cases ho with
        | map hk he =>
          have hlen : es.length = _ := All2.length he
          refine ⟨?_, .int _ _⟩
          simp [Builtin.len_, ht, run_und (hG.und _ _ hu), goInt, iv, getObj, Sem.run, hy, hlen]
      · cases hv
  · cases hv

end
end Go.AE
