/- truantref14.Sites: the sites that the document's function answers, in a slice of the call's own. -/
import Derived.Test.YtaceaifoajkgaaaGreatDoorLSListed
import Derived.OwnWalk
import Derived.WalkSmall
namespace Go.Proofs.YtaceaifoajkgaaaGreatDoor
open Go.RowKit Go.Sites

theorem infoS : (Tryz.prog.info? 41).map (fun i => (i.zero, i.size, i.bytes)) = some (some (.agg #[.int .i64 0, .int .i64 0]), 2, 16) := by kernel_rfl

/-- what is known of a program's functions in memory -/
structure FunsAt (w : World) (FA : Option Addr) (nf : Nat) (IN BN : Nat → Nat) (Op : Nat → Nat → Int) (LN : Nat → Nat → Nat) (E : Nat → Nat → Nat → Int) : Prop where
  n : nf ≤ 9223372036854775807
  inn : ∀ i, i < nf → IN i ≤ 9223372036854775807
  at' : ∀ i, i < nf → ∃ FB FO c0 c1 c2 c3 IA IC BA BC, FA = some ⟨FB, FO, none⟩ ∧ w.cell? ⟨FB, FO + i * 6, none⟩ = some c0 ∧ w.cell? ⟨FB, FO + i * 6 + 1, none⟩ = some c1 ∧
    w.cell? ⟨FB, FO + i * 6 + 2, none⟩ = some c2 ∧ w.cell? ⟨FB, FO + i * 6 + 3, none⟩ = some c3 ∧ w.cell? ⟨FB, FO + i * 6 + 4, none⟩ = some (.slice IA (IN i) IC) ∧
    w.cell? ⟨FB, FO + i * 6 + 5, none⟩ = some (.slice BA (BN i) BC) ∧ BlocksAt w BA (BN i) (LN i) (E i) ∧
    (∀ k, k < IN i → ∃ IB IQ, IA = some ⟨IB, IQ, none⟩ ∧ w.cell? ⟨IB, IQ + k * 5, none⟩ = some (.int .i64 (Op i k))) ∧
    (∃ s, c0 = .string s) ∧ (∃ a l c, c1 = .slice a l c) ∧ (∃ s, c2 = .string s) ∧ ∃ a l c, c3 = .slice a l c

/-- sites as the cells of a row -/
def cellsOf (l : List (Int × Int)) : List Value := l.flatMap fun x => [.int .i64 x.1, .int .i64 x.2]

theorem cellsOf_append (l m : List (Int × Int)) : cellsOf (l ++ m) = cellsOf l ++ cellsOf m := by simp [cellsOf]
theorem cellsOf_length (l : List (Int × Int)) : (cellsOf l).length = l.length * 2 := by
  induction l with
  | nil => rfl
  | cons x l ih => simp [cellsOf] at ih ⊢; omega

theorem ownsRow_below {w w' : World} {base size n B : Nat} {e : TypeId} {v : Value} {xs : List Value} (h : w.ownsRow base e size v n xs) (hb : Below B w w') (hB : w.heap.size ≤ B) : w'.ownsRow base e size v n xs := by
  refine ⟨h.1, ?_⟩
  rcases h.2 with h0 | ⟨g, cap, cur, h1, h2, h3, h4⟩
  · exact .inl h0
  · have hlt : g < w.heap.size := (Array.getElem?_eq_some_iff.1 h3).1
    exact .inr ⟨g, cap, cur, h1, h2, by rw [hb.block g (by omega)]; exact h3, h4⟩

theorem BlocksAt.below {w w' : World} {BA : Option Addr} {bn : Nat} {LN : Nat → Nat} {E : Nat → Nat → Int} {B : Nat} (h : BlocksAt w BA bn LN E) (hb : Below B w w') (hB : w.heap.size ≤ B) : BlocksAt w' BA bn LN E := by
  have c : ∀ a v, w.cell? a = some v → w'.cell? a = some v := fun a v hv => by
    have hlt : a.block < w.heap.size := World.block_lt_of_cell? _ _ hv
    rw [hb.cell (by omega)]; exact hv
  refine ⟨h.n, h.ln, fun b hlt => ?_⟩
  obtain ⟨BB, BO, LA, LC, h1, h2, h3, j1, j2, j3, j4, h4, h5, h6, h7⟩ := h.at' b hlt
  refine ⟨BB, BO, LA, LC, h1, c _ _ h2, fun t ht => ?_, j1, j2, j3, j4, c _ _ h4, c _ _ h5, c _ _ h6, c _ _ h7⟩
  obtain ⟨LB, LO, k1, k2⟩ := h3 t ht
  exact ⟨LB, LO, k1, c _ _ k2⟩

theorem FunsAt.below {w w' : World} {FA : Option Addr} {nf : Nat} {IN BN : Nat → Nat} {Op : Nat → Nat → Int} {LN : Nat → Nat → Nat} {E : Nat → Nat → Nat → Int} {B : Nat} (h : FunsAt w FA nf IN BN Op LN E) (hb : Below B w w') (hB : w.heap.size ≤ B) :
    FunsAt w' FA nf IN BN Op LN E := by
  have c : ∀ a v, w.cell? a = some v → w'.cell? a = some v := fun a v hv => by
    have hlt : a.block < w.heap.size := World.block_lt_of_cell? _ _ hv
    rw [hb.cell (by omega)]; exact hv
  refine ⟨h.n, h.inn, fun i hi => ?_⟩
  obtain ⟨FB, FO, c0, c1, c2, c3, IA, IC, BA, BC, h1, h2, h3, h4, h5, h6, h7, h8, h9, h10⟩ := h.at' i hi
  refine ⟨FB, FO, c0, c1, c2, c3, IA, IC, BA, BC, h1, c _ _ h2, c _ _ h3, c _ _ h4, c _ _ h5, c _ _ h6, c _ _ h7, h8.below hb hB, fun k hk => ?_, h10⟩
  obtain ⟨IB, IQ, k1, k2⟩ := h9 k hk
  exact ⟨IB, IQ, k1, c _ _ k2⟩

theorem sites2_length (n : Nat) (op : Nat → Int) (bn : Nat) (ln : Nat → Nat) (e : Nat → Nat → Int) (m : Nat) : (sites2 n op bn ln e m).length ≤ m := by
  unfold sites2
  rw [List.length_map]
  exact Nat.le_trans (List.length_filter_le _ _) (by simp)
theorem all2_length {nf : Nat} {IN BN : Nat → Nat} {Op : Nat → Nat → Int} {LN : Nat → Nat → Nat} {E : Nat → Nat → Nat → Int} (h : ∀ i, i < nf → IN i ≤ 600) : ∀ m, m ≤ nf → (all2 IN BN Op LN E m).length ≤ m * 600 := by
  intro m
  induction m with
  | zero => intro _; simp [all2]
  | succ m ih =>
    intro hm
    rw [all2_succ, List.length_append, List.length_map]
    have h1 := ih (by omega)
    have h2 := sites2_length (IN m) (Op m) (BN m) (LN m) (E m) (IN m)
    have h3 := h m (by omega)
    omega

/-- of the first m functions, and of the next one's first k places -/
def all2p (IN BN : Nat → Nat) (Op : Nat → Nat → Int) (LN : Nat → Nat → Nat) (E : Nat → Nat → Nat → Int) (m k : Nat) : List (Int × Int) :=
  all2 IN BN Op LN E m ++ (sites2 (IN m) (Op m) (BN m) (LN m) (E m) k).map fun x => ((m : Int), x)
theorem all2p_zero (IN BN : Nat → Nat) (Op : Nat → Nat → Int) (LN : Nat → Nat → Nat) (E : Nat → Nat → Nat → Int) (m : Nat) : all2p IN BN Op LN E m 0 = all2 IN BN Op LN E m := by simp [all2p, sites2]
theorem all2p_done (IN BN : Nat → Nat) (Op : Nat → Nat → Int) (LN : Nat → Nat → Nat) (E : Nat → Nat → Nat → Int) (m : Nat) : all2p IN BN Op LN E m (IN m) = all2 IN BN Op LN E (m + 1) := by rw [all2_succ]; rfl
theorem all2p_yes {IN BN : Nat → Nat} {Op : Nat → Nat → Int} {LN : Nat → Nat → Nat} {E : Nat → Nat → Nat → Int} {m k : Nat} (h1 : (Op m k == 24) = true) (h2 : listed (BN m) (LN m) (E m) k = true) :
    all2p IN BN Op LN E m (k + 1) = all2p IN BN Op LN E m k ++ [((m : Int), (k : Int))] := by
  unfold all2p
  rw [sites2_succ, h1, h2]; simp
theorem all2p_no {IN BN : Nat → Nat} {Op : Nat → Nat → Int} {LN : Nat → Nat → Nat} {E : Nat → Nat → Nat → Int} {m k : Nat} (h : (Op m k == 24 && listed (BN m) (LN m) (E m) k) = false) :
    all2p IN BN Op LN E m (k + 1) = all2p IN BN Op LN E m k := by
  unfold all2p
  rw [sites2_succ, h]; simp
theorem all2p_length {nf : Nat} {IN BN : Nat → Nat} {Op : Nat → Nat → Int} {LN : Nat → Nat → Nat} {E : Nat → Nat → Nat → Int} (h : ∀ i, i < nf → IN i ≤ 600) {m k : Nat} (hm : m < nf) (hk : k ≤ IN m) : (all2p IN BN Op LN E m k).length ≤ m * 600 + 600 := by
  unfold all2p
  rw [List.length_append, List.length_map]
  have h1 := all2_length (BN := BN) (Op := Op) (LN := LN) (E := E) h m (by omega)
  have h2 := sites2_length (IN m) (Op m) (BN m) (LN m) (E m) k
  have h3 := h m hm
  omega

theorem ownsRow_empty (w : World) (B : Nat) (hB : B = w.heap.size) : (w.alloc (.cells #[] 41)).ownsRow B 41 2 (.slice (some ⟨w.heap.size, 0, none⟩) 0 0) 0 [] := by
  exact ⟨rfl, .inr ⟨w.heap.size, 0, #[], rfl, by omega, by show (w.heap.push _)[w.heap.size]? = _; simp, Nat.le_refl _, by unfold maxLen; omega, rfl, rfl⟩⟩

set_option maxHeartbeats 6400000 in
set_option maxRecDepth 1000000 in
theorem ref_any (s0 s1 : Value) (FA : Option Addr) (nf fc : Nat) (IN BN : Nat → Nat) (Op : Nat → Nat → Int) (LN : Nat → Nat → Nat) (E : Nat → Nat → Nat → Int) (w : World) (hF : FunsAt w FA nf IN BN Op LN E) (hn : nf ≤ 30) (hinn : ∀ i, i < nf → IN i ≤ 600) :
    Calls Tryz.prog 6 #[.agg #[s0, s1, .slice FA nf fc]] w fun e w' => ∃ v, e = .returned v ∧ w'.ownsRow (w.heap.size + 1) 41 2 v (all2 IN BN Op LN E nf).length (cellsOf (all2 IN BN Op LN E nf)) ∧ Below w.heap.size w w' := by
  obtain ⟨i0, hi, hz0, hz1, hz2⟩ := info_parts infoS
  have hbox : ∀ wr, Below (w.heap.size + 1) (w.alloc (.cells #[s0, s1, .slice FA nf fc] 26)) wr → wr.cell? ⟨w.heap.size, 2, none⟩ = some (.slice FA nf fc) ∧ Below w.heap.size w wr := fun wr hb => by
    refine ⟨?_, ((Below.refl _ _).alloc (Nat.le_refl _) _).trans (hb.mono (by omega))⟩
    rw [hb.cell (show w.heap.size < w.heap.size + 1 by omega), World.cell?_alloc_at _ _ _ _ rfl]; rfl
  go_enter Tryz.func6, Tryz.ntmps6
  go_wp2
  go_loopg [4, 3] nf (fun g i v wr => ∃ m : Nat, m ≤ nf ∧ g = nf - m ∧ i = .int .i64 m ∧ wr.ownsRow (w.heap.size + 1) 41 2 v (all2 IN BN Op LN E m).length (cellsOf (all2 IN BN Op LN E m)) ∧
      Below (w.heap.size + 1) (w.alloc (.cells #[s0, s1, .slice FA nf fc] 26)) wr)
  case atStart => exact ⟨0, Nat.zero_le _, rfl, rfl, by simpa [all2, cellsOf] using ownsRow_empty (w.alloc (.cells #[s0, s1, .slice FA nf fc] 26)) (w.heap.size + 1) (by simp), (Below.refl _ _).alloc (by simp) _⟩
  case round =>
    obtain ⟨m, hm, rfl, rfl, hown, hbel⟩ := hrel
    have g0 := (hbox wr hbel).1
    by_cases hmn : m < nf
    · go_wp2
      go_loopg [5, 3] (IN m) (fun g i v wi => ∃ k : Nat, k ≤ IN m ∧ g = IN m - k ∧ i = .int .i64 k ∧ wi.ownsRow (w.heap.size + 1) 41 2 v (all2p IN BN Op LN E m k).length (cellsOf (all2p IN BN Op LN E m k)) ∧
          Below (w.heap.size + 1) (w.alloc (.cells #[s0, s1, .slice FA nf fc] 26)) wi)
      case atStart => exact ⟨0, Nat.zero_le _, rfl, rfl, by rw [all2p_zero]; exact hown, hbel⟩
      case round =>
        obtain ⟨k, hk, rfl, rfl, hown2, hbel2⟩ := hrel
        clear hown hbel g0
        have g0 := (hbox _ hbel2).1
        obtain ⟨FB, FO, c0, c1, c2, c3, IA, IC, BA, BC, h1, h2, h3, h4, h5, h6, h7, h8, h9, _⟩ := (hF.below (hbox _ hbel2).2 (Nat.le_refl _)).at' m hmn
        subst h1
        by_cases hki : k < IN m
        · obtain ⟨IB, IQ, hia, hop⟩ := h9 k hki
          subst hia
          have hlen := all2p_length (BN := BN) (Op := Op) (LN := LN) (E := E) hinn hmn hk
          have hsz := (hbox _ hbel2).2.size
          have hsz2 := hbel2.size
          rw [World.size_alloc] at hsz2
          have hkb := hinn m hmn
          cases ho : (Op m k == 24) with
          | false =>
            have hno := all2p_no (IN := IN) (BN := BN) (Op := Op) (LN := LN) (E := E) (m := m) (k := k) (by rw [ho]; rfl)
            go_wp2
            go_roundg (IN m - (k + 1))
            case measure => omega
            case rel => exact ⟨k + 1, by omega, rfl, by go_num, by rw [hno]; exact hown2, hbel2⟩
          | true =>
            cases hl : listed (BN m) (LN m) (E m) k with
            | false =>
              have hno := all2p_no (IN := IN) (BN := BN) (Op := Op) (LN := LN) (E := E) (m := m) (k := k) (by rw [ho, hl]; rfl)
              go_wp2_with (first
                | (go_at_call 14; refine (listed_any c0 c1 c2 c3 (.slice (some ⟨IB, IQ, none⟩) (IN m) IC) BA (BN m) BC (LN m) (E m) k wr h8).mono ?_; rintro e w2 ⟨rfl, hb2⟩))
              have hs1 := hb2.size
              go_roundg (IN m - (k + 1))
              case measure => omega
              case rel => exact ⟨k + 1, by omega, rfl, by go_num, by rw [hno]; exact ownsRow_below hown2 hb2 (Nat.le_refl _), hbel2.trans (hb2.mono (by omega))⟩
            | true =>
              have hyes := all2p_yes (IN := IN) (BN := BN) (Op := Op) (LN := LN) (E := E) (m := m) (k := k) ho hl
              go_wp2_with (first
                | (go_at_call 14; refine (listed_any c0 c1 c2 c3 (.slice (some ⟨IB, IQ, none⟩) (IN m) IC) BA (BN m) BC (LN m) (E m) k wr h8).mono ?_; rintro e w2 ⟨rfl, hb2⟩)
                | (at_builtin; refine wpList_append_own _ rfl (.tmp 45) (.tmp 49) 37 rfl (w.heap.size + 1) 41 i0 (.agg #[.int .i64 0, .int .i64 0]) 2 16 Tryz.underlying37 hi hz0 hz1 hz2 rfl (by decide) _ _ _ rfl ((ownsRow_below hown2 hb2 (Nat.le_refl _)).alloc _) ⟨w2.heap.size, 0, none⟩ 1 1 [.int .i64 m, .int .i64 k] rfl rfl (cell_two_new w2 _ _ _) (by intro u hu; simp at hu; rcases hu with rfl | rfl <;> rfl) (by unfold maxLen; omega) (by omega) (by have := hb2.size; simp; omega) ?_; intro v' w3 hown3 hgrow3 _))
              have hs1 := hb2.size
              have hs2 := hgrow3.size
              rw [World.size_alloc] at hs2
              have hfin : w3.ownsRow (w.heap.size + 1) 41 2 v' (all2p IN BN Op LN E m (k + 1)).length (cellsOf (all2p IN BN Op LN E m (k + 1))) := by
                rw [hyes, List.length_append, cellsOf_append]; exact hown3
              have hbel3 : Below (w.heap.size + 1) (w.alloc (.cells #[s0, s1, .slice (some ⟨FB, FO, none⟩) nf fc] 26)) w3 := by
                refine ((hbel2.trans (hb2.mono (by omega))).alloc (by omega) _).grown hgrow3 (by simp; omega) (fun j hj => ?_)
                rcases hown2.2 with ⟨rfl, _⟩ | ⟨g, cap, cur, rfl, hg, _⟩
                · cases hj
                · have e1 : some g = some j := hj
                  injection e1 with e1
                  omega
              go_roundg (IN m - (k + 1))
              case measure => omega
              case rel => exact ⟨k + 1, by omega, rfl, by go_num, hfin, hbel3⟩
        · have hke : k = IN m := by omega
          subst hke
          rw [all2p_done] at hown2
          go_wp2
          go_roundg (nf - (m + 1))
          case measure => omega
          case rel => exact ⟨m + 1, by omega, rfl, by go_num, hown2, hbel2⟩
    · have hme : m = nf := by omega
      subst hme
      go_wp2
      go_ret
      exact ⟨_, rfl, hown, (hbox _ hbel).2⟩
/-- what owns a row is a slice of so many elements -/
theorem own_shape {w : World} {base size n : Nat} {e : TypeId} {v : Value} {xs : List Value} (h : w.ownsRow base e size v n xs) : ∃ a cap, v = .slice a n cap := by
  rcases h.2 with ⟨rfl, rfl⟩ | ⟨g, cap, cur, rfl, _⟩
  · exact ⟨_, _, rfl⟩
  · exact ⟨_, _, rfl⟩
end Go.Proofs.YtaceaifoajkgaaaGreatDoor
