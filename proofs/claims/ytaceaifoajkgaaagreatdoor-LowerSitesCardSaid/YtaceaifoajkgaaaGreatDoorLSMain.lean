/- The law LowerSites: on every program and number it answers true, and leaves what was there as it was. -/
import Derived.Test.YtaceaifoajkgaaaGreatDoorLSLower
import Derived.Test.YtaceaifoajkgaaaGreatDoorAnchor
import Derived.BigQuiet
import Derived.Deep.QuietTactic
namespace Go.Proofs.YtaceaifoajkgaaaGreatDoor
open Go.RowKit Go.Sites

def boundZ (n : Int) : Int := if n < 0 ∨ 65536 < n then 0 else 8 * n + 64
theorem bound_low {n : Int} (h : n < 0) : boundZ n = 0 := by simp [boundZ, h]
theorem bound_high {n : Int} (h : 65536 < n) : boundZ n = 0 := by simp [boundZ, h]
theorem bound_mid {n : Int} (h : ¬ n < 0) (h' : ¬ 65536 < n) : boundZ n = 8 * n + 64 := by simp [boundZ, h, h']

theorem bound7 (n : Int) (w : World) : Calls Tryz.prog 7 #[.int .i64 n] w fun e w' => e = .returned (.int .i64 (boundZ n)) ∧ w' = w := by
  by_cases h1 : n < 0
  · rw [bound_low h1]
    go_enter Tryz.func7, Tryz.ntmps7
    go_wp2
    all_goals (go_ret; exact ⟨rfl, rfl⟩)
  · by_cases h2 : 65536 < n
    · rw [bound_high h2]
      go_enter Tryz.func7, Tryz.ntmps7
      go_wp2
      all_goals (go_ret; exact ⟨rfl, rfl⟩)
    · rw [bound_mid h1 h2]
      go_enter Tryz.func7, Tryz.ntmps7
      go_wp2
      all_goals (go_ret; exact ⟨rfl, rfl⟩)
theorem bound8 (n : Int) (w : World) : Calls Tryz.prog 8 #[.int .i64 n] w fun e w' => e = .returned (.int .i64 (boundZ n)) ∧ w' = w := by
  by_cases h1 : n < 0
  · rw [bound_low h1]
    go_enter Tryz.func8, Tryz.ntmps8
    go_wp2
    all_goals (go_ret; exact ⟨rfl, rfl⟩)
  · by_cases h2 : 65536 < n
    · rw [bound_high h2]
      go_enter Tryz.func8, Tryz.ntmps8
      go_wp2
      all_goals (go_ret; exact ⟨rfl, rfl⟩)
    · rw [bound_mid h1 h2]
      go_enter Tryz.func8, Tryz.ntmps8
      go_wp2
      all_goals (go_ret; exact ⟨rfl, rfl⟩)

theorem cellsOf_at {l : List (Int × Int)} {j : Nat} (h : j < l.length) : (cellsOf l)[j * 2]? = some (.int .i64 l[j].1) ∧ (cellsOf l)[j * 2 + 1]? = some (.int .i64 l[j].2) := by
  induction l generalizing j with
  | nil => simp at h
  | cons x l ih =>
    have e : cellsOf (x :: l) = .int .i64 x.1 :: .int .i64 x.2 :: cellsOf l := by simp [cellsOf]
    cases j with
    | zero => rw [e]; simp
    | succ j =>
      have h2 := ih (j := j) (by simpa using h)
      rw [e, show (j + 1) * 2 = j * 2 + 1 + 1 by omega]
      simpa using h2

set_option maxHeartbeats 12800000 in
set_option maxRecDepth 1000000 in
theorem law_any (s0 s1 : Value) (FA : Option Addr) (nf fc : Nat) (IN BN : Nat → Nat) (Op : Nat → Nat → Int) (LN : Nat → Nat → Nat) (E : Nat → Nat → Nat → Int) (n : Int) (w : World) (hF : FunsAt w FA nf IN BN Op LN E) :
    Calls Tryz.prog 3 #[.agg #[s0, s1, .slice FA nf fc], .int .i64 n] w fun e w' => e = .returned (.bool true) ∧ Below w.heap.size w w' := by
  have hn := hF.n
  have hbox : ∀ w1, Below (w.alloc (.cells #[s0, s1, .slice FA nf fc] 26)).heap.size (w.alloc (.cells #[s0, s1, .slice FA nf fc] 26)) w1 →
      w1.cell? ⟨w.heap.size, 0, none⟩ = some s0 ∧ w1.cell? ⟨w.heap.size, 1, none⟩ = some s1 ∧ w1.cell? ⟨w.heap.size, 2, none⟩ = some (.slice FA nf fc) ∧ Below w.heap.size w w1 ∧ FunsAt w1 FA nf IN BN Op LN E := fun w1 hb => by
    have hb0 : Below w.heap.size w w1 := ((Below.refl _ _).alloc (Nat.le_refl _) _).trans (hb.mono (by simp))
    refine ⟨?_, ?_, ?_, hb0, hF.below hb0 (Nat.le_refl _)⟩
    · rw [hb.cell (show w.heap.size < _ by simp), World.cell?_alloc_at _ _ _ _ rfl]; rfl
    · rw [hb.cell (show w.heap.size < _ by simp), World.cell?_alloc_at _ _ _ _ rfl]; rfl
    · rw [hb.cell (show w.heap.size < _ by simp), World.cell?_alloc_at _ _ _ _ rfl]; rfl
  go_enter Tryz.func3, Tryz.ntmps3
  go_wp2_with (first
    | (go_at_call 4; (refine (awake_any _).mono ?_); rintro e w1 ⟨rfl, hb1⟩; obtain ⟨g0, g1, g2, hb0, hF1⟩ := hbox w1 hb1))
  · go_ret
    exact ⟨rfl, hb0⟩
  · have hn30 : nf ≤ 30 := by omega
    go_loopg [5] nf (fun g i wr => ∃ m : Nat, m ≤ nf ∧ g = nf - m ∧ i = .int .i64 m ∧ wr = w1 ∧ Hid (∀ j, j < m → IN j ≤ 600 ∧ BN j ≤ 60 ∧ ∀ b, b < BN j → LN j b ≤ 100))
    case atStart => exact ⟨0, Nat.zero_le _, rfl, rfl, rfl, fun j hj => absurd hj (Nat.not_lt_zero _)⟩
    case round =>
      obtain ⟨m, hm, rfl, rfl, rfl, hbd⟩ := hrel
      rename World => wo
      by_cases hmn : m < nf
      · obtain ⟨FB, FO, c0, c1, c2, c3, IA, IC, BA, BC, h1, h2, h3, h4, h5, h6, h7, h8, h9, _⟩ := hF1.at' m hmn
        subst h1
        have hIm := hF1.inn m hmn
        have hBm := h8.n
        go_wp2
        · go_ret
          exact ⟨rfl, hb0⟩
        · have hIB : IN m ≤ 600 ∧ BN m ≤ 60 := ⟨by omega, by omega⟩
          go_loopg [6] (BN m) (fun g i wr => ∃ b : Nat, b ≤ BN m ∧ g = BN m - b ∧ i = .int .i64 b ∧ wr = wo ∧ Hid (∀ j, j < b → LN m j ≤ 100))
          case atStart => exact ⟨0, Nat.zero_le _, rfl, rfl, rfl, fun j hj => absurd hj (Nat.not_lt_zero _)⟩
          case round =>
            obtain ⟨b, hb, rfl, rfl, rfl, hbd2⟩ := hrel
            by_cases hbn : b < BN m
            · obtain ⟨BB, BO, LA, LC, hba, hc, hE, _⟩ := h8.at' b hbn
              subst hba
              have hLb := h8.ln b hbn
              go_wp2
              · go_ret
                exact ⟨rfl, hb0⟩
              · have hLb2 : LN m b ≤ 100 := by omega
                have hbd3 : Hid (∀ j, j < b + 1 → LN m j ≤ 100) := fun j hj => by
                  rcases Nat.lt_or_ge j b with h | h
                  · exact hbd2.out j h
                  · have : j = b := by omega
                    subst this; exact hLb2
                go_roundg (BN m - (b + 1))
                case measure => omega
                case rel => exact ⟨b + 1, by omega, rfl, by go_num, rfl, hbd3⟩
            · have hbd3 : Hid (∀ j, j < m + 1 → IN j ≤ 600 ∧ BN j ≤ 60 ∧ ∀ b, b < BN j → LN j b ≤ 100) := fun j hj => by
                rcases Nat.lt_or_ge j m with h | h
                · exact hbd.out j h
                · have : j = m := by omega
                  subst this
                  exact ⟨hIB.1, hIB.2, fun s hs => hbd2.out s (by omega)⟩
              go_wp2
              go_roundg (nf - (m + 1))
              case measure => omega
              case rel => exact ⟨m + 1, by omega, rfl, by go_num, rfl, hbd3⟩
        · go_ret
          exact ⟨rfl, hb0⟩
      · have hme : m = nf := by omega
        subst hme
        have hin : ∀ i, i < m → IN i ≤ 600 := fun i hi => (hbd.out i hi).1
        have hBN : ∀ i, i < m → BN i ≤ 60 := fun i hi => (hbd.out i hi).2.1
        have hLN : ∀ i, i < m → ∀ b, b < BN i → LN i b ≤ 100 := fun i hi => (hbd.out i hi).2.2
        have hlow := lower_any s0 s1 FA m fc IN BN Op LN E wo hF1 hn30 hin hBN hLN
        have href : ∀ w2, Below wo.heap.size wo w2 → Calls Tryz.prog 6 #[.agg #[s0, s1, .slice FA m fc]] w2 fun e w' => ∃ v, e = .returned v ∧ w'.ownsRow (w2.heap.size + 1) 41 2 v (all2 IN BN Op LN E m).length (cellsOf (all2 IN BN Op LN E m)) ∧ Below w2.heap.size w2 w' :=
          fun w2 h2 => ref_any s0 s1 FA m fc IN BN Op LN E w2 (hF1.below h2 (Nat.le_refl _)) hn30 hin
        have hlenL := all2_length (BN := BN) (Op := Op) (LN := LN) (E := E) hin m (Nat.le_refl _)
        rw [all_eq] at hlow
        obtain ⟨L, hL⟩ : ∃ L, L = all2 IN BN Op LN E m := ⟨_, rfl⟩
        rw [← hL] at hlow href hlenL
        clear hbd hin hBN hLN hF hF1 hL
        go_wp2_with (first
          | (go_at_call 5; (refine hlow.mono ?_); rintro e w2 ⟨v5, rfl, hown5, hb5⟩; obtain ⟨a5, k5, rfl⟩ := own_shape hown5; have f0 := below_tr hb5 g0; have f1 := below_tr hb5 g1; have f2 := below_tr hb5 g2)
          | (go_at_call 6; (refine (href w2 hb5).mono ?_); rintro e w3 ⟨v6, rfl, hown6, hb6⟩; obtain ⟨a6, k6, rfl⟩ := own_shape hown6)
          | (go_at_call 7; refine (bound7 n _).mono ?_; rintro e w4 ⟨rfl, h4⟩; obtain rfl := h4.symm)
          | (go_at_call 8; refine (bound8 n _).mono ?_; rintro e w4 ⟨rfl, h4⟩; obtain rfl := h4.symm))
        have hz0 := hb0.size
        have hz5 := hb5.size
        have hz6 := hb6.size
        have hrow5 := ownsRow_below hown5 hb6 (Nat.le_refl _)
        have hbel3 : Below w.heap.size w w3 := (hb0.trans (hb5.mono (by omega))).trans (hb6.mono (by omega))
        clear hown5 hb5 hb6 f0 f1 f2 g0 g1 g2 hlow href hbox
        go_loopg [9] L.length (fun g i wy => ∃ k : Nat, k ≤ L.length ∧ g = L.length - k ∧ i = .int .i64 k ∧ wy.ownsRow (wo.heap.size + 1) 41 2 (.slice a5 L.length k5) L.length (cellsOf L) ∧
            wy.ownsRow (w2.heap.size + 1) 41 2 (.slice a6 L.length k6) L.length (cellsOf L) ∧ Below w.heap.size w wy)
        case atStart => exact ⟨0, Nat.zero_le _, rfl, rfl, hrow5, hown6, hbel3⟩
        case round =>
          rename World => wy
          obtain ⟨k, hk, rfl, rfl, hr5, hr6, hbelY⟩ := hrel
          clear hrow5 hown6 hbel3
          by_cases hkl : k < L.length
          · obtain ⟨x, hx⟩ : ∃ x, x = L[k].1 := ⟨_, rfl⟩
            obtain ⟨y, hy⟩ : ∃ y, y = L[k].2 := ⟨_, rfl⟩
            have hc := cellsOf_at hkl
            rw [← hx, ← hy] at hc
            clear hx hy
            have at5 : ∃ g5, a5 = some ⟨g5, 0, none⟩ ∧ wy.cell? ⟨g5, k * 2, none⟩ = some (.int .i64 x) ∧ wy.cell? ⟨g5, k * 2 + 1, none⟩ = some (.int .i64 y) := by
              have hq := hr5
              rcases hq.2 with ⟨hnil, h0⟩ | ⟨g, cap', cur, hv, _⟩
              · omega
              · injection hv with hv1 _ hv3
                subst hv1
                exact ⟨g, rfl, by rw [hr5.cellAt _ (by omega)]; exact hc.1, by rw [hr5.cellAt _ (by omega)]; exact hc.2⟩
            have at6 : ∃ g6, a6 = some ⟨g6, 0, none⟩ ∧ wy.cell? ⟨g6, k * 2, none⟩ = some (.int .i64 x) ∧ wy.cell? ⟨g6, k * 2 + 1, none⟩ = some (.int .i64 y) := by
              have hq := hr6
              rcases hq.2 with ⟨hnil, h0⟩ | ⟨g, cap', cur, hv, _⟩
              · omega
              · injection hv with hv1 _ hv3
                subst hv1
                exact ⟨g, rfl, by rw [hr6.cellAt _ (by omega)]; exact hc.1, by rw [hr6.cellAt _ (by omega)]; exact hc.2⟩
            obtain ⟨g5, rfl, u1, u2⟩ := at5
            obtain ⟨g6, rfl, v1, v2⟩ := at6
            clear hc
            go_wp2
            go_quiet (fail)
            go_wp2
            go_roundg (L.length - (k + 1))
            case measure => omega
            case rel => exact ⟨k + 1, by omega, rfl, by go_num, hr5, hr6, below_drewN hbelY _⟩
          · go_wp2
            go_ret
            exact ⟨rfl, hbelY⟩
end Go.Proofs.YtaceaifoajkgaaaGreatDoor
