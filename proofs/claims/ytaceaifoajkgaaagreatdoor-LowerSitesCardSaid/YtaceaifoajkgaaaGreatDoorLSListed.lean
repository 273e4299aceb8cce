/- truantref08.Listed: whether a block of a function names a place. -/
import Derived.Test.YtaceaifoajkgaaaGreatDoorProg
import Derived.Test.YtaceaifoajkgaaaGreatDoorLSPlain
import Derived.WalkKit
import Derived.Deep.LoopGhost
import Derived.Deep.Light
namespace Go.Proofs.YtaceaifoajkgaaaGreatDoor
open Go.RowKit Go.Sites

/-- what is known of a function's blocks in memory -/
structure BlocksAt (w : World) (BA : Option Addr) (bn : Nat) (LN : Nat → Nat) (E : Nat → Nat → Int) : Prop where
  n : bn ≤ 9223372036854775807
  ln : ∀ b, b < bn → LN b ≤ 9223372036854775807
  at' : ∀ b, b < bn → ∃ BB BO LA LC, BA = some ⟨BB, BO, none⟩ ∧ w.cell? ⟨BB, BO + b * 5, none⟩ = some (.slice LA (LN b) LC) ∧
    (∀ t, t < LN b → ∃ LB LO, LA = some ⟨LB, LO, none⟩ ∧ w.cell? ⟨LB, LO + t, none⟩ = some (.int .i64 (E b t))) ∧
    ∃ j1 j2 j3 j4, w.cell? ⟨BB, BO + b * 5 + 1, none⟩ = some (.int .i64 j1) ∧ w.cell? ⟨BB, BO + b * 5 + 2, none⟩ = some (.int .i64 j2) ∧ w.cell? ⟨BB, BO + b * 5 + 3, none⟩ = some (.int .i64 j3) ∧
      w.cell? ⟨BB, BO + b * 5 + 4, none⟩ = some (.int .i64 j4)

theorem listed_no {bn : Nat} {LN : Nat → Nat} {E : Nat → Nat → Int} {k : Int} (h : ∀ b, b < bn → ∀ t, t < LN b → E b t ≠ k) : listed bn LN E k = false := by
  cases hl : listed bn LN E k with
  | false => rfl
  | true =>
    obtain ⟨j, hj, t, ht, e⟩ := listed_iff.1 hl
    exact absurd e (h j hj t ht)

set_option maxHeartbeats 1600000 in
set_option maxRecDepth 1000000 in
theorem listed_any (c0 c1 c2 c3 c4 : Value) (BA : Option Addr) (bn bc : Nat) (LN : Nat → Nat) (E : Nat → Nat → Int) (k : Int) (w : World) (hB : BlocksAt w BA bn LN E) :
    Calls Tryz.prog 14 #[.agg #[c0, c1, c2, c3, c4, .slice BA bn bc], .int .i64 k] w fun e w' => e = .returned (.bool (listed bn LN E k)) ∧ Below w.heap.size w w' := by
  have hbn := hB.n
  go_enter Tryz.func14, Tryz.ntmps14
  go_wp2
  go_loopg [5] bn (fun g i wr => ∃ b : Nat, b ≤ bn ∧ g = bn - b ∧ i = .int .i64 b ∧ wr = w.alloc (.cells #[c0, c1, c2, c3, c4, .slice BA bn bc] 32) ∧ Hid (∀ j, j < b → ∀ t, t < LN j → E j t ≠ k))
  case atStart => exact ⟨0, Nat.zero_le _, rfl, rfl, rfl, fun j hj => absurd hj (Nat.not_lt_zero _)⟩
  case round =>
    obtain ⟨b, hb, rfl, rfl, rfl, hno⟩ := hrel
    go_wp2
    · have hlt : b < bn := by assumption
      obtain ⟨BB, BO, LA, LC, hba, hc, hE, _⟩ := hB.at' b hlt
      subst hba
      have hlb := hB.ln b hlt
      have hbb : BB < w.heap.size := World.block_lt_of_cell? _ _ hc
      have g0 : ∀ o, (w.alloc o).cell? ⟨BB, BO + b * 5, none⟩ = some (.slice LA (LN b) LC) := fun o => by
        rw [World.cell?_alloc_past _ _ _ hbb]; exact hc
      go_loopg [6] (LN b) (fun g i wr => ∃ t : Nat, t ≤ LN b ∧ g = LN b - t ∧ i = .int .i64 t ∧ wr = w.alloc (.cells #[c0, c1, c2, c3, c4, .slice (some ⟨BB, BO, none⟩) bn bc] 32) ∧ Hid (∀ s, s < t → E b s ≠ k))
      case atStart => exact ⟨0, Nat.zero_le _, rfl, rfl, rfl, fun j hj => absurd hj (Nat.not_lt_zero _)⟩
      case round =>
        obtain ⟨t, ht, rfl, rfl, rfl, hno2⟩ := hrel
        by_cases htl : t < LN b
        · obtain ⟨LB, LO, hla, hc2⟩ := hE t htl
          subst hla
          have hlb2 : LB < w.heap.size := World.block_lt_of_cell? _ _ hc2
          have g1 : ∀ o, (w.alloc o).cell? ⟨LB, LO + t, none⟩ = some (.int .i64 (E b t)) := fun o => by
            rw [World.cell?_alloc_past _ _ _ hlb2]; exact hc2
          go_wp2
          · have he : (E b t == k) = true := by assumption
            have hl : listed bn LN E k = true := listed_iff.2 ⟨b, hlt, t, htl, by simpa using he⟩
            rw [hl]
            go_ret
            exact ⟨rfl, (Below.refl _ _).alloc (Nat.le_refl _) _⟩
          · have he : (E b t == k) = false := by assumption
            have hno3 : Hid (∀ s, s < t + 1 → E b s ≠ k) := fun s hs => by
              rcases Nat.lt_or_ge s t with h | h
              · exact hno2.out s h
              · have : s = t := by omega
                subst this; simpa using he
            go_roundg (LN b - (t + 1))
            case measure => omega
            case rel => exact ⟨t + 1, by omega, rfl, by go_num, rfl, hno3⟩
        · have hno3 : Hid (∀ j, j < b + 1 → ∀ t, t < LN j → E j t ≠ k) := fun j hj => by
            rcases Nat.lt_or_ge j b with h | h
            · exact hno.out j h
            · have : j = b := by omega
              subst this
              exact fun s hs => hno2.out s (by omega)
          go_wp2
          go_roundg (bn - (b + 1))
          case measure => omega
          case rel => exact ⟨b + 1, by omega, rfl, by go_num, rfl, hno3⟩
    · have hge : ¬ b < bn := by assumption
      have : listed bn LN E k = false := listed_no fun j hj => hno.out j (by omega)
      rw [this]
      go_ret
      exact ⟨rfl, (Below.refl _ _).alloc (Nat.le_refl _) _⟩

end Go.Proofs.YtaceaifoajkgaaaGreatDoor
