/- Functions of the program taken whole: maps.clone, slices.AppendSeq over maps.Keys, strings.Join; the tables fit with them. -/
import Derived.Test.YtkkohgaaemgojaaGreatDoorCSAppN
import Derived.Test.YtkkohgaaemgojaaGreatDoorAEe
import Derived.Test.YtkkohgaaemgojaaGreatDoorFitF
import Derived.Test.YtkkohgaaemgojaaGreatDoorLay
namespace Go.Proofs.YtkkohgaaemgojaaGreatDoor
open Go Go.AE Go.Proofs Go.RowKit
set_option maxRecDepth 100000

theorem builderX : Builder.Extra Tryz.prog Tryz.laysJoin_ren :=
  { sizeBuilder := by kernel_rfl, liesBuilder := by kernel_rfl, t5 := Tryz.underlying5, a5 := Tryz.isAgg5, z5 := Tryz.sizeOf5, v5 := Tryz.zeroValue5, infoByte := by kernel_rfl, cellsByte := by kernel_rfl, sizeByte := by kernel_rfl, neB5 := by decide }

theorem fits : G.Fits3 Tryz.prog := tabs_fits tyF fnF info_of tyK fnK mixK

def noKey (_ : Value) : Bool := false
def nodeKey (v : Value) : Bool := match v with
  | .agg cs => (match cs.toList with | [.int .i64 _, .int .i64 _, .string _] => true | _ => false)
  | _ => false
theorem nodeKey_inv {v : Value} (h : nodeKey v = true) : ∃ a b s, v = .agg #[.int .i64 a, .int .i64 b, .string s] := by
  unfold nodeKey at h
  split at h
  · rename_i cs
    split at h
    · rename_i a b s heq
      exact ⟨a, b, s, by rw [← Array.toArray_toList (xs := cs), heq]⟩
    · cases h
  · cases h

def all0 : Fence := { fn := fun _ => True }
theorem all0_room (k : Nat) : all0.room k := fun d h => by cases h

noncomputable def sp0 (f : FuncId) : Option (List Value → Hp → Option (Value × Hp)) :=
  bif Nat.beq f 284 then some specClone else
  bif Nat.beq f 361 then some (specKeys 288 3 1 noKey) else
  bif Nat.beq f 427 then some (specKeys 428 232 3 nodeKey) else
  bif Nat.beq f 481 then some (specKeys 456 449 7 noKey) else
  bif Nat.beq f 22 then some specJoin else none

theorem bif_spec {α : Type} {b : Bool} {x y : Option α} {s : α} (h : (bif b then x else y) = some s) : (b = true ∧ x = some s) ∨ (b = false ∧ y = some s) := by
  cases b
  · exact .inr ⟨rfl, h⟩
  · exact .inl ⟨rfl, h⟩

theorem sp0_ok : ∀ f s args h v h', sp0 f = some s → s args h = some (v, h') → h.next ≤ h'.next ∧ ∀ B, h'.next ≤ B → UponOK Tryz.prog B f args h (.ret v) h' := by
  intro f s args h v h' hf hs
  unfold sp0 at hf
  rcases bif_spec hf with ⟨hb, hf⟩ | ⟨_, hf⟩
  · have := Nat.eq_of_beq_eq_true hb; subst this
    injection hf with hf; subst hf
    refine clone_upon (fun args w v w' hr => ?_) hs
    rw [run_callFunc_extern Tryz.func284 (by kernel_rfl) (by kernel_rfl) (by kernel_rfl) (e := Extern.MapsClone.clone) (by kernel_rfl), hr]
    rfl
  rcases bif_spec hf with ⟨hb, hf⟩ | ⟨_, hf⟩
  · have := Nat.eq_of_beq_eq_true hb; subst this
    injection hf with hf; subst hf
    refine keys_upon Tryz.call361 (by decide) (fun _ _ _ hk => by cases hk) (fun ad mb w h1 h2 h3 => (appendZeroI all0 2 trivial trivial rfl (Nat.le_refl _) ad mb w h1 h2 h3).calls all0_room) (fun _ _ _ _ _ hk => by cases hk) hs
  rcases bif_spec hf with ⟨hb, hf⟩ | ⟨_, hf⟩
  · have := Nat.eq_of_beq_eq_true hb; subst this
    injection hf with hf; subst hf
    refine keys_upon Tryz.call427 (by decide) (fun M k k' hk hv => ?_) (fun ad mb w h1 h2 h3 => (appendZeroN all0 2 trivial trivial rfl (Nat.le_refl _) ad mb w h1 h2 h3).calls all0_room) (fun ad m cl e w hk h1 h2 h3 h4 => ?_) hs
    · obtain ⟨a, b, s, rfl⟩ := nodeKey_inv hk
      have h0 : VR M (.agg #[.int .i64 a, .int .i64 b, .string s]) (.agg #[.int .i64 a, .int .i64 b, .string s]) := plainC_VR (by rfl)
      refine ⟨?_, by rfl, by rfl⟩
      obtain ⟨ds, rfl, hl, _⟩ := hv.agg_list
      have := scalars_args (l := [.int .i64 a, .int .i64 b, .string s]) (by rfl) hl
      rw [← Array.toArray_toList (xs := ds), this]
    · obtain ⟨a, b, s, hk⟩ := nodeKey_inv hk
      have := (appendOneN all0 2 trivial trivial rfl (Nat.le_refl _) ad m cl a b s e hk w h1 h2 h3 h4).calls all0_room
      rw [hk]
      exact this
  rcases bif_spec hf with ⟨hb, hf⟩ | ⟨_, hf⟩
  · have := Nat.eq_of_beq_eq_true hb; subst this
    injection hf with hf; subst hf
    refine keys_upon Tryz.call481 (by decide) (fun _ _ _ hk => by cases hk) (fun ad mb w h1 h2 h3 => (appendZeroE all0 2 trivial trivial rfl (Nat.le_refl _) ad mb w h1 h2 h3).calls all0_room) (fun _ _ _ _ _ hk => by cases hk) hs
  rcases bif_spec hf with ⟨hb, hf⟩ | ⟨_, hf⟩
  · have := Nat.eq_of_beq_eq_true hb; subst this
    injection hf with hf; subst hf
    exact join_upon Tryz.call22 (fun bk o c xs sep w h1 h2 h3 h4 h5 => Any.strings_Join Tryz.laysJoin builderX bk o c xs sep w h1 h2 h3 h4 h5) hs
  · cases hf

noncomputable def G0 : Tabs := withSpec G sp0
theorem fits0 : G0.Fits3 Tryz.prog := withSpec_fits fits sp0_ok
#print axioms fits0
end Go.Proofs.YtkkohgaaemgojaaGreatDoor
