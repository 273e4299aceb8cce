/- lower.Sites: the sites that the program's own function answers, in a slice of the call's own. -/
import Derived.Test.YtaceaifoajkgaaaGreatDoorLSSort
namespace Go.Proofs.YtaceaifoajkgaaaGreatDoor
open Go.RowKit Go.Sites

theorem infoI : (Tryz.prog.info? 3).map (fun i => (i.zero, i.size, i.bytes)) = some (some (.int .i64 0), 1, 8) := by kernel_rfl

def places (n : Nat) (op : Nat → Int) (ln : Nat → Nat) (e : Nat → Nat → Int) (b t : Nat) : List Int := placesB n op ln e b ++ placesT n op (e b) t
theorem places_zero (n : Nat) (op : Nat → Int) (ln : Nat → Nat) (e : Nat → Nat → Int) (b : Nat) : places n op ln e b 0 = placesB n op ln e b := by simp [places, placesT]
theorem places_done (n : Nat) (op : Nat → Int) (ln : Nat → Nat) (e : Nat → Nat → Int) (b : Nat) : places n op ln e b (ln b) = placesB n op ln e (b + 1) := by rw [placesB_succ]; rfl
theorem places_yes {n : Nat} {op : Nat → Int} {ln : Nat → Nat} {e : Nat → Nat → Int} {b t : Nat} (h : good n op (e b t) = true) : places n op ln e b (t + 1) = places n op ln e b t ++ [e b t] := by
  unfold places; rw [placesT_succ, h]; simp
theorem places_no {n : Nat} {op : Nat → Int} {ln : Nat → Nat} {e : Nat → Nat → Int} {b t : Nat} (h : good n op (e b t) = false) : places n op ln e b (t + 1) = places n op ln e b t := by
  unfold places; rw [placesT_succ, h]; simp
theorem placesT_length (n : Nat) (op row : Nat → Int) (t : Nat) : (placesT n op row t).length ≤ t := by
  unfold placesT
  exact Nat.le_trans (List.length_filter_le _ _) (by simp)
theorem placesB_length {n : Nat} {op : Nat → Int} {ln : Nat → Nat} {e : Nat → Nat → Int} {bn : Nat} (h : ∀ j, j < bn → ln j ≤ 100) : ∀ b, b ≤ bn → (placesB n op ln e b).length ≤ b * 100 := by
  intro b
  induction b with
  | zero => intro _; simp [placesB]
  | succ b ih =>
    intro hb
    rw [placesB_succ, List.length_append]
    have h1 := ih (by omega)
    have h2 := placesT_length n op (e b) (ln b)
    have h3 := h b (by omega)
    omega
theorem places_length {n : Nat} {op : Nat → Int} {ln : Nat → Nat} {e : Nat → Nat → Int} {bn : Nat} (h : ∀ j, j < bn → ln j ≤ 100) {b t : Nat} (hb : b < bn) (ht : t ≤ ln b) : (places n op ln e b t).length ≤ b * 100 + 100 := by
  unfold places
  rw [List.length_append]
  have h1 := placesB_length (n := n) (op := op) (e := e) h b (by omega)
  have h2 := placesT_length n op (e b) t
  have h3 := h b hb
  omega
theorem sites1_length (n : Nat) (op : Nat → Int) (bn : Nat) (ln : Nat → Nat) (e : Nat → Nat → Int) : (sites1 n op bn ln e).length ≤ n := by
  rw [sites_eq]; exact sites2_length _ _ _ _ _ _

/-- of the first m functions, and of the next one's sites the first j -/
def all1p (IN BN : Nat → Nat) (Op : Nat → Nat → Int) (LN : Nat → Nat → Nat) (E : Nat → Nat → Nat → Int) (m j : Nat) : List (Int × Int) :=
  all1 IN BN Op LN E m ++ ((sites1 (IN m) (Op m) (BN m) (LN m) (E m)).take j).map fun x => ((m : Int), x)
theorem all1p_zero (IN BN : Nat → Nat) (Op : Nat → Nat → Int) (LN : Nat → Nat → Nat) (E : Nat → Nat → Nat → Int) (m : Nat) : all1p IN BN Op LN E m 0 = all1 IN BN Op LN E m := by simp [all1p]
theorem all1p_done {IN BN : Nat → Nat} {Op : Nat → Nat → Int} {LN : Nat → Nat → Nat} {E : Nat → Nat → Nat → Int} {m j : Nat} (h : (sites1 (IN m) (Op m) (BN m) (LN m) (E m)).length ≤ j) : all1p IN BN Op LN E m j = all1 IN BN Op LN E (m + 1) := by
  unfold all1p; rw [all1_succ, List.take_of_length_le h]
theorem all1p_succ {IN BN : Nat → Nat} {Op : Nat → Nat → Int} {LN : Nat → Nat → Nat} {E : Nat → Nat → Nat → Int} {m j : Nat} (h : j < (sites1 (IN m) (Op m) (BN m) (LN m) (E m)).length) :
    all1p IN BN Op LN E m (j + 1) = all1p IN BN Op LN E m j ++ [((m : Int), (sites1 (IN m) (Op m) (BN m) (LN m) (E m))[j])] := by
  unfold all1p
  rw [List.take_succ_eq_append_getElem h, List.map_append, List.append_assoc]; rfl
theorem all1_length {nf : Nat} {IN BN : Nat → Nat} {Op : Nat → Nat → Int} {LN : Nat → Nat → Nat} {E : Nat → Nat → Nat → Int} (h : ∀ i, i < nf → IN i ≤ 600) (m : Nat) (hm : m ≤ nf) : (all1 IN BN Op LN E m).length ≤ m * 600 := by
  rw [all_eq]; exact all2_length h m hm
theorem all1p_length {nf : Nat} {IN BN : Nat → Nat} {Op : Nat → Nat → Int} {LN : Nat → Nat → Nat} {E : Nat → Nat → Nat → Int} (h : ∀ i, i < nf → IN i ≤ 600) {m : Nat} (hm : m < nf) (j : Nat) : (all1p IN BN Op LN E m j).length ≤ m * 600 + 600 := by
  unfold all1p
  rw [List.length_append, List.length_map]
  have h1 := all1_length (BN := BN) (Op := Op) (LN := LN) (E := E) h m (by omega)
  have h2 := sites1_length (IN m) (Op m) (BN m) (LN m) (E m)
  have h3 := h m hm
  have h4 : ((sites1 (IN m) (Op m) (BN m) (LN m) (E m)).take j).length ≤ (sites1 (IN m) (Op m) (BN m) (LN m) (E m)).length := by rw [List.length_take]; exact Nat.min_le_right _ _
  omega

theorem below_tr {w w' : World} (hb : Below w.heap.size w w') {a : Addr} {v : Value} (hv : w.cell? a = some v) : w'.cell? a = some v := by
  rw [hb.cell (World.block_lt_of_cell? _ _ hv)]; exact hv
theorem cell_one_new (w : World) (a : Value) (t : TypeId) : ∀ j u, [a][j]? = some u → (w.alloc (.cells #[a] t)).cell? ((⟨w.heap.size, 0, none⟩ : Addr).add j) = some u := by
  intro j u hj
  match j, hj with
  | 0, hj => simp at hj; subst hj; simp [Addr.add]
theorem good_no_low {n : Nat} {op : Nat → Int} {x : Int} (h : ¬ 0 ≤ x) : good n op x = false := by simp [good, h]
theorem good_no_high {n : Nat} {op : Nat → Int} {x : Int} (h : ¬ x < (n : Int)) : good n op x = false := by simp [good, h]
theorem good_at {n : Nat} {op : Nat → Int} {x : Int} (h : 0 ≤ x) (h' : x < (n : Int)) : good n op x = (op x.toNat == 24) := by simp [good, h, h']

set_option maxHeartbeats 12800000 in
set_option maxRecDepth 1000000 in
theorem lower_any (s0 s1 : Value) (FA : Option Addr) (nf fc : Nat) (IN BN : Nat → Nat) (Op : Nat → Nat → Int) (LN : Nat → Nat → Nat) (E : Nat → Nat → Nat → Int) (w : World) (hF : FunsAt w FA nf IN BN Op LN E) (hn : nf ≤ 30) (hinn : ∀ i, i < nf → IN i ≤ 600)
    (hBN : ∀ i, i < nf → BN i ≤ 60) (hLN : ∀ i, i < nf → ∀ b, b < BN i → LN i b ≤ 100) :
    Calls Tryz.prog 5 #[.agg #[s0, s1, .slice FA nf fc]] w fun e w' => ∃ v, e = .returned v ∧ w'.ownsRow (w.heap.size + 1) 41 2 v (all1 IN BN Op LN E nf).length (cellsOf (all1 IN BN Op LN E nf)) ∧ Below w.heap.size w w' := by
  obtain ⟨i0, hi, hz0, hz1, hz2⟩ := info_parts infoS
  obtain ⟨j0, hj, hy0, hy1, hy2⟩ := info_parts infoI
  have hbox : ∀ wr, Below (w.heap.size + 1) (w.alloc (.cells #[s0, s1, .slice FA nf fc] 26)) wr → Below w.heap.size w wr := fun wr hb => by
    exact ((Below.refl _ _).alloc (Nat.le_refl _) _).trans (hb.mono (by omega))
  go_enter Tryz.func5, Tryz.ntmps5
  go_wp2
  go_loopg [16, 3] nf (fun g i v wr => ∃ m : Nat, m ≤ nf ∧ g = nf - m ∧ i = .int .i64 m ∧ wr.ownsRow (w.heap.size + 1) 41 2 v (all1 IN BN Op LN E m).length (cellsOf (all1 IN BN Op LN E m)) ∧
      Below (w.heap.size + 1) (w.alloc (.cells #[s0, s1, .slice FA nf fc] 26)) wr)
  case atStart => exact ⟨0, Nat.zero_le _, rfl, rfl, by simpa [all1, cellsOf] using World.ownsRow_nil (w.alloc (.cells #[s0, s1, .slice FA nf fc] 26)) (w.heap.size + 1) 41 2, Below.refl _ _⟩
  case round =>
    obtain ⟨m, hm, rfl, rfl, hown, hbel⟩ := hrel
    by_cases hmn : m < nf
    · obtain ⟨FB, FO, c0, c1, c2, c3, IA, IC, BA, BC, h1, h2, h3, h4, h5, h6, h7, h8, h9, ⟨n0, rfl⟩, ⟨p0, p1, p2, rfl⟩, ⟨r0, rfl⟩, ⟨q0, q1, q2, rfl⟩⟩ := (hF.below (hbox _ hbel) (Nat.le_refl _)).at' m hmn
      subst h1
      rename World => wo
      have hBm := hBN m hmn
      have hLm := hLN m hmn
      have hIm := hinn m hmn
      go_wp2
      go_loopg [24, 6] (BN m) (fun g i v wi => ∃ b : Nat, b ≤ BN m ∧ g = BN m - b ∧ i = .int .i64 b ∧ wi.ownsRow (wo.heap.size + 1) 3 1 v (placesB (IN m) (Op m) (LN m) (E m) b).length ((placesB (IN m) (Op m) (LN m) (E m) b).map (Value.int .i64)) ∧
          Below (wo.heap.size + 1) (wo.alloc (.cells #[.string n0, .slice p0 p1 p2, .string r0, .slice q0 q1 q2, .slice IA (IN m) IC, .slice BA (BN m) BC] 32)) wi)
      case atStart => exact ⟨0, Nat.zero_le _, rfl, rfl, by simpa [placesB] using World.ownsRow_nil _ (wo.heap.size + 1) 3 1, Below.refl _ _⟩
      case round =>
        rename World => wi
        obtain ⟨b, hb, rfl, rfl, hown2, hbel2⟩ := hrel
        have hbo : Below wo.heap.size wo wi := ((Below.refl _ _).alloc (Nat.le_refl _) _).trans (hbel2.mono (by omega))
        by_cases hbn : b < BN m
        · obtain ⟨BB, BO, LA, LC, hba, hc, hE, j1, j2, j3, j4, k1, k2, k3, k4⟩ := h8.at' b hbn
          subst hba
          have hLb := hLm b hbn
          have i0' := below_tr hbo hc
          have i1' := below_tr hbo k1
          have i2' := below_tr hbo k2
          have i3' := below_tr hbo k3
          have i4' := below_tr hbo k4
          go_wp2
          clear i0' i1' i2' i3' i4'
          go_loopg [31, 6] (LN m b) (fun g i v wx => ∃ t : Nat, t ≤ LN m b ∧ g = LN m b - t ∧ i = .int .i64 t ∧
              wx.ownsRow (wo.heap.size + 1) 3 1 v (places (IN m) (Op m) (LN m) (E m) b t).length ((places (IN m) (Op m) (LN m) (E m) b t).map (Value.int .i64)) ∧
              Below (wo.heap.size + 1) (wo.alloc (.cells #[.string n0, .slice p0 p1 p2, .string r0, .slice q0 q1 q2, .slice IA (IN m) IC, .slice (some ⟨BB, BO, none⟩) (BN m) BC] 32)) wx)
          case atStart =>
            have hz := hbel2.size
            rw [World.size_alloc] at hz
            exact ⟨0, Nat.zero_le _, rfl, rfl, by rw [places_zero]; exact hown2.alloc _, hbel2.alloc (by omega) _⟩
          case round =>
            rename World => wx
            obtain ⟨t, ht, rfl, rfl, hown3, hbel3⟩ := hrel
            have hbx : Below wo.heap.size wo wx := ((Below.refl _ _).alloc (Nat.le_refl _) _).trans (hbel3.mono (by omega))
            have hzx := hbel3.size
            rw [World.size_alloc] at hzx
            have g4 : wx.cell? ⟨wo.heap.size, 4, none⟩ = some (.slice IA (IN m) IC) := by
              rw [hbel3.cell (show wo.heap.size < wo.heap.size + 1 by omega), World.cell?_alloc_at _ _ _ _ rfl]; rfl
            by_cases htl : t < LN m b
            · obtain ⟨LB, LO, hla, hce⟩ := hE t htl
              subst hla
              have g5 := below_tr hbx hce
              have hlen := places_length (n := IN m) (op := Op m) (e := E m) hLm hbn ht
              by_cases hx0 : 0 ≤ E m b t
              · by_cases hx1 : E m b t < (IN m : Int)
                · obtain ⟨IB, IQ, hia, hop⟩ := h9 (E m b t).toNat (by omega)
                  subst hia
                  have g6 := below_tr hbx hop
                  cases ho : (Op m (E m b t).toNat == 24) with
                  | false =>
                    have hno := places_no (n := IN m) (op := Op m) (ln := LN m) (e := E m) (b := b) (t := t) (by rw [good_at hx0 hx1]; exact ho)
                    go_wp2
                    go_roundg (LN m b - (t + 1))
                    case measure => omega
                    case rel => exact ⟨t + 1, by omega, rfl, by go_num, by rw [hno]; exact hown3, hbel3⟩
                  | true =>
                    have hyes := places_yes (n := IN m) (op := Op m) (ln := LN m) (e := E m) (b := b) (t := t) (by rw [good_at hx0 hx1]; exact ho)
                    go_wp2_with (first
                      | (at_builtin; (refine wpList_append_own _ rfl (.tmp 53) (.tmp 55) 33 rfl (wo.heap.size + 1) 3 j0 (.int .i64 0) 1 8 Tryz.underlying33 hj hy0 hy1 hy2 rfl (by decide) _ _ _ rfl (hown3.alloc _) ⟨wx.heap.size, 0, none⟩ 1 1 [.int .i64 (E m b t)] rfl rfl (cell_one_new wx _ _) (by intro u hu; simp at hu; subst hu; rfl) (by unfold maxLen; omega) (by omega) (by simp; omega) ?_); intro v' w3 hown4 hgrow4 _))
                    have hs2 := hgrow4.size
                    rw [World.size_alloc] at hs2
                    have hfin : w3.ownsRow (wo.heap.size + 1) 3 1 v' (places (IN m) (Op m) (LN m) (E m) b (t + 1)).length ((places (IN m) (Op m) (LN m) (E m) b (t + 1)).map (Value.int .i64)) := by
                      rw [hyes, List.length_append, List.map_append]; exact hown4
                    have hbel4 : Below (wo.heap.size + 1) (wo.alloc (.cells #[.string n0, .slice p0 p1 p2, .string r0, .slice q0 q1 q2, .slice (some ⟨IB, IQ, none⟩) (IN m) IC, .slice (some ⟨BB, BO, none⟩) (BN m) BC] 32)) w3 := by
                      refine (hbel3.alloc (by omega) _).grown hgrow4 (by simp; omega) (fun j hj => ?_)
                      exact (hown3.lt j hj).1
                    go_roundg (LN m b - (t + 1))
                    case measure => omega
                    case rel => exact ⟨t + 1, by omega, rfl, by go_num, hfin, hbel4⟩
                · have hno := places_no (n := IN m) (op := Op m) (ln := LN m) (e := E m) (b := b) (t := t) (good_no_high hx1)
                  go_wp2
                  go_roundg (LN m b - (t + 1))
                  case measure => omega
                  case rel => exact ⟨t + 1, by omega, rfl, by go_num, by rw [hno]; exact hown3, hbel3⟩
              · have hno := places_no (n := IN m) (op := Op m) (ln := LN m) (e := E m) (b := b) (t := t) (good_no_low hx0)
                go_wp2
                go_roundg (LN m b - (t + 1))
                case measure => omega
                case rel => exact ⟨t + 1, by omega, rfl, by go_num, by rw [hno]; exact hown3, hbel3⟩
            · have hte : t = LN m b := by omega
              subst hte
              rw [places_done] at hown3
              go_wp2
              go_roundg (BN m - (b + 1))
              case measure => omega
              case rel => exact ⟨b + 1, by omega, rfl, by go_num, hown3, hbel3⟩
        · have hbe : b = BN m := by omega
          subst hbe
          have hlen := placesB_length (n := IN m) (op := Op m) (e := E m) hLm (BN m) (Nat.le_refl _)
          have hl2 : ((placesB (IN m) (Op m) (LN m) (E m) (BN m)).mergeSort fun x y => decide (x ≤ y)).length = (placesB (IN m) (Op m) (LN m) (E m) (BN m)).length := List.length_mergeSort _
          have hzi := hbel2.size
          rw [World.size_alloc] at hzi
          have hS : Lib.compact ((placesB (IN m) (Op m) (LN m) (E m) (BN m)).mergeSort fun x y => decide (x ≤ y)) = sites1 (IN m) (Op m) (BN m) (LN m) (E m) := rfl
          have hsort := sort_any hown2 (by omega) (by omega)
          go_wp2_with (first
            | (go_at_call 12; (refine hsort.mono ?_); rintro e w4 ⟨rfl, hown4, hb4⟩)
            | (go_at_call 13; (refine (compact_any hown4 (by omega)).mono ?_); rintro e w5 ⟨ca, ccap, rfl, hown5, hb5⟩; rw [hS] at hown5 ⊢))
          have hzo := hbel.size
          rw [World.size_alloc] at hzo
          have hbo5 : Below wo.heap.size wo w5 := (hbo.trans (hb4.mono (by omega))).trans (hb5.mono (by omega))
          have hout5 := ownsRow_below hown hbo5 (Nat.le_refl _)
          have hbel5 := hbel.trans (hbo5.mono (by omega))
          have hSl := sites1_length (IN m) (Op m) (BN m) (LN m) (E m)
          clear hsort hown4 hb4 hb5 hown2 hbel2 hbo hown hbel
          go_loopg [64, 3] (sites1 (IN m) (Op m) (BN m) (LN m) (E m)).length (fun g i v wy => ∃ j : Nat, j ≤ (sites1 (IN m) (Op m) (BN m) (LN m) (E m)).length ∧ g = (sites1 (IN m) (Op m) (BN m) (LN m) (E m)).length - j ∧ i = .int .i64 j ∧
              wy.ownsRow (w.heap.size + 1) 41 2 v (all1p IN BN Op LN E m j).length (cellsOf (all1p IN BN Op LN E m j)) ∧
              wy.ownsRow (wo.heap.size + 1) 3 1 (.slice ca (sites1 (IN m) (Op m) (BN m) (LN m) (E m)).length ccap) (sites1 (IN m) (Op m) (BN m) (LN m) (E m)).length ((sites1 (IN m) (Op m) (BN m) (LN m) (E m)).map (Value.int .i64)) ∧
              Below (w.heap.size + 1) (w.alloc (.cells #[s0, s1, .slice (some ⟨FB, FO, none⟩) nf fc] 26)) wy)
          case atStart => exact ⟨0, Nat.zero_le _, rfl, rfl, by rw [all1p_zero]; exact hout5, hown5, hbel5⟩
          case round =>
            rename World => wy
            obtain ⟨j, hj', rfl, rfl, hout, hrow, hbelY⟩ := hrel
            clear hout5 hown5 hbel5
            have hzy := hbelY.size
            rw [World.size_alloc] at hzy
            by_cases hjl : j < (sites1 (IN m) (Op m) (BN m) (LN m) (E m)).length
            · have hrow' := hrow
              rcases hrow'.2 with ⟨hnil, h0⟩ | ⟨g, cap', cur, hv, _⟩
              · omega
              · injection hv with hv1 _ hv3
                subst hv1
                clear hv3 hrow'
                have gj : wy.cell? ⟨g, j, none⟩ = some (.int .i64 (sites1 (IN m) (Op m) (BN m) (LN m) (E m))[j]) := by
                  rw [hrow.cellAt j (by omega)]
                  simp [hjl]
                have hlen2 := all1p_length (BN := BN) (Op := Op) (LN := LN) (E := E) hinn hmn j
                have hsucc := all1p_succ (IN := IN) (BN := BN) (Op := Op) (LN := LN) (E := E) (m := m) hjl
                obtain ⟨x, hx⟩ : ∃ x, x = (sites1 (IN m) (Op m) (BN m) (LN m) (E m))[j] := ⟨_, rfl⟩
                rw [← hx] at gj hsucc
                clear hx
                go_wp2_with (first
                  | (at_builtin; (refine wpList_append_own _ rfl (.tmp 68) (.tmp 72) 37 rfl (w.heap.size + 1) 41 i0 (.agg #[.int .i64 0, .int .i64 0]) 2 16 Tryz.underlying37 hi hz0 hz1 hz2 rfl (by decide) _ _ _ rfl (hout.alloc _) ⟨wy.heap.size, 0, none⟩ 1 1 [.int .i64 m, .int .i64 x] rfl rfl (cell_two_new wy _ _ _) (by intro u hu; simp at hu; rcases hu with rfl | rfl <;> rfl) (by unfold maxLen; omega) (by omega) (by simp; omega) ?_); intro v' w6 hout6 hgrow6 _))
                have hs6 := hgrow6.size
                rw [World.size_alloc] at hs6
                have hfin : w6.ownsRow (w.heap.size + 1) 41 2 v' (all1p IN BN Op LN E m (j + 1)).length (cellsOf (all1p IN BN Op LN E m (j + 1))) := by
                  rw [hsucc, List.length_append, cellsOf_append]; exact hout6
                have hrow6 := (hrow.alloc (.cells #[.int .i64 m, .int .i64 x] 41)).kept hgrow6 (rows_apart hrow hout (by decide))
                have hbel6 : Below (w.heap.size + 1) (w.alloc (.cells #[s0, s1, .slice (some ⟨FB, FO, none⟩) nf fc] 26)) w6 :=
                  (hbelY.alloc (by omega) _).grown hgrow6 (by simp; omega) (fun k hk => (hout.lt k hk).1)
                go_roundg ((sites1 (IN m) (Op m) (BN m) (LN m) (E m)).length - (j + 1))
                case measure => omega
                case rel => exact ⟨j + 1, by omega, rfl, by go_num, hfin, hrow6, hbel6⟩
            · have hdone := all1p_done (IN := IN) (BN := BN) (Op := Op) (LN := LN) (E := E) (m := m) (j := j) (by omega)
              rw [hdone] at hout
              go_wp2
              go_roundg (nf - (m + 1))
              case measure => omega
              case rel => exact ⟨m + 1, by omega, rfl, by go_num, hout, hbelY⟩
    · have hme : m = nf := by omega
      subst hme
      go_wp2
      go_ret
      exact ⟨_, rfl, hown, hbox _ hbel⟩
end Go.Proofs.YtaceaifoajkgaaaGreatDoor
