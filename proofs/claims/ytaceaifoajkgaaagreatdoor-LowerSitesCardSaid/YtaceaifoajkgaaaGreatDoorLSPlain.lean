/- Of the places that a function's blocks name, those of instructions that make an object, sorted, each once: they are the places of such instructions that some block names. No program stands here. -/
import Derived.Lib.SlicesCompact
namespace Go.Sites

def good (n : Nat) (op : Nat → Int) (x : Int) : Bool := decide (0 ≤ x) && (decide (x < (n : Int)) && (op x.toNat == 24))
def placesT (n : Nat) (op : Nat → Int) (row : Nat → Int) (t : Nat) : List Int := ((List.range t).map row).filter (good n op)
def placesB (n : Nat) (op : Nat → Int) (ln : Nat → Nat) (e : Nat → Nat → Int) (b : Nat) : List Int := (List.range b).flatMap fun j => placesT n op (e j) (ln j)
def listed (bn : Nat) (ln : Nat → Nat) (e : Nat → Nat → Int) (k : Int) : Bool := (List.range bn).any fun b => (List.range (ln b)).any fun t => e b t == k
def sites1 (n : Nat) (op : Nat → Int) (bn : Nat) (ln : Nat → Nat) (e : Nat → Nat → Int) : List Int := Lib.compact ((placesB n op ln e bn).mergeSort fun x y => decide (x ≤ y))
def sites2 (n : Nat) (op : Nat → Int) (bn : Nat) (ln : Nat → Nat) (e : Nat → Nat → Int) (m : Nat) : List Int := ((List.range m).filter fun k => op k == 24 && listed bn ln e k).map Int.ofNat

theorem placesT_succ (n : Nat) (op row : Nat → Int) (t : Nat) : placesT n op row (t + 1) = placesT n op row t ++ (if good n op (row t) then [row t] else []) := by
  simp only [placesT, List.range_succ, List.map_append, List.filter_append, List.map_cons, List.map_nil]
  congr 1
  simp only [List.filter_cons, List.filter_nil]
theorem placesB_succ (n : Nat) (op : Nat → Int) (ln : Nat → Nat) (e : Nat → Nat → Int) (b : Nat) : placesB n op ln e (b + 1) = placesB n op ln e b ++ placesT n op (e b) (ln b) := by
  simp [placesB, List.range_succ]
theorem sites2_succ (n : Nat) (op : Nat → Int) (bn : Nat) (ln : Nat → Nat) (e : Nat → Nat → Int) (m : Nat) :
    sites2 n op bn ln e (m + 1) = sites2 n op bn ln e m ++ (if op m == 24 && listed bn ln e m then [(m : Int)] else []) := by
  simp only [sites2, List.range_succ, List.filter_append, List.map_append]
  congr 1
  simp only [List.filter_cons, List.filter_nil]
  split <;> simp_all

theorem strict_ext : ∀ {l m : List Int}, l.Pairwise (· < ·) → m.Pairwise (· < ·) → (∀ x, x ∈ l ↔ x ∈ m) → l = m
  | [], [], _, _, _ => rfl
  | [], y :: m, _, _, h => absurd ((h y).2 (List.mem_cons_self)) (by simp)
  | x :: l, [], _, _, h => absurd ((h x).1 (List.mem_cons_self)) (by simp)
  | x :: l, y :: m, hl, hm, h => by
    have hl' := List.pairwise_cons.1 hl
    have hm' := List.pairwise_cons.1 hm
    have hxy : x = y := by
      have h1 := (h x).1 List.mem_cons_self
      have h2 := (h y).2 List.mem_cons_self
      rcases List.mem_cons.1 h1 with h1 | h1
      · exact h1
      · rcases List.mem_cons.1 h2 with h2 | h2
        · exact h2.symm
        · have := hm'.1 x h1
          have := hl'.1 y h2
          omega
    subst hxy
    congr 1
    refine strict_ext hl'.2 hm'.2 fun z => ⟨fun hz => ?_, fun hz => ?_⟩
    · rcases List.mem_cons.1 ((h z).1 (List.mem_cons_of_mem _ hz)) with e | e
      · have := hl'.1 z hz; omega
      · exact e
    · rcases List.mem_cons.1 ((h z).2 (List.mem_cons_of_mem _ hz)) with e | e
      · have := hm'.1 z hz; omega
      · exact e

theorem get_bang {zs : List Int} {i : Nat} (h : i < zs.length) : zs.toArray[i]! = zs[i] := by simp [h]

theorem compact_mem (zs : List Int) (x : Int) : x ∈ Lib.compact zs ↔ x ∈ zs := by
  unfold Lib.compact Lib.compactUpTo
  constructor
  · intro h
    obtain ⟨i, hi, rfl⟩ := List.mem_map.1 h
    have hi' : i < zs.length := List.mem_range.1 (List.mem_filter.1 hi).1
    rw [get_bang hi']
    exact List.getElem_mem hi'
  · intro h
    obtain ⟨j, hj, rfl⟩ := List.getElem_of_mem h
    have key : ∀ j (hj : j < zs.length), ∃ i, i < zs.length ∧ Lib.keeps zs.toArray i = true ∧ zs.toArray[i]! = zs[j] := by
      intro j
      induction j with
      | zero => intro hj; exact ⟨0, hj, by simp [Lib.keeps], get_bang hj⟩
      | succ j ih =>
        intro hj
        cases hk : Lib.keeps zs.toArray (j + 1) with
        | true => exact ⟨j + 1, hj, hk, get_bang hj⟩
        | false =>
          obtain ⟨i, h1, h2, h3⟩ := ih (by omega)
          refine ⟨i, h1, h2, h3.trans ?_⟩
          have g1 := get_bang (zs := zs) (i := j) (by omega)
          have g2 := get_bang (zs := zs) (i := j + 1) hj
          simp [Lib.keeps] at hk
          rw [← g1, ← g2]
          simp only [List.getElem!_toArray] at *
          first | exact hk | exact hk.symm | simp_all
    obtain ⟨i, h1, h2, h3⟩ := key j hj
    exact List.mem_map.2 ⟨i, List.mem_filter.2 ⟨List.mem_range.2 h1, h2⟩, h3⟩

theorem compact_strict (zs : List Int) (hs : zs.Pairwise (· ≤ ·)) : (Lib.compact zs).Pairwise (· < ·) := by
  unfold Lib.compact Lib.compactUpTo
  rw [List.pairwise_map]
  have h0 : ((List.range zs.length).filter (Lib.keeps zs.toArray)).Pairwise (· < ·) := List.Pairwise.filter _ List.pairwise_lt_range
  refine List.Pairwise.imp_of_mem (fun {i j} hi hj hlt => ?_) h0
  have hi' : i < zs.length := List.mem_range.1 (List.mem_filter.1 hi).1
  have hj' : j < zs.length := List.mem_range.1 (List.mem_filter.1 hj).1
  have hk : Lib.keeps zs.toArray j = true := (List.mem_filter.1 hj).2
  rw [get_bang hi', get_bang hj']
  have hle : ∀ a b (ha : a < zs.length) (hb : b < zs.length), a ≤ b → zs[a] ≤ zs[b] := by
    intro a b ha hb hab
    rcases Nat.lt_or_ge a b with h | h
    · exact List.pairwise_iff_getElem.1 hs a b ha hb h
    · have : a = b := by omega
      subst this; exact Int.le_refl _
  have h1 := hle i (j - 1) hi' (by omega) (by omega)
  have h2 := hle (j - 1) j (by omega) hj' (by omega)
  have h3 : zs[j] ≠ zs[j - 1] := by
    have g1 := get_bang (zs := zs) (i := j) hj'
    have g2 := get_bang (zs := zs) (i := j - 1) (by omega)
    rw [← g1, ← g2]
    have hj0 : j ≠ 0 := by omega
    simp [Lib.keeps, hj0] at hk
    simp only [List.getElem!_toArray] at *
    first | exact hk | exact fun e => hk e.symm | simp_all
  omega

theorem mem_placesB {n : Nat} {op : Nat → Int} {ln : Nat → Nat} {e : Nat → Nat → Int} {b : Nat} {x : Int} : x ∈ placesB n op ln e b ↔ (∃ j, j < b ∧ ∃ t, t < ln j ∧ e j t = x) ∧ good n op x = true := by
  simp only [placesB, placesT, List.mem_flatMap, List.mem_range, List.mem_filter, List.mem_map]
  constructor
  · rintro ⟨j, hj, ⟨t, ht, rfl⟩, hg⟩; exact ⟨⟨j, hj, t, ht, rfl⟩, hg⟩
  · rintro ⟨⟨j, hj, t, ht, rfl⟩, hg⟩; exact ⟨j, hj, ⟨t, ht, rfl⟩, hg⟩

theorem listed_iff {bn : Nat} {ln : Nat → Nat} {e : Nat → Nat → Int} {k : Int} : listed bn ln e k = true ↔ ∃ j, j < bn ∧ ∃ t, t < ln j ∧ e j t = k := by
  simp only [listed, List.any_eq_true, List.mem_range, beq_iff_eq]

/-- both rows of places are one -/
theorem sites_eq (n : Nat) (op : Nat → Int) (bn : Nat) (ln : Nat → Nat) (e : Nat → Nat → Int) : sites1 n op bn ln e = sites2 n op bn ln e n := by
  refine strict_ext ?_ ?_ fun x => ?_
  · refine compact_strict _ ?_
    have := List.pairwise_mergeSort (le := fun x y : Int => decide (x ≤ y)) (by intro a b c; simp; omega) (by intro a b; simp; omega) (placesB n op ln e bn)
    exact this.imp fun h => by simpa using h
  · unfold sites2
    rw [List.pairwise_map]
    refine List.Pairwise.imp (fun {a b} h => ?_) (List.Pairwise.filter _ List.pairwise_lt_range)
    show (a : Int) < (b : Int)
    omega
  · unfold sites1
    rw [compact_mem]
    have hm : x ∈ (placesB n op ln e bn).mergeSort (fun x y => decide (x ≤ y)) ↔ x ∈ placesB n op ln e bn := List.mem_mergeSort
    rw [hm, mem_placesB]
    simp only [sites2, List.mem_map, List.mem_filter, List.mem_range, Bool.and_eq_true, listed_iff]
    constructor
    · rintro ⟨hl, hg⟩
      simp only [good, Bool.and_eq_true, decide_eq_true_eq] at hg
      refine ⟨x.toNat, ⟨by omega, hg.2.2, ?_⟩, by show ((x.toNat : Nat) : Int) = x; omega⟩
      have : ((x.toNat : Nat) : Int) = x := by omega
      rw [this]; exact hl
    · rintro ⟨k, ⟨hk, ho, hl⟩, rfl⟩
      refine ⟨hl, ?_⟩
      simp only [good, Bool.and_eq_true, decide_eq_true_eq]
      refine ⟨by show (0 : Int) ≤ (k : Int); omega, by show (k : Int) < (n : Int); omega, ?_⟩
      simpa using ho

/-- the sites of the first so many functions -/
def all1 (n bn : Nat → Nat) (op : Nat → Nat → Int) (ln : Nat → Nat → Nat) (e : Nat → Nat → Nat → Int) (m : Nat) : List (Int × Int) :=
  (List.range m).flatMap fun i => (sites1 (n i) (op i) (bn i) (ln i) (e i)).map fun x => ((i : Int), x)
def all2 (n bn : Nat → Nat) (op : Nat → Nat → Int) (ln : Nat → Nat → Nat) (e : Nat → Nat → Nat → Int) (m : Nat) : List (Int × Int) :=
  (List.range m).flatMap fun i => (sites2 (n i) (op i) (bn i) (ln i) (e i) (n i)).map fun x => ((i : Int), x)
theorem all_eq (n bn : Nat → Nat) (op : Nat → Nat → Int) (ln : Nat → Nat → Nat) (e : Nat → Nat → Nat → Int) (m : Nat) : all1 n bn op ln e m = all2 n bn op ln e m := by
  simp only [all1, all2, sites_eq]
theorem all1_succ (n bn : Nat → Nat) (op : Nat → Nat → Int) (ln : Nat → Nat → Nat) (e : Nat → Nat → Nat → Int) (m : Nat) :
    all1 n bn op ln e (m + 1) = all1 n bn op ln e m ++ (sites1 (n m) (op m) (bn m) (ln m) (e m)).map fun x => ((m : Int), x) := by
  simp [all1, List.range_succ]
theorem all2_succ (n bn : Nat → Nat) (op : Nat → Nat → Int) (ln : Nat → Nat → Nat) (e : Nat → Nat → Nat → Int) (m : Nat) :
    all2 n bn op ln e (m + 1) = all2 n bn op ln e m ++ (sites2 (n m) (op m) (bn m) (ln m) (e m) (n m)).map fun x => ((m : Int), x) := by
  simp [all2, List.range_succ]
end Go.Sites
