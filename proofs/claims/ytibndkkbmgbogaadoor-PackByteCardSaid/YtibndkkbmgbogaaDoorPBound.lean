/- Plain facts: a map of few ranges has few blocks. No program in sight; conditions: stated. -/
import Derived.Test.YtibndkkbmgbogaaDoorLawA
namespace Go.Proofs.YtibndkkbmgbogaaDoor
open Go Go.RowKit

theorem says_turn (l : List Rg) (r r' : Int) (h : ∀ y ∈ l, (y.fr ≤ r ∧ r ≤ y.to) ↔ (y.fr ≤ r' ∧ r' ≤ y.to)) : says l r = says l r' := by
  induction l with
  | nil => rfl
  | cons y l ih =>
    have h1 := h y (by simp)
    simp only [says]
    rw [ih (fun z hz => h z (by simp [hz]))]
    congr 1
    unfold sayIn
    by_cases hy : y.fr ≤ r ∧ r ≤ y.to
    · rw [if_pos hy, if_pos (h1.1 hy)]
    · rw [if_neg hy, if_neg (fun h2 => hy (h1.2 h2))]
/-- the rows where something may turn -/
def turnsAt (l : List Rg) : List Int := l.flatMap fun y => [y.fr / 256, y.fr / 256 + 1, y.to / 256, y.to / 256 + 1]
theorem turnsAt_len (l : List Rg) : (turnsAt l).length = 4 * l.length := by
  induction l with
  | nil => rfl
  | cons y l ih =>
    unfold turnsAt at ih ⊢
    rw [List.flatMap_cons, List.length_append, ih]
    simp
    omega
theorem row_still {l : List Rg} (h : rightB l = true) (i : Nat) (hi : i + 1 < 4352) (hn : ((i + 1 : Nat) : Int) ∉ turnsAt l) : fillRow (i + 1) (subRow l (i + 1)) = fillRow i (subRow l i) := by
  apply List.ext_getElem
  · rw [fillRow_len, fillRow_len]
  · intro j h1 h2
    rw [fillRow_len] at h1
    have e1 := row_says h (i + 1) j hi h1
    have e2 := row_says h i j (by omega) h1
    rw [List.getD_eq_getElem?_getD, List.getElem?_eq_getElem (by rw [fillRow_len]; exact h1), Option.getD_some] at e1 e2
    rw [e1, e2]
    apply says_turn
    intro y hy
    have hm : ∀ q ∈ [y.fr / 256, y.fr / 256 + 1, y.to / 256, y.to / 256 + 1], ((i + 1 : Nat) : Int) ≠ q := fun q hq e => hn (List.mem_flatMap.2 ⟨y, hy, e ▸ hq⟩)
    have m1 := hm (y.fr / 256) (by simp)
    have m2 := hm (y.fr / 256 + 1) (by simp)
    have m3 := hm (y.to / 256) (by simp)
    have m4 := hm (y.to / 256 + 1) (by simp)
    omega
theorem below_step (L : List Int) (i : Nat) : (L.filter (fun q => decide (q < (i : Int)))).length ≤ (L.filter (fun q => decide (q < ((i + 1 : Nat) : Int)))).length ∧ ((i : Int) ∈ L → (L.filter (fun q => decide (q < (i : Int)))).length + 1 ≤ (L.filter (fun q => decide (q < ((i + 1 : Nat) : Int)))).length) := by
  induction L with
  | nil => exact ⟨Nat.le_refl _, fun h => by cases h⟩
  | cons q L ih =>
    obtain ⟨i1, i2⟩ := ih
    simp only [List.filter_cons]
    refine ⟨?_, fun h => ?_⟩
    · by_cases h1 : q < (i : Int)
      · have h2 : q < ((i + 1 : Nat) : Int) := by omega
        simp only [h1, h2, decide_true, if_true, List.length_cons]
        omega
      · simp only [h1, decide_false, Bool.false_eq_true, if_false]
        split
        · rw [List.length_cons]
          omega
        · exact i1
    · rcases List.mem_cons.1 h with rfl | h
      · have h1 : ¬ ((i : Int) < (i : Int)) := by omega
        have h2 : (i : Int) < ((i + 1 : Nat) : Int) := by omega
        simp only [h1, h2, decide_true, decide_false, Bool.false_eq_true, if_false, if_true, List.length_cons]
        omega
      · have := i2 h
        by_cases h1 : q < (i : Int)
        · have h2 : q < ((i + 1 : Nat) : Int) := by omega
          simp only [h1, h2, decide_true, if_true, List.length_cons]
          omega
        · simp only [h1, decide_false, Bool.false_eq_true, if_false]
          split
          · rw [List.length_cons]
            omega
          · exact this
theorem blkIn_of {bl : List (List Int)} {x : List Int} (h : x ∈ bl) : blkIn bl x = true := by
  cases hb : blkIn bl x with
  | true => rfl
  | false => exact absurd h (blk_not hb)
theorem add_mem (T : Tr) (x : List Int) : x ∈ (T.add x).bl := by
  unfold Tr.add
  cases hb : blkIn T.bl x with
  | true =>
    obtain ⟨h1, h2⟩ := blk_found hb
    simp only [if_true]
    rw [← h2]
    exact List.getElem_mem _
  | false => simp
theorem add_len (T : Tr) (x : List Int) : (T.add x).bl.length ≤ T.bl.length + 1 ∧ (x ∈ T.bl → (T.add x).bl.length = T.bl.length) := by
  refine ⟨?_, fun h => ?_⟩
  · unfold Tr.add
    split <;> simp
  · unfold Tr.add
    rw [if_pos (blkIn_of h)]
theorem few_step {l : List Rg} (h : rightB l = true) : ∀ k : Nat, k + 1 ≤ 4352 →
    (addAll ⟨[], []⟩ ((rowsL l).take (k + 1))).bl.length ≤ 1 + ((turnsAt l).filter (fun q => decide (q < ((k + 1 : Nat) : Int)))).length ∧ fillRow k (subRow l k) ∈ (addAll ⟨[], []⟩ ((rowsL l).take (k + 1))).bl := by
  intro k
  induction k with
  | zero =>
    intro hk
    have hl : 0 < (rowsL l).length := by rw [rowsL_len]; omega
    rw [List.take_succ_eq_append_getElem hl, addAll_snoc, List.take_zero, rowsL_get]
    have h1 := add_len (addAll ⟨[], []⟩ []) (fillRow 0 (subRow l 0))
    have h2 : (addAll ⟨[], []⟩ []).bl.length = 0 := rfl
    exact ⟨by omega, add_mem _ _⟩
  | succ k ih =>
    intro hk
    obtain ⟨i1, i2⟩ := ih (by omega)
    have hl : k + 1 < (rowsL l).length := by rw [rowsL_len]; omega
    rw [List.take_succ_eq_append_getElem hl, addAll_snoc, rowsL_get]
    refine ⟨?_, add_mem _ _⟩
    have h1 := add_len (addAll ⟨[], []⟩ ((rowsL l).take (k + 1))) (fillRow (k + 1) (subRow l (k + 1)))
    have h2 := below_step (turnsAt l) (k + 1)
    by_cases hm : ((k + 1 : Nat) : Int) ∈ turnsAt l
    · have := h2.2 hm
      omega
    · have e := row_still h k (by omega) hm
      rw [← e] at i2
      have := h1.2 i2
      omega
theorem trOf_few {l : List Rg} (h : rightB l = true) : (trOf l).bl.length ≤ 1 + 4 * l.length := by
  have h1 := (few_step h 4351 (Nat.le_refl _)).1
  have e : (rowsL l).take (4351 + 1) = rowsL l := List.take_of_length_le (by rw [rowsL_len]; decide)
  rw [e] at h1
  have h2 := List.length_filter_le (fun q => decide (q < ((4351 + 1 : Nat) : Int))) (turnsAt l)
  rw [turnsAt_len] at h2
  unfold trOf
  omega
end Go.Proofs.YtibndkkbmgbogaaDoor
