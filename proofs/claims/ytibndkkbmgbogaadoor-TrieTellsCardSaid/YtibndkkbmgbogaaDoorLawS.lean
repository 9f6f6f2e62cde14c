/- The trie of the one range 0x300..0x36f, value 1, reckoned out: for the laws' shown. No program in sight. -/
import Derived.Test.YtibndkkbmgbogaaDoorLawA
namespace Go.Proofs.YtibndkkbmgbogaaDoor
open Go Go.RowKit

def l0 : List Rg := [⟨768, 879, 1⟩]
def Zb : List Int := List.replicate 256 0
def B1 : List Int := List.replicate 112 1 ++ List.replicate 144 0
theorem right_l0 : rightB l0 = true := by kernel_rfl
theorem right_l1 : rightB [⟨2, 1, 0⟩] = false := by kernel_rfl
theorem fill_nil (i : Nat) : fillRow i [] = Zb := rfl
theorem fill_3 : fillRow 3 l0 = B1 := by kernel_rfl

theorem skip_l0 (f : Int) : skipTo l0 f 0 = if f ≤ 879 then 0 else 1 := by
  unfold skipTo l0
  by_cases h : f ≤ 879
  · rw [if_pos h]
    have e : decide ((879 : Int) < f) = false := decide_eq_false (by omega)
    simp only [List.drop_zero, List.takeWhile_cons, e]; rfl
  · rw [if_neg h]
    have e : decide ((879 : Int) < f) = true := decide_eq_true (by omega)
    simp only [List.drop_zero, List.takeWhile_cons, e]; rfl
theorem skip_l1 (f : Int) : skipTo l0 f 1 = 1 := by simp [skipTo, l0]
theorem at_l0 : ∀ i, atRow l0 i = if i ≤ 3 then 0 else 1
  | 0 => by rw [atRow, skip_l0]; rfl
  | i + 1 => by
    rw [atRow, at_l0 i]
    by_cases h : i ≤ 3
    · rw [if_pos h, skip_l0]
      by_cases h' : i + 1 ≤ 3
      · rw [if_pos h', if_pos (by omega)]
      · rw [if_neg h', if_neg (by omega)]
    · rw [if_neg h, skip_l1, if_neg (by omega)]
theorem sub_l0 (i : Nat) : subRow l0 i = if i = 3 then l0 else [] := by
  have hend : endRow l0 i = if i < 3 then 0 else 1 := by
    unfold endRow
    rw [at_l0]
    by_cases h3 : i ≤ 3
    · rw [if_pos h3]
      unfold endTo l0
      by_cases h : i < 3
      · rw [if_pos h]
        have e : decide ((768 : Int) ≤ (i : Int) * 256 + 255) = false := decide_eq_false (by omega)
        simp only [List.drop_zero, List.takeWhile_cons, e]; rfl
      · rw [if_neg h]
        have e : decide ((768 : Int) ≤ (i : Int) * 256 + 255) = true := decide_eq_true (by omega)
        simp only [List.drop_zero, List.takeWhile_cons, e]; rfl
    · rw [if_neg h3, if_neg (by omega)]; simp [endTo, l0]
  unfold subRow
  rw [hend, at_l0]
  by_cases h : i = 3
  · subst h; rfl
  · rw [if_neg h]
    by_cases h' : i < 3
    · rw [if_pos h', if_pos (by omega)]; rfl
    · rw [if_neg h', if_neg (by omega)]; rfl

def blocksN (n : Nat) : List (List Int) := [Zb, Zb, Zb, B1] ++ List.replicate n Zb
theorem blocksN_len (n : Nat) : (blocksN n).length = n + 4 := by unfold blocksN; rw [List.length_append, List.length_replicate]; simp; omega
theorem blocksN_get (n i : Nat) (h : i < (blocksN n).length) : (blocksN n)[i] = if i = 3 then B1 else Zb := by
  have hl := blocksN_len n
  unfold blocksN at h hl ⊢
  rcases Nat.lt_or_ge i 4 with h4 | h4
  · match i, h4 with
    | 0, _ => rfl
    | 1, _ => rfl
    | 2, _ => rfl
    | 3, _ => rfl
  · rw [if_neg (by omega), List.getElem_append_right (by simpa using h4), List.getElem_replicate]
theorem rowsN (n : Nat) : (List.range (n + 4)).map (fun i => fillRow i (subRow l0 i)) = blocksN n := by
  have h : ∀ i, fillRow i (subRow l0 i) = if i = 3 then B1 else Zb := fun i => by
    rw [sub_l0]
    by_cases h : i = 3
    · subst h; exact fill_3
    · rw [if_neg h, if_neg h]; rfl
  apply List.ext_getElem
  · rw [blocksN_len]; simp
  · intro i h1 h2
    rw [List.getElem_map, List.getElem_range, blocksN_get, h]
theorem rows_l0 : (rowsOf l0).map (fun x => fillRow x.1 x.2) = blocksN 4348 := by
  unfold rowsOf
  rw [List.map_map]
  exact rowsN 4348

theorem addAll_same {T : Tr} {x : List Int} {k : Nat} (h1 : blkIn T.bl x = true) (h2 : blkNo T.bl x = k) : ∀ n, addAll T (List.replicate n x) = ⟨T.ix ++ List.replicate n (k : Int), T.bl⟩
  | 0 => by simp [addAll]
  | n + 1 => by
    have e : List.replicate (n + 1) x = List.replicate n x ++ [x] := by rw [List.replicate_succ']
    rw [e, addAll_snoc, addAll_same h1 h2 n]
    unfold Tr.add
    simp only [h1, if_true, h2]
    rw [List.replicate_succ', List.append_assoc]
def T0 : Tr := ⟨[0, 0, 0, 1] ++ List.replicate 4348 0, [Zb, B1]⟩
theorem first4 : addAll ⟨[], []⟩ [Zb, Zb, Zb, B1] = ⟨[0, 0, 0, 1], [Zb, B1]⟩ := by kernel_rfl
theorem built_l0 : builtB l0 = (T0, 0) := by
  unfold builtB
  rw [if_pos right_l0, foldRows_eq, rows_l0]
  have : addAll ⟨[], []⟩ (blocksN 4348) = T0 := by
    unfold addAll blocksN
    rw [List.foldl_append]
    have h4 := first4
    unfold addAll at h4
    rw [h4]
    exact addAll_same (T := ⟨[0, 0, 0, 1], [Zb, B1]⟩) (k := 0) (by kernel_rfl) (by kernel_rfl) 4348
  rw [this]
theorem built_l1 : builtB [⟨2, 1, 0⟩] = (⟨[], []⟩, 22) := by
  unfold builtB
  rw [if_neg (by rw [right_l1]; simp)]

/-- a built trie is right -/
theorem right_of_ok {T : Tr} (h : TOk T) (hl : T.ix.length = 4352) : T.rightB = true := by
  unfold Tr.rightB
  simp only [Bool.and_eq_true, decide_eq_true_eq, List.all_eq_true]
  exact ⟨⟨hl, fun n hn => h.ix n hn⟩, fun b hb => h.bl b hb⟩
theorem T0_facts : T0.rightB = true ∧ T0.row 3 = B1 ∧ ∀ i, i ≠ 3 → i < 4352 → T0.row i = Zb := by
  have hlen := blocksN_len 4348
  have hget := blocksN_get 4348
  have hb : ∀ x ∈ blocksN 4348, blockB x = true := fun x hx => by
    obtain ⟨i, hi, rfl⟩ := List.getElem_of_mem hx
    rw [hget]
    split
    · kernel_rfl
    · kernel_rfl
  have hT : addAll ⟨[], []⟩ (blocksN 4348) = T0 := by
    have := built_l0
    unfold builtB at this
    rw [if_pos right_l0, foldRows_eq, rows_l0] at this
    exact (Prod.mk.inj this).1
  generalize blocksN 4348 = bs at *
  obtain ⟨i1, i2, i3⟩ := addAll_ok bs hb
  rw [hT] at i1 i2 i3
  refine ⟨right_of_ok i1 (by rw [i2, hlen]), ?_, fun i hi hil => ?_⟩
  · rw [i3 3 (by omega), hget, if_pos rfl]
  · rw [i3 i (by omega), hget, if_neg hi]

theorem rgStep_zero {out : List Rg} (h : ∀ y ∈ out, 0 < y.vl) (p : Int) : rgStep out p 0 = out :=
  rgStep_same (fun y hy ⟨_, e⟩ => by have := h y (List.mem_of_getLast? hy); omega) (by omega)
theorem cols_zero {out : List Rg} (h : ∀ y ∈ out, 0 < y.vl) (p : Int) : ∀ k, colsTo Zb p out k = out
  | 0 => rfl
  | k + 1 => by
    rw [colsTo_succ, cols_zero h p k]
    have : Zb.getD k 0 = 0 := by
      unfold Zb
      rw [List.getD_eq_getElem?_getD, List.getElem?_replicate]
      split <;> rfl
    rw [this]
    exact rgStep_zero h _
theorem cols_3 : colsTo B1 768 [] 256 = l0 := by kernel_rfl
theorem rowsTo_T0 : ∀ i, i ≤ 4352 → rowsTo T0 i = if i ≤ 3 then [] else l0
  | 0, _ => rfl
  | i + 1, hi => by
    rw [rowsTo_succ, rowsTo_T0 i (by omega)]
    by_cases h3 : i = 3
    · subst h3
      rw [if_pos (by omega), if_neg (by omega), T0_facts.2.1]
      exact cols_3
    · rw [T0_facts.2.2 i h3 (by omega)]
      by_cases h : i ≤ 3
      · rw [if_pos h, if_pos (by omega)]
        exact cols_zero (fun y hy => by cases hy) _ _
      · rw [if_neg h, if_neg (by omega)]
        exact cols_zero (fun y hy => by unfold l0 at hy; simp at hy; subst hy; decide) _ _
theorem ranges_T0 : rangesB T0 = (l0, 0) := by
  unfold rangesB
  rw [if_pos T0_facts.1, rowsTo_T0 4352 (Nat.le_refl _), if_neg (by omega : ¬ 4352 ≤ 3)]
  rfl
theorem value_T0 : T0.value 879 = 1 ∧ T0.value 880 = 0 := by
  have h := T0_facts
  have h3 := h.2.1
  unfold Tr.row at h3
  constructor
  · unfold Tr.value Tr.at_
    rw [if_pos ⟨by omega, by omega, h.1⟩]
    show (T0.bl.getD (T0.ix.getD 3 0).toNat []).getD 111 0 = 1
    rw [h3]
    rfl
  · unfold Tr.value Tr.at_
    rw [if_pos ⟨by omega, by omega, h.1⟩]
    show (T0.bl.getD (T0.ix.getD 3 0).toNat []).getD 112 0 = 0
    rw [h3]
    rfl
theorem T0_len : T0.bl.length = 2 ∧ T0.ix.length = 4352 ∧ T0.ix[3]? = some 1 ∧ T0.ix[4]? = some 0 := by
  refine ⟨rfl, ?_, rfl, ?_⟩
  · unfold T0; simp only; rw [List.length_append, List.length_replicate]; rfl
  · unfold T0; simp only; rw [List.getElem?_append_right (by simp), List.getElem?_replicate]; rfl
end Go.Proofs.YtibndkkbmgbogaaDoor
