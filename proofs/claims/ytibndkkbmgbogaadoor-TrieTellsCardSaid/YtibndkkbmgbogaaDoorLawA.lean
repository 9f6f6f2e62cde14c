/- Plain facts of tries that are built row by row. No program in sight; conditions as stated. -/
import Derived.Test.YtibndkkbmgbogaaDoorBase
import Derived.Test.YtibndkkbmgbogaaDoorValue
import Derived.Test.YtibndkkbmgbogaaDoorBuild
import Derived.Test.YtibndkkbmgbogaaDoorRanges
namespace Go.Proofs.YtibndkkbmgbogaaDoor
open Go Go.RowKit

theorem blk_found {bl : List (List Int)} {x : List Int} (h : blkIn bl x = true) : ∃ hi : blkNo bl x < bl.length, bl[blkNo bl x] = x := by
  unfold blkIn at h
  rw [Option.isSome_iff_exists] at h
  obtain ⟨i, hi⟩ := h
  have e : blkNo bl x = i := by unfold blkNo; rw [hi]; rfl
  obtain ⟨hl, hp, _⟩ := List.findIdx?_eq_some_iff_getElem.1 hi
  rw [e]
  exact ⟨hl, by simpa using (of_decide_eq_true hp).symm⟩
theorem blk_not {bl : List (List Int)} {x : List Int} (h : blkIn bl x = false) : x ∉ bl := by
  unfold blkIn at h
  intro hx
  rw [Option.isSome_eq_false_iff, Option.isNone_iff_eq_none, List.findIdx?_eq_none_iff] at h
  have := h x hx
  simp at this

/-- A trie of rows: its index points into its blocks, all blocks are of 256 values within bounds. -/
structure TOk (T : Tr) : Prop where
  ix : ∀ n ∈ T.ix, 0 ≤ n ∧ n < T.bl.length
  bl : ∀ b ∈ T.bl, blockB b = true
theorem TOk.nil : TOk ⟨[], []⟩ := ⟨fun _ h => (by cases h), fun _ h => (by cases h)⟩
theorem TOk.add {T : Tr} (h : TOk T) {x : List Int} (hx : blockB x = true) : TOk (T.add x) := by
  unfold Tr.add
  cases hb : blkIn T.bl x with
  | true =>
    obtain ⟨h1, h2⟩ := blk_found hb
    refine ⟨fun n hn => ?_, h.bl⟩
    simp only [if_true] at hn ⊢
    rcases List.mem_append.1 hn with hn | hn
    · exact h.ix n hn
    · simp at hn; subst hn; omega
  | false =>
    refine ⟨fun n hn => ?_, fun b hb' => ?_⟩
    · simp only [Bool.false_eq_true, if_false, List.length_append, List.length_cons, List.length_nil] at hn ⊢
      rcases List.mem_append.1 hn with hn | hn
      · have := h.ix n hn; omega
      · simp at hn; subst hn; omega
    · simp only [Bool.false_eq_true, if_false] at hb'
      rcases List.mem_append.1 hb' with hb' | hb'
      · exact h.bl b hb'
      · simp at hb'; subst hb'; exact hx
theorem add_ixlen (T : Tr) (x : List Int) : (T.add x).ix.length = T.ix.length + 1 := by unfold Tr.add; split <;> simp
theorem row_at {T : Tr} {i n : Nat} {b : List Int} (hi : T.ix[i]? = some (n : Int)) (hb : T.bl[n]? = some b) : T.row i = b := by
  unfold Tr.row
  simp [List.getD_eq_getElem?_getD, hi, hb]
/-- the new row is the block that was added -/
theorem add_row_new (T : Tr) (x : List Int) : (T.add x).row T.ix.length = x := by
  unfold Tr.add
  cases hb : blkIn T.bl x with
  | true =>
    obtain ⟨h1, h2⟩ := blk_found hb
    exact row_at (n := blkNo T.bl x) (by simp) (show T.bl[blkNo T.bl x]? = some x by rw [List.getElem?_eq_getElem h1, h2])
  | false => exact row_at (n := T.bl.length) (by simp) (by simp)
/-- the rows that were there stay -/
theorem add_row_old {T : Tr} (h : TOk T) (x : List Int) {i : Nat} (hi : i < T.ix.length) : (T.add x).row i = T.row i := by
  have h0 := h.ix _ (List.getElem_mem hi)
  obtain ⟨n, hn⟩ := Int.eq_ofNat_of_zero_le h0.1
  have e1 : T.ix[i]? = some (n : Int) := by rw [List.getElem?_eq_getElem hi, hn]
  have hnl : n < T.bl.length := by have := h0.2; rw [hn] at this; simpa using this
  have e2 : T.bl[n]? = some T.bl[n] := List.getElem?_eq_getElem hnl
  rw [row_at e1 e2]
  unfold Tr.add
  split
  · exact row_at (by rw [List.getElem?_append_left hi]; exact e1) e2
  · exact row_at (by rw [List.getElem?_append_left hi]; exact e1) (by rw [List.getElem?_append_left hnl]; exact e2)
/-- blocks added one behind another -/
def addAll (T : Tr) (xs : List (List Int)) : Tr := xs.foldl Tr.add T
theorem foldRows_eq (T : Tr) (q : List (Nat × List Rg)) : foldRows T q = addAll T (q.map fun x => fillRow x.1 x.2) := by
  unfold foldRows addAll; rw [List.foldl_map]
theorem addAll_snoc (T : Tr) (xs : List (List Int)) (x : List Int) : addAll T (xs ++ [x]) = (addAll T xs).add x := by simp [addAll]
theorem snoc_ind {α : Type} {p : List α → Prop} (h0 : p []) (h1 : ∀ xs x, p xs → p (xs ++ [x])) (xs : List α) : p xs := by
  have : ∀ ys : List α, p ys.reverse := fun ys => by
    induction ys with
    | nil => exact h0
    | cons y ys ih => rw [List.reverse_cons]; exact h1 _ _ ih
  have := this xs.reverse
  rwa [List.reverse_reverse] at this
theorem addAll_ok (xs : List (List Int)) (hx : ∀ x ∈ xs, blockB x = true) : TOk (addAll ⟨[], []⟩ xs) ∧ (addAll ⟨[], []⟩ xs).ix.length = xs.length ∧ ∀ i (h : i < xs.length), (addAll ⟨[], []⟩ xs).row i = xs[i] := by
  induction xs using snoc_ind with
  | h0 => exact ⟨TOk.nil, rfl, fun i h => by cases h⟩
  | h1 xs x ih =>
    obtain ⟨i1, i2, i3⟩ := ih (fun y hy => hx y (List.mem_append_left _ hy))
    rw [addAll_snoc]
    refine ⟨i1.add (hx x (by simp)), by rw [add_ixlen, i2]; simp, fun i h => ?_⟩
    by_cases hi : i < xs.length
    · rw [add_row_old i1 x (by omega), i3 i hi, List.getElem_append_left hi]
    · have : i = xs.length := by simp at h; omega
      subst this
      have := add_row_new (addAll ⟨[], []⟩ xs) x
      rw [i2] at this
      rw [this]
      simp

/-- values of a row lie within bounds where the ranges' do -/
theorem blockB_fill (row : Nat) (l : List Rg) (h : ∀ y ∈ l, valB y.vl = true) : blockB (fillRow row l) = true := by
  have main : ∀ (l : List Rg), (∀ y ∈ l, valB y.vl = true) → ∀ x : List Int, blockB x = true → blockB (l.foldl (fillOne (row * 256)) x) = true := by
    intro l
    induction l with
    | nil => intro _ x hx; exact hx
    | cons y l ih =>
      intro h x hx
      rw [List.foldl_cons]
      refine ih (fun z hz => h z (List.mem_cons_of_mem _ hz)) _ ?_
      unfold blockB at hx ⊢
      rw [Bool.and_eq_true, decide_eq_true_eq, List.all_eq_true] at hx ⊢
      refine ⟨by rw [fillOne_len]; exact hx.1, fun v hv => ?_⟩
      obtain ⟨i, hi, rfl⟩ := List.getElem_of_mem hv
      simp only [fillOne, List.getElem_mapIdx]
      split
      · exact h y (List.mem_cons_self ..)
      · exact hx.2 _ (List.getElem_mem _)
  refine main l h _ ?_
  unfold blockB
  rw [Bool.and_eq_true, decide_eq_true_eq, List.all_eq_true]
  exact ⟨List.length_replicate .., fun v hv => by rw [List.eq_of_mem_replicate hv]; rfl⟩

theorem rightGo_all : ∀ (l : List Rg) (last : Int), rightGo last l = true → ∀ y ∈ l, y.oneB = true
  | [], _, _, y, hy => by cases hy
  | x :: l, last, h, y, hy => by
    simp only [rightGo, Bool.and_eq_true, decide_eq_true_eq] at h
    rcases List.mem_cons.1 hy with rfl | hy
    · exact h.1.1
    · exact rightGo_all l _ h.2 y hy
theorem oneB_val {y : Rg} (h : y.oneB = true) : valB y.vl = true := by
  unfold Rg.oneB at h
  unfold valB
  simp only [Bool.and_eq_true, decide_eq_true_eq] at h ⊢
  exact ⟨h.1.2, h.2⟩
end Go.Proofs.YtibndkkbmgbogaaDoor
