/- Plain facts of tries that are built row by row. No program in sight; conditions as stated. -/
import Derived.Test.YtibndkkbmgbogaaDoorBase
import Derived.Test.YtibndkkbmgbogaaDoorValue
import Derived.Test.YtibndkkbmgbogaaDoorBuild
import Derived.Test.YtibndkkbmgbogaaDoorRanges
namespace Go.Proofs.YtibndkkbmgbogaaDoor
open Go Go.RowKit

theorem blk_found {bl : List (List Int)} {x : List Int} (h : blkIn bl x = true) : ∃ hi : blkNo bl x < bl.length, bl[blkNo bl x] = x := by
  unfold blkIn at h
  rw [Option.isSome_iff_exists] at h
  obtain ⟨i, hi⟩ := h
  have e : blkNo bl x = i := by unfold blkNo; rw [hi]; rfl
  obtain ⟨hl, hp, _⟩ := List.findIdx?_eq_some_iff_getElem.1 hi
  rw [e]
  exact ⟨hl, by simpa using (of_decide_eq_true hp).symm⟩
theorem blk_not {bl : List (List Int)} {x : List Int} (h : blkIn bl x = false) : x ∉ bl := by
  unfold blkIn at h
  intro hx
  rw [Option.isSome_eq_false_iff, Option.isNone_iff_eq_none, List.findIdx?_eq_none_iff] at h
  have := h x hx
  simp at this

/-- A trie of rows: its index points into its blocks, all blocks are of 256 values within bounds. -/
structure TOk (T : Tr) : Prop where
  ix : ∀ n ∈ T.ix, 0 ≤ n ∧ n < T.bl.length
  bl : ∀ b ∈ T.bl, blockB b = true
theorem TOk.nil : TOk ⟨[], []⟩ := ⟨fun _ h => (by cases h), fun _ h => (by cases h)⟩
theorem TOk.add {T : Tr} (h : TOk T) {x : List Int} (hx : blockB x = true) : TOk (T.add x) := by
  unfold Tr.add
  cases hb : blkIn T.bl x with
  | true =>
    obtain ⟨h1, h2⟩ := blk_found hb
    refine ⟨fun n hn => ?_, h.bl⟩
    simp only [if_true] at hn ⊢
    rcases List.mem_append.1 hn with hn | hn
    · exact h.ix n hn
    · simp at hn; subst hn; omega
  | false =>
    refine ⟨fun n hn => ?_, fun b hb' => ?_⟩
    · simp only [Bool.false_eq_true, if_false, List.length_append, List.length_cons, List.length_nil] at hn ⊢
      rcases List.mem_append.1 hn with hn | hn
      · have := h.ix n hn; omega
      · simp at hn; subst hn; omega
    · simp only [Bool.false_eq_true, if_false] at hb'
      rcases List.mem_append.1 hb' with hb' | hb'
      · exact h.bl b hb'
      · simp at hb'; subst hb'; exact hx
theorem add_ixlen (T : Tr) (x : List Int) : (T.add x).ix.length = T.ix.length + 1 := by unfold Tr.add; split <;> simp
theorem row_at {T : Tr} {i n : Nat} {b : List Int} (hi : T.ix[i]? = some (n : Int)) (hb : T.bl[n]? = some b) : T.row i = b := by
  unfold Tr.row
  simp [List.getD_eq_getElem?_getD, hi, hb]
/-- the new row is the block that was added -/
theorem add_row_new (T : Tr) (x : List Int) : (T.add x).row T.ix.length = x := by
  unfold Tr.add
  cases hb : blkIn T.bl x with
  | true =>
    obtain ⟨h1, h2⟩ := blk_found hb
    exact row_at (n := blkNo T.bl x) (by simp) (show T.bl[blkNo T.bl x]? = some x by rw [List.getElem?_eq_getElem h1, h2])
  | false => exact row_at (n := T.bl.length) (by simp) (by simp)
/-- the rows that were there stay -/
theorem add_row_old {T : Tr} (h : TOk T) (x : List Int) {i : Nat} (hi : i < T.ix.length) : (T.add x).row i = T.row i := by
  have h0 := h.ix _ (List.getElem_mem hi)
  obtain ⟨n, hn⟩ := Int.eq_ofNat_of_zero_le h0.1
  have e1 : T.ix[i]? = some (n : Int) := by rw [List.getElem?_eq_getElem hi, hn]
  have hnl : n < T.bl.length := by have := h0.2; rw [hn] at this; simpa using this
  have e2 : T.bl[n]? = some T.bl[n] := List.getElem?_eq_getElem hnl
  rw [row_at e1 e2]
  unfold Tr.add
  split
  · exact row_at (by rw [List.getElem?_append_left hi]; exact e1) e2
  · exact row_at (by rw [List.getElem?_append_left hi]; exact e1) (by rw [List.getElem?_append_left hnl]; exact e2)
/-- blocks added one behind another -/
def addAll (T : Tr) (xs : List (List Int)) : Tr := xs.foldl Tr.add T
theorem foldRows_eq (T : Tr) (q : List (Nat × List Rg)) : foldRows T q = addAll T (q.map fun x => fillRow x.1 x.2) := by
  unfold foldRows addAll; rw [List.foldl_map]
theorem addAll_snoc (T : Tr) (xs : List (List Int)) (x : List Int) : addAll T (xs ++ [x]) = (addAll T xs).add x := by simp [addAll]
theorem snoc_ind {α : Type} {p : List α → Prop} (h0 : p []) (h1 : ∀ xs x, p xs → p (xs ++ [x])) (xs : List α) : p xs := by
  have : ∀ ys : List α, p ys.reverse := fun ys => by
    induction ys with
    | nil => exact h0
    | cons y ys ih => rw [List.reverse_cons]; exact h1 _ _ ih
  have := this xs.reverse
  rwa [List.reverse_reverse] at this
theorem addAll_ok (xs : List (List Int)) (hx : ∀ x ∈ xs, blockB x = true) : TOk (addAll ⟨[], []⟩ xs) ∧ (addAll ⟨[], []⟩ xs).ix.length = xs.length ∧ ∀ i (h : i < xs.length), (addAll ⟨[], []⟩ xs).row i = xs[i] := by
  induction xs using snoc_ind with
  | h0 => exact ⟨TOk.nil, rfl, fun i h => by cases h⟩
  | h1 xs x ih =>
    obtain ⟨i1, i2, i3⟩ := ih (fun y hy => hx y (List.mem_append_left _ hy))
    rw [addAll_snoc]
    refine ⟨i1.add (hx x (by simp)), by rw [add_ixlen, i2]; simp, fun i h => ?_⟩
    by_cases hi : i < xs.length
    · rw [add_row_old i1 x (by omega), i3 i hi, List.getElem_append_left hi]
    · have : i = xs.length := by simp at h; omega
      subst this
      have := add_row_new (addAll ⟨[], []⟩ xs) x
      rw [i2] at this
      rw [this]
      simp

/-- values of a row lie within bounds where the ranges' do -/
theorem blockB_fill (row : Nat) (l : List Rg) (h : ∀ y ∈ l, valB y.vl = true) : blockB (fillRow row l) = true := by
  have main : ∀ (l : List Rg), (∀ y ∈ l, valB y.vl = true) → ∀ x : List Int, blockB x = true → blockB (l.foldl (fillOne (row * 256)) x) = true := by
    intro l
    induction l with
    | nil => intro _ x hx; exact hx
    | cons y l ih =>
      intro h x hx
      rw [List.foldl_cons]
      refine ih (fun z hz => h z (List.mem_cons_of_mem _ hz)) _ ?_
      unfold blockB at hx ⊢
      rw [Bool.and_eq_true, decide_eq_true_eq, List.all_eq_true] at hx ⊢
      refine ⟨by rw [fillOne_len]; exact hx.1, fun v hv => ?_⟩
      obtain ⟨i, hi, rfl⟩ := List.getElem_of_mem hv
      simp only [fillOne, List.getElem_mapIdx]
      split
      · exact h y (List.mem_cons_self ..)
      · exact hx.2 _ (List.getElem_mem _)
  refine main l h _ ?_
  unfold blockB
  rw [Bool.and_eq_true, decide_eq_true_eq, List.all_eq_true]
  exact ⟨List.length_replicate .., fun v hv => by rw [List.eq_of_mem_replicate hv]; rfl⟩

theorem rightGo_all : ∀ (l : List Rg) (last : Int), rightGo last l = true → ∀ y ∈ l, y.oneB = true
  | [], _, _, y, hy => by cases hy
  | x :: l, last, h, y, hy => by
    simp only [rightGo, Bool.and_eq_true, decide_eq_true_eq] at h
    rcases List.mem_cons.1 hy with rfl | hy
    · exact h.1.1
    · exact rightGo_all l _ h.2 y hy
theorem oneB_val {y : Rg} (h : y.oneB = true) : valB y.vl = true := by
  unfold Rg.oneB at h
  unfold valB
  simp only [Bool.and_eq_true, decide_eq_true_eq] at h ⊢
  exact ⟨h.1.2, h.2⟩
end Go.Proofs.YtibndkkbmgbogaaDoor

/- The trie of the one range 0x300..0x36f, value 1, reckoned out: for the laws' shown. No program in sight. -/
namespace Go.Proofs.YtibndkkbmgbogaaDoor
open Go Go.RowKit

def l0 : List Rg := [⟨768, 879, 1⟩]
def Zb : List Int := List.replicate 256 0
def B1 : List Int := List.replicate 112 1 ++ List.replicate 144 0
theorem right_l0 : rightB l0 = true := by kernel_rfl
theorem right_l1 : rightB [⟨2, 1, 0⟩] = false := by kernel_rfl
theorem fill_nil (i : Nat) : fillRow i [] = Zb := rfl
theorem fill_3 : fillRow 3 l0 = B1 := by kernel_rfl

theorem skip_l0 (f : Int) : skipTo l0 f 0 = if f ≤ 879 then 0 else 1 := by
  unfold skipTo l0
  by_cases h : f ≤ 879
  · rw [if_pos h]
    have e : decide ((879 : Int) < f) = false := decide_eq_false (by omega)
    simp only [List.drop_zero, List.takeWhile_cons, e]; rfl
  · rw [if_neg h]
    have e : decide ((879 : Int) < f) = true := decide_eq_true (by omega)
    simp only [List.drop_zero, List.takeWhile_cons, e]; rfl
theorem skip_l1 (f : Int) : skipTo l0 f 1 = 1 := by simp [skipTo, l0]
theorem at_l0 : ∀ i, atRow l0 i = if i ≤ 3 then 0 else 1
  | 0 => by rw [atRow, skip_l0]; rfl
  | i + 1 => by
    rw [atRow, at_l0 i]
    by_cases h : i ≤ 3
    · rw [if_pos h, skip_l0]
      by_cases h' : i + 1 ≤ 3
      · rw [if_pos h', if_pos (by omega)]
      · rw [if_neg h', if_neg (by omega)]
    · rw [if_neg h, skip_l1, if_neg (by omega)]
theorem sub_l0 (i : Nat) : subRow l0 i = if i = 3 then l0 else [] := by
  have hend : endRow l0 i = if i < 3 then 0 else 1 := by
    unfold endRow
    rw [at_l0]
    by_cases h3 : i ≤ 3
    · rw [if_pos h3]
      unfold endTo l0
      by_cases h : i < 3
      · rw [if_pos h]
        have e : decide ((768 : Int) ≤ (i : Int) * 256 + 255) = false := decide_eq_false (by omega)
        simp only [List.drop_zero, List.takeWhile_cons, e]; rfl
      · rw [if_neg h]
        have e : decide ((768 : Int) ≤ (i : Int) * 256 + 255) = true := decide_eq_true (by omega)
        simp only [List.drop_zero, List.takeWhile_cons, e]; rfl
    · rw [if_neg h3, if_neg (by omega)]; simp [endTo, l0]
  unfold subRow
  rw [hend, at_l0]
  by_cases h : i = 3
  · subst h; rfl
  · rw [if_neg h]
    by_cases h' : i < 3
    · rw [if_pos h', if_pos (by omega)]; rfl
    · rw [if_neg h', if_neg (by omega)]; rfl

def blocksN (n : Nat) : List (List Int) := [Zb, Zb, Zb, B1] ++ List.replicate n Zb
theorem blocksN_len (n : Nat) : (blocksN n).length = n + 4 := by unfold blocksN; rw [List.length_append, List.length_replicate]; simp; omega
theorem blocksN_get (n i : Nat) (h : i < (blocksN n).length) : (blocksN n)[i] = if i = 3 then B1 else Zb := by
  have hl := blocksN_len n
  unfold blocksN at h hl ⊢
  rcases Nat.lt_or_ge i 4 with h4 | h4
  · match i, h4 with
    | 0, _ => rfl
    | 1, _ => rfl
    | 2, _ => rfl
    | 3, _ => rfl
  · rw [if_neg (by omega), List.getElem_append_right (by simpa using h4), List.getElem_replicate]
theorem rowsN (n : Nat) : (List.range (n + 4)).map (fun i => fillRow i (subRow l0 i)) = blocksN n := by
  have h : ∀ i, fillRow i (subRow l0 i) = if i = 3 then B1 else Zb := fun i => by
    rw [sub_l0]
    by_cases h : i = 3
    · subst h; exact fill_3
    · rw [if_neg h, if_neg h]; rfl
  apply List.ext_getElem
  · rw [blocksN_len]; simp
  · intro i h1 h2
    rw [List.getElem_map, List.getElem_range, blocksN_get, h]
theorem rows_l0 : (rowsOf l0).map (fun x => fillRow x.1 x.2) = blocksN 4348 := by
  unfold rowsOf
  rw [List.map_map]
  exact rowsN 4348

theorem addAll_same {T : Tr} {x : List Int} {k : Nat} (h1 : blkIn T.bl x = true) (h2 : blkNo T.bl x = k) : ∀ n, addAll T (List.replicate n x) = ⟨T.ix ++ List.replicate n (k : Int), T.bl⟩
  | 0 => by simp [addAll]
  | n + 1 => by
    have e : List.replicate (n + 1) x = List.replicate n x ++ [x] := by rw [List.replicate_succ']
    rw [e, addAll_snoc, addAll_same h1 h2 n]
    unfold Tr.add
    simp only [h1, if_true, h2]
    rw [List.replicate_succ', List.append_assoc]
def T0 : Tr := ⟨[0, 0, 0, 1] ++ List.replicate 4348 0, [Zb, B1]⟩
theorem first4 : addAll ⟨[], []⟩ [Zb, Zb, Zb, B1] = ⟨[0, 0, 0, 1], [Zb, B1]⟩ := by kernel_rfl
theorem built_l0 : builtB l0 = (T0, 0) := by
  unfold builtB
  rw [if_pos right_l0, foldRows_eq, rows_l0]
  have : addAll ⟨[], []⟩ (blocksN 4348) = T0 := by
    unfold addAll blocksN
    rw [List.foldl_append]
    have h4 := first4
    unfold addAll at h4
    rw [h4]
    exact addAll_same (T := ⟨[0, 0, 0, 1], [Zb, B1]⟩) (k := 0) (by kernel_rfl) (by kernel_rfl) 4348
  rw [this]
theorem built_l1 : builtB [⟨2, 1, 0⟩] = (⟨[], []⟩, 22) := by
  unfold builtB
  rw [if_neg (by rw [right_l1]; simp)]

/-- a built trie is right -/
theorem right_of_ok {T : Tr} (h : TOk T) (hl : T.ix.length = 4352) : T.rightB = true := by
  unfold Tr.rightB
  simp only [Bool.and_eq_true, decide_eq_true_eq, List.all_eq_true]
  exact ⟨⟨hl, fun n hn => h.ix n hn⟩, fun b hb => h.bl b hb⟩
theorem T0_facts : T0.rightB = true ∧ T0.row 3 = B1 ∧ ∀ i, i ≠ 3 → i < 4352 → T0.row i = Zb := by
  have hlen := blocksN_len 4348
  have hget := blocksN_get 4348
  have hb : ∀ x ∈ blocksN 4348, blockB x = true := fun x hx => by
    obtain ⟨i, hi, rfl⟩ := List.getElem_of_mem hx
    rw [hget]
    split
    · kernel_rfl
    · kernel_rfl
  have hT : addAll ⟨[], []⟩ (blocksN 4348) = T0 := by
    have := built_l0
    unfold builtB at this
    rw [if_pos right_l0, foldRows_eq, rows_l0] at this
    exact (Prod.mk.inj this).1
  generalize blocksN 4348 = bs at *
  obtain ⟨i1, i2, i3⟩ := addAll_ok bs hb
  rw [hT] at i1 i2 i3
  refine ⟨right_of_ok i1 (by rw [i2, hlen]), ?_, fun i hi hil => ?_⟩
  · rw [i3 3 (by omega), hget, if_pos rfl]
  · rw [i3 i (by omega), hget, if_neg hi]

theorem rgStep_zero {out : List Rg} (h : ∀ y ∈ out, 0 < y.vl) (p : Int) : rgStep out p 0 = out :=
  rgStep_same (fun y hy ⟨_, e⟩ => by have := h y (List.mem_of_getLast? hy); omega) (by omega)
theorem cols_zero {out : List Rg} (h : ∀ y ∈ out, 0 < y.vl) (p : Int) : ∀ k, colsTo Zb p out k = out
  | 0 => rfl
  | k + 1 => by
    rw [colsTo_succ, cols_zero h p k]
    have : Zb.getD k 0 = 0 := by
      unfold Zb
      rw [List.getD_eq_getElem?_getD, List.getElem?_replicate]
      split <;> rfl
    rw [this]
    exact rgStep_zero h _
theorem cols_3 : colsTo B1 768 [] 256 = l0 := by kernel_rfl
theorem rowsTo_T0 : ∀ i, i ≤ 4352 → rowsTo T0 i = if i ≤ 3 then [] else l0
  | 0, _ => rfl
  | i + 1, hi => by
    rw [rowsTo_succ, rowsTo_T0 i (by omega)]
    by_cases h3 : i = 3
    · subst h3
      rw [if_pos (by omega), if_neg (by omega), T0_facts.2.1]
      exact cols_3
    · rw [T0_facts.2.2 i h3 (by omega)]
      by_cases h : i ≤ 3
      · rw [if_pos h, if_pos (by omega)]
        exact cols_zero (fun y hy => by cases hy) _ _
      · rw [if_neg h, if_neg (by omega)]
        exact cols_zero (fun y hy => by unfold l0 at hy; simp at hy; subst hy; decide) _ _
theorem ranges_T0 : rangesB T0 = (l0, 0) := by
  unfold rangesB
  rw [if_pos T0_facts.1, rowsTo_T0 4352 (Nat.le_refl _), if_neg (by omega : ¬ 4352 ≤ 3)]
  rfl
theorem value_T0 : T0.value 879 = 1 ∧ T0.value 880 = 0 := by
  have h := T0_facts
  have h3 := h.2.1
  unfold Tr.row at h3
  constructor
  · unfold Tr.value Tr.at_
    rw [if_pos ⟨by omega, by omega, h.1⟩]
    show (T0.bl.getD (T0.ix.getD 3 0).toNat []).getD 111 0 = 1
    rw [h3]
    rfl
  · unfold Tr.value Tr.at_
    rw [if_pos ⟨by omega, by omega, h.1⟩]
    show (T0.bl.getD (T0.ix.getD 3 0).toNat []).getD 112 0 = 0
    rw [h3]
    rfl
theorem T0_len : T0.bl.length = 2 ∧ T0.ix.length = 4352 ∧ T0.ix[3]? = some 1 ∧ T0.ix[4]? = some 0 := by
  refine ⟨rfl, ?_, rfl, ?_⟩
  · unfold T0; simp only; rw [List.length_append, List.length_replicate]; rfl
  · unfold T0; simp only; rw [List.getElem?_append_right (by simp), List.getElem?_replicate]; rfl
end Go.Proofs.YtibndkkbmgbogaaDoor

/- Plain facts: what a trie's ranges say is what the trie says; of ranges' trie; how many there are. No program in sight; conditions as stated. -/
namespace Go.Proofs.YtibndkkbmgbogaaDoor
open Go Go.RowKit

/-- what one range says of a number, and what ranges say together -/
def sayIn (x : Rg) (q : Int) : Int := if x.fr ≤ q ∧ q ≤ x.to then x.vl else 0
def says : List Rg → Int → Int
  | [], _ => 0
  | x :: l, q => sayIn x q + says l q
theorem says_app (l m : List Rg) (q : Int) : says (l ++ m) q = says l q + says m q := by
  induction l with
  | nil => simp [says]
  | cons x l ih => simp only [List.cons_append, says, ih]; omega
theorem says_none {l : List Rg} {q : Int} (h : ∀ y ∈ l, ¬ (y.fr ≤ q ∧ q ≤ y.to)) : says l q = 0 := by
  induction l with
  | nil => rfl
  | cons x l ih =>
    simp only [says, sayIn]
    rw [if_neg (h x (List.mem_cons_self ..)), ih (fun y hy => h y (List.mem_cons_of_mem _ hy))]
    rfl
theorem says_some {l : List Rg} {q : Int} (h : says l q ≠ 0) : ∃ y ∈ l, y.fr ≤ q ∧ q ≤ y.to := by
  refine Classical.byContradiction fun hn => h (says_none fun y hy hc => hn ⟨y, hy, hc⟩)
/-- ranges one behind the other -/
def Apart (l : List Rg) : Prop := l.Pairwise fun x y => x.to < y.fr
theorem says_at {l : List Rg} {q : Int} (hp : Apart l) {y : Rg} (hy : y ∈ l) (h : y.fr ≤ q ∧ q ≤ y.to) : says l q = y.vl := by
  induction l with
  | nil => cases hy
  | cons x l ih =>
    obtain ⟨h1, h2⟩ := List.pairwise_cons.1 hp
    simp only [says]
    rcases List.mem_cons.1 hy with rfl | hy'
    · rw [says_none (l := l) (fun z hz hc => by have := h1 z hz; omega)]
      simp only [sayIn]
      rw [if_pos h]
      omega
    · rw [ih h2 hy']
      have := h1 y hy'
      simp only [sayIn]
      rw [if_neg (by omega)]
      omega

/-- what holds of the ranges when the numbers below p have been gone through, where v says what each is -/
structure RInv (v : Int → Int) (out : List Rg) (p : Int) : Prop where
  val : ∀ q, 0 ≤ q → says out q = if q < p then v q else 0
  to : ∀ y ∈ out, y.to < p
  ap : Apart out
  ok : ∀ y ∈ out, 0 ≤ y.fr ∧ y.fr ≤ y.to ∧ 0 < y.vl ∧ y.vl ≤ 31
  st : ∀ y ∈ out, v y.fr ≠ 0 ∧ (y.fr = 0 ∨ v (y.fr - 1) ≠ v y.fr)
theorem RInv.nil (v : Int → Int) : RInv v [] 0 := ⟨fun q h => by rw [if_neg (by omega)]; rfl, fun y h => (by cases h), List.Pairwise.nil, fun y h => (by cases h), fun y h => (by cases h)⟩
theorem RInv.step {v : Int → Int} {out : List Rg} {p : Int} (h : RInv v out p) (h0 : 0 ≤ p) (hv0 : 0 ≤ v p) (hv1 : v p ≤ 31) : RInv v (rgStep out p (v p)) (p + 1) := by
  by_cases hx : ∃ y, out.getLast? = some y ∧ p = y.to + 1 ∧ v p = y.vl
  · obtain ⟨y, hy, e1, e2⟩ := hx
    obtain ⟨ini, rfl⟩ : ∃ ini, out = ini ++ [y] := List.getLast?_eq_some_iff.1 hy
    have hstep : rgStep (ini ++ [y]) p (v p) = ini ++ [⟨y.fr, p, y.vl⟩] := by
      unfold rgStep
      rw [hy]
      simp only
      rw [if_pos ⟨e1, e2⟩]
      simp
    rw [hstep]
    have hyok := h.ok y (by simp)
    have hini : ∀ z ∈ ini, z.to < y.fr := fun z hz => by
      have := (List.pairwise_append.1 h.ap).2.2 z hz y (by simp)
      exact this
    refine ⟨fun q hq => ?_, fun z hz => ?_, ?_, fun z hz => ?_, fun z hz => ?_⟩
    · have hv := h.val q hq
      rw [says_app] at hv ⊢
      simp only [says, sayIn] at hv ⊢
      by_cases hqp : q = p
      · subst hqp
        have hn : says ini q = 0 := says_none fun z hz hc => by have := hini z hz; omega
        rw [hn, if_pos (show y.fr ≤ q ∧ q ≤ q by omega), if_pos (show q < q + 1 by omega)]
        omega
      · by_cases hlt : q < p
        · rw [if_pos hlt] at hv
          rw [if_pos (show q < p + 1 by omega), ← hv]
          by_cases hf : y.fr ≤ q
          · rw [if_pos (show y.fr ≤ q ∧ q ≤ p from ⟨hf, by omega⟩), if_pos (show y.fr ≤ q ∧ q ≤ y.to from ⟨hf, by omega⟩)]
          · rw [if_neg (show ¬ (y.fr ≤ q ∧ q ≤ p) by omega), if_neg (show ¬ (y.fr ≤ q ∧ q ≤ y.to) by omega)]
        · rw [if_neg hlt, if_neg (show ¬ (y.fr ≤ q ∧ q ≤ y.to) by omega)] at hv
          rw [if_neg (show ¬ q < p + 1 by omega), if_neg (show ¬ (y.fr ≤ q ∧ q ≤ p) by omega)]
          exact hv
    · rcases List.mem_append.1 hz with hz | hz
      · have := h.to z (by simp [hz]); omega
      · simp at hz; subst hz; show p < p + 1; omega
    · have := List.pairwise_append.1 h.ap
      exact List.pairwise_append.2 ⟨this.1, List.pairwise_singleton _ _, fun a ha b hb => by simp at hb; subst hb; exact hini a ha⟩
    · rcases List.mem_append.1 hz with hz | hz
      · exact h.ok z (by simp [hz])
      · simp at hz; subst hz; exact ⟨hyok.1, by show y.fr ≤ p; omega, hyok.2.2.1, hyok.2.2.2⟩
    · rcases List.mem_append.1 hz with hz | hz
      · exact h.st z (by simp [hz])
      · simp at hz; subst hz; exact h.st y (by simp)
  · have hx' : ∀ y, out.getLast? = some y → ¬ (p = y.to + 1 ∧ v p = y.vl) := fun y hy hc => hx ⟨y, hy, hc⟩
    have hnone : says out p = 0 := by have := h.val p h0; rwa [if_neg (by omega)] at this
    by_cases hv : 0 < v p
    · rw [rgStep_app hx' hv]
      refine ⟨fun q hq => ?_, fun z hz => ?_, ?_, fun z hz => ?_, fun z hz => ?_⟩
      · have hvq := h.val q hq
        rw [says_app, hvq]
        simp only [says, sayIn]
        by_cases hqp : q = p
        · subst hqp; rw [if_neg (by omega), if_pos (by omega), if_pos (by omega)]; omega
        · rw [if_neg (by omega : ¬ (p ≤ q ∧ q ≤ p))]
          by_cases hlt : q < p
          · rw [if_pos hlt, if_pos (by omega)]; omega
          · rw [if_neg hlt, if_neg (by omega)]; omega
      · rcases List.mem_append.1 hz with hz | hz
        · have := h.to z hz; omega
        · simp at hz; subst hz; show p < p + 1; omega
      · exact List.pairwise_append.2 ⟨h.ap, List.pairwise_singleton _ _, fun a ha b hb => by simp at hb; subst hb; exact h.to a ha⟩
      · rcases List.mem_append.1 hz with hz | hz
        · exact h.ok z hz
        · simp at hz; subst hz; exact ⟨h0, Int.le_refl _, hv, hv1⟩
      · rcases List.mem_append.1 hz with hz | hz
        · exact h.st z hz
        · simp at hz; subst hz
          refine ⟨by show v p ≠ 0; omega, ?_⟩
          show p = 0 ∨ v (p - 1) ≠ v p
          refine Classical.byContradiction fun hc => ?_
          have hp0 : p ≠ 0 := fun e => hc (.inl e)
          have heq : v (p - 1) = v p := Classical.byContradiction fun e => hc (.inr e)
          have hs := h.val (p - 1) (by omega)
          rw [if_pos (by omega), heq] at hs
          obtain ⟨y, hy, hy1, hy2⟩ := says_some (l := out) (q := p - 1) (by omega)
          have hyto := h.to y hy
          have hyv := says_at h.ap hy ⟨hy1, hy2⟩
          obtain ⟨z, hz⟩ : ∃ z, out.getLast? = some z := by
            cases hl : out.getLast? with
            | none => rw [List.getLast?_eq_none_iff] at hl; subst hl; cases hy
            | some z => exact ⟨z, rfl⟩
          obtain ⟨ini, rfl⟩ : ∃ ini, out = ini ++ [z] := List.getLast?_eq_some_iff.1 hz
          have hzok := h.ok z (by simp)
          have hzt := h.to z (by simp)
          rcases List.mem_append.1 hy with hy' | hy'
          · have : y.to < z.fr := (List.pairwise_append.1 h.ap).2.2 y hy' z (by simp)
            omega
          · simp at hy'; subst hy'
            exact hx' y hz ⟨by omega, by omega⟩
    · rw [rgStep_same hx' hv]
      refine ⟨fun q hq => ?_, fun z hz => by have := h.to z hz; omega, h.ap, h.ok, h.st⟩
      rw [h.val q hq]
      by_cases hqp : q = p
      · subst hqp; rw [if_neg (by omega), if_pos (by omega)]; omega
      · by_cases hlt : q < p
        · rw [if_pos hlt, if_pos (by omega)]
        · rw [if_neg hlt, if_neg (by omega)]
theorem RInv.cols {v : Int → Int} {b : List Int} {p : Int} {out : List Rg} (h : RInv v out p) (h0 : 0 ≤ p) : ∀ k : Nat, (∀ j : Nat, j < k → b.getD j 0 = v (p + j) ∧ 0 ≤ v (p + j) ∧ v (p + j) ≤ 31) → RInv v (colsTo b p out k) (p + k)
  | 0, _ => by simpa [colsTo] using h
  | k + 1, hk => by
    have ih := RInv.cols h h0 k (fun j hj => hk j (by omega))
    obtain ⟨e, v0, v1⟩ := hk k (by omega)
    rw [colsTo_succ, e]
    have := ih.step (by omega) v0 v1
    rwa [show p + ((k + 1 : Nat) : Int) = p + k + 1 by omega]
/-- what a trie says of a number, by its rows -/
def Tr.vals (T : Tr) (q : Int) : Int := T.at_ q.toNat
theorem vals_row (T : Tr) (i j : Nat) (hj : j < 256) : (T.row i).getD j 0 = T.vals ((i : Int) * 256 + j) := by
  unfold Tr.vals Tr.at_ Tr.row
  have e : ((i : Int) * 256 + j).toNat = i * 256 + j := by omega
  rw [e, show (i * 256 + j) / 256 = i by omega, show (i * 256 + j) % 256 = j by omega]
theorem vals_ok {T : Tr} (h : T.rightB = true) (i j : Nat) (hi : i < 4352) (hj : j < 256) : 0 ≤ T.vals ((i : Int) * 256 + j) ∧ T.vals ((i : Int) * 256 + j) ≤ 31 := by
  rw [← vals_row T i j hj]
  obtain ⟨hl, hx⟩ := Tr.right_ix h
  obtain ⟨n, hn, hnl⟩ := hx i (by omega)
  obtain ⟨hb, hv⟩ := Tr.right_bl h n hnl
  have : T.row i = T.bl[n] := row_at (n := n) (by rw [List.getElem?_eq_getElem (by omega), hn]) (List.getElem?_eq_getElem hnl)
  rw [this, getD_get (by omega)]
  exact hv j (by omega)
theorem RInv.rows {T : Tr} (h : T.rightB = true) : ∀ i : Nat, i ≤ 4352 → RInv T.vals (rowsTo T i) ((i : Int) * 256)
  | 0, _ => by simpa [rowsTo] using RInv.nil T.vals
  | i + 1, hi => by
    have ih := RInv.rows h i (by omega)
    rw [rowsTo_succ]
    have := ih.cols (b := T.row i) (by omega) 256 (fun j hj => ⟨vals_row T i j hj, vals_ok h i j (by omega) hj⟩)
    rwa [show (((i + 1 : Nat) : Int) * 256) = (i : Int) * 256 + ((256 : Nat) : Int) by omega]
theorem rinv {T : Tr} (h : T.rightB = true) : RInv T.vals (rowsTo T 4352) 1114112 := by
  have := RInv.rows h 4352 (Nat.le_refl _)
  rwa [show ((4352 : Nat) : Int) * 256 = 1114112 by rfl] at this

/-- where two tries' ranges are the same, the tries say the same -/
theorem vals_of_ranges {T U : Tr} (hT : T.rightB = true) (hU : U.rightB = true) (h : rowsTo T 4352 = rowsTo U 4352) (q : Int) (h0 : 0 ≤ q) (h1 : q < 1114112) : T.vals q = U.vals q := by
  have a := (rinv hT).val q h0
  have b := (rinv hU).val q h0
  rw [if_pos h1] at a b
  rw [← a, ← b, h]

/-- a list without doubles lies in no shorter one -/
theorem nodup_le {α : Type} [BEq α] [LawfulBEq α] : ∀ (l S : List α), l.Nodup → (∀ x ∈ l, x ∈ S) → l.length ≤ S.length
  | [], _, _, _ => Nat.zero_le _
  | x :: l, S, hn, hs => by
    obtain ⟨h1, h2⟩ := List.nodup_cons.1 hn
    have hx := hs x (List.mem_cons_self ..)
    have := nodup_le l (S.erase x) h2 (fun y hy => (List.mem_erase_of_ne (fun e => h1 (by rw [← e]; exact hy))).2 (hs y (List.mem_cons_of_mem _ hy)))
    rw [List.length_erase_of_mem hx] at this
    have := List.length_pos_of_mem hx
    simp only [List.length_cons]
    omega

/-- right lists of ranges, as the program has it -/
theorem rightGo_from : ∀ (l : List Rg) (last g : Int), rightGo last l = true → g ≤ last → g ≤ 1114111 → ∀ y ∈ l, g < y.fr
  | [], _, _, _, _, _, y, hy => by cases hy
  | x :: l, last, g, h, hg, hm, y, hy => by
    simp only [rightGo, Bool.and_eq_true, decide_eq_true_eq] at h
    rcases List.mem_cons.1 hy with rfl | hy
    · omega
    · have ho := h.1.1
      unfold Rg.oneB at ho
      simp only [Bool.and_eq_true, Bool.or_eq_true, decide_eq_true_eq] at ho
      exact rightGo_from l x.to g h.2 (by omega) hm y hy
theorem rightGo_apart : ∀ (l : List Rg) (last : Int), rightGo last l = true → Apart l
  | [], _, _ => List.Pairwise.nil
  | x :: l, last, h => by
    simp only [rightGo, Bool.and_eq_true, decide_eq_true_eq] at h
    have ho := h.1.1
    unfold Rg.oneB at ho
    simp only [Bool.and_eq_true, Bool.or_eq_true, decide_eq_true_eq] at ho
    exact List.pairwise_cons.2 ⟨rightGo_from l x.to x.to h.2 (Int.le_refl _) (by omega), rightGo_apart l _ h.2⟩
theorem right_apart {l : List Rg} (h : rightB l = true) : Apart l := by
  unfold rightB at h
  rw [Bool.and_eq_true] at h
  exact rightGo_apart l _ h.1
theorem right_one {l : List Rg} (h : rightB l = true) : ∀ y ∈ l, 0 ≤ y.fr ∧ 0 ≤ y.vl ∧ y.vl ≤ 31 ∧ (y.fr ≤ y.to ∧ y.to ≤ 1114111 ∨ y.to = 1114111) := fun y hy => by
  unfold rightB at h
  rw [Bool.and_eq_true] at h
  have ho := rightGo_all l _ h.1 y hy
  unfold Rg.oneB at ho
  simp only [Bool.and_eq_true, Bool.or_eq_true, decide_eq_true_eq] at ho
  omega

/-- a row filled by ranges one behind the other -/
theorem fill_get (f j : Nat) : ∀ (l : List Rg) (x : List Int), Apart l → j < x.length → (l.foldl (fillOne f) x).getD j 0 = if (∃ y ∈ l, y.fr ≤ (f : Int) + j ∧ (f : Int) + j ≤ y.to) then says l ((f : Int) + j) else x.getD j 0
  | [], x, _, _ => by rw [if_neg (fun ⟨y, hy, _⟩ => by cases hy)]; rfl
  | y :: l, x, hp, hj => by
    obtain ⟨h1, h2⟩ := List.pairwise_cons.1 hp
    have ih := fill_get f j l (fillOne f x y) h2 (by rw [fillOne_len]; exact hj)
    rw [List.foldl_cons, ih]
    have hg : (fillOne f x y).getD j 0 = if y.fr ≤ (f : Int) + j ∧ (f : Int) + j ≤ y.to then y.vl else x.getD j 0 := by
      rw [getD_get (by rw [fillOne_len]; exact hj), getD_get hj]
      simp only [fillOne, List.getElem_mapIdx]
    by_cases hc : ∃ z ∈ l, z.fr ≤ (f : Int) + j ∧ (f : Int) + j ≤ z.to
    · obtain ⟨z, hz, hzc⟩ := hc
      have := h1 z hz
      rw [if_pos ⟨z, hz, hzc⟩, if_pos ⟨z, List.mem_cons_of_mem _ hz, hzc⟩]
      simp only [says, sayIn]
      rw [if_neg (by omega)]
      omega
    · rw [if_neg hc, hg]
      have hn : says l ((f : Int) + j) = 0 := says_none fun z hz hzc => hc ⟨z, hz, hzc⟩
      by_cases hy : y.fr ≤ (f : Int) + j ∧ (f : Int) + j ≤ y.to
      · rw [if_pos hy, if_pos ⟨y, List.mem_cons_self .., hy⟩]
        simp only [says, sayIn]
        rw [if_pos hy, hn]
        omega
      · rw [if_neg hy, if_neg (fun ⟨z, hz, hzc⟩ => by
          rcases List.mem_cons.1 hz with rfl | hz
          · exact hy hzc
          · exact hc ⟨z, hz, hzc⟩)]
theorem fillRow_get {l : List Rg} (hp : Apart l) (i j : Nat) (hj : j < 256) : (fillRow i l).getD j 0 = says l ((i : Int) * 256 + j) := by
  unfold fillRow
  rw [fill_get _ _ _ _ hp (by rw [List.length_replicate]; exact hj)]
  have e : (((i * 256 : Nat) : Int) + j) = (i : Int) * 256 + j := by omega
  rw [e]
  split
  · rfl
  · rename_i hn
    rw [says_none (fun y hy hc => hn ⟨y, hy, hc⟩)]
    rw [List.getD_eq_getElem?_getD, List.getElem?_replicate]
    split <;> rfl

theorem skip_to {l : List Rg} {f : Int} {k : Nat} {g : Int} (hfg : f ≤ g) (hk : ∀ y ∈ l.take k, y.to < g) : ∀ y ∈ l.take (skipTo l f k), y.to < g := by
  intro y hy
  unfold skipTo at hy
  rw [List.take_add] at hy
  rcases List.mem_append.1 hy with hy | hy
  · exact hk y hy
  · have hpre : (l.drop k).take ((l.drop k).takeWhile (fun x => decide (x.to < f))).length = (l.drop k).takeWhile (fun x => decide (x.to < f)) := by
      have := List.takeWhile_append_dropWhile (p := fun x : Rg => decide (x.to < f)) (l := l.drop k)
      conv => lhs; rw [← this]
      rw [this]
      exact (List.prefix_iff_eq_take.1 (List.takeWhile_prefix _)).symm
    rw [hpre] at hy
    have := List.all_eq_true.1 (List.all_takeWhile (p := fun x : Rg => decide (x.to < f)) (l := l.drop k)) y hy
    simp only [decide_eq_true_eq] at this
    omega
theorem at_to (l : List Rg) : ∀ i, ∀ y ∈ l.take (atRow l i), y.to < (i : Int) * 256
  | 0 => by rw [atRow]; exact skip_to (by omega) (fun y hy => by simp at hy)
  | i + 1 => by
    rw [atRow]
    exact skip_to (by omega) (fun y hy => by have := at_to l i y hy; omega)
/-- behind a row's ranges all begin behind the row -/
theorem drop_from : ∀ (l : List Rg) (last g : Int), rightGo last l = true → g ≤ 1114111 → ∀ y ∈ l.dropWhile (fun x => decide (x.fr ≤ g)), g < y.fr
  | [], _, _, _, _, y, hy => by cases hy
  | x :: l, last, g, h, hg, y, hy => by
    simp only [rightGo, Bool.and_eq_true, decide_eq_true_eq] at h
    rw [List.dropWhile_cons] at hy
    split at hy
    · exact drop_from l _ g h.2 hg y hy
    · rename_i hx
      simp only [decide_eq_true_eq] at hx
      rcases List.mem_cons.1 hy with rfl | hy
      · omega
      · have ho := h.1.1
        unfold Rg.oneB at ho
        simp only [Bool.and_eq_true, Bool.or_eq_true, decide_eq_true_eq] at ho
        exact rightGo_from l x.to g h.2 (by omega) hg y hy
theorem rightGo_drop : ∀ (l : List Rg) (last : Int) (k : Nat), rightGo last l = true → ∃ last', rightGo last' (l.drop k) = true
  | l, last, 0, h => ⟨last, by simpa using h⟩
  | [], last, k + 1, _ => ⟨last, rfl⟩
  | x :: l, last, k + 1, h => by
    simp only [rightGo, Bool.and_eq_true, decide_eq_true_eq] at h
    exact rightGo_drop l _ k h.2
theorem subRow_eq (l : List Rg) (i : Nat) : subRow l i = (l.drop (atRow l i)).takeWhile (fun x => decide (x.fr ≤ (i : Int) * 256 + 255)) := by
  unfold subRow endRow endTo
  rw [Nat.add_sub_cancel_left]
  exact (List.prefix_iff_eq_take.1 (List.takeWhile_prefix _)).symm
/-- in a row, a row's ranges say what all say -/
theorem sub_says {l : List Rg} (h : rightB l = true) (i j : Nat) (hi : i < 4352) (hj : j < 256) : says (subRow l i) ((i : Int) * 256 + j) = says l ((i : Int) * 256 + j) := by
  unfold rightB at h
  rw [Bool.and_eq_true] at h
  obtain ⟨last', hd⟩ := rightGo_drop l (-1) (atRow l i) h.1
  have hsp : l = l.take (atRow l i) ++ ((l.drop (atRow l i)).takeWhile (fun x => decide (x.fr ≤ (i : Int) * 256 + 255)) ++ (l.drop (atRow l i)).dropWhile (fun x => decide (x.fr ≤ (i : Int) * 256 + 255))) := by
    rw [List.takeWhile_append_dropWhile, List.take_append_drop]
  rw [subRow_eq]
  conv => rhs; rw [hsp]
  rw [says_app, says_app, says_none (l := l.take (atRow l i)) (fun y hy hc => by have := at_to l i y hy; omega),
    says_none (l := (l.drop (atRow l i)).dropWhile _) (fun y hy hc => by have := drop_from _ _ _ hd (by omega) y hy; omega)]
  omega
theorem apart_sub {l : List Rg} (h : Apart l) (i : Nat) : Apart (subRow l i) := by
  unfold subRow
  exact (h.sublist (List.drop_sublist _ _)).sublist (List.take_sublist _ _)
/-- a row of a map's trie -/
theorem row_says {l : List Rg} (h : rightB l = true) (i j : Nat) (hi : i < 4352) (hj : j < 256) : (fillRow i (subRow l i)).getD j 0 = says l ((i : Int) * 256 + j) := by
  rw [fillRow_get (apart_sub (right_apart h) i) i j hj, sub_says h i j hi hj]

/-- a map's rows -/
def rowsL (l : List Rg) : List (List Int) := (List.range 4352).map fun i => fillRow i (subRow l i)
theorem rowsL_eq (l : List Rg) : (rowsOf l).map (fun x => fillRow x.1 x.2) = rowsL l := by
  unfold rowsOf rowsL; rw [List.map_map]; rfl
theorem rowsL_len (l : List Rg) : (rowsL l).length = 4352 := by unfold rowsL; rw [List.length_map, List.length_range]
theorem rowsL_get (l : List Rg) (i : Nat) (hi : i < (rowsL l).length) : (rowsL l)[i] = fillRow i (subRow l i) := by
  simp only [rowsL, List.getElem_map, List.getElem_range]
theorem rowsL_ok {l : List Rg} (h : rightB l = true) : ∀ x ∈ rowsL l, blockB x = true := fun x hx => by
  unfold rowsL at hx
  obtain ⟨i, _, rfl⟩ := List.mem_map.1 hx
  refine blockB_fill _ _ (fun y hy => ?_)
  unfold subRow at hy
  have := right_one h y (List.mem_of_mem_drop (List.mem_of_mem_take hy))
  unfold valB
  simp only [Bool.and_eq_true, decide_eq_true_eq]
  omega
/-- a map's trie -/
def trOf (l : List Rg) : Tr := addAll ⟨[], []⟩ (rowsL l)
theorem built_of {l : List Rg} (h : rightB l = true) : builtB l = (trOf l, 0) := by
  unfold builtB trOf
  rw [if_pos h, foldRows_eq, rowsL_eq]
theorem trOf_ok {l : List Rg} (h : rightB l = true) : TOk (trOf l) ∧ (trOf l).ix.length = 4352 ∧ ∀ i (_ : i < 4352), (trOf l).row i = fillRow i (subRow l i) := by
  obtain ⟨i1, i2, i3⟩ := addAll_ok _ (rowsL_ok h)
  exact ⟨i1, by rw [← rowsL_len l]; exact i2, fun i hi => by rw [← rowsL_get l i (by rw [rowsL_len]; exact hi)]; exact i3 i (by rw [rowsL_len]; exact hi)⟩
theorem trOf_right {l : List Rg} (h : rightB l = true) : (trOf l).rightB = true := right_of_ok (trOf_ok h).1 (trOf_ok h).2.1
theorem trOf_vals {l : List Rg} (h : rightB l = true) (q : Int) (h0 : 0 ≤ q) (h1 : q < 1114112) : (trOf l).vals q = says l q := by
  have e : q = ((q.toNat / 256 : Nat) : Int) * 256 + ((q.toNat % 256 : Nat) : Int) := by omega
  rw [e, ← vals_row _ _ _ (by omega), (trOf_ok h).2.2 _ (by omega), row_says h _ _ (by omega) (by omega)]
/-- maps that say the same have one trie -/
theorem trOf_same {l m : List Rg} (hl : rightB l = true) (hm : rightB m = true) (h : ∀ q, 0 ≤ q → q < 1114112 → says l q = says m q) : trOf l = trOf m := by
  suffices e : rowsL l = rowsL m by unfold trOf; rw [e]
  apply List.ext_getElem
  · rw [rowsL_len, rowsL_len]
  · intro i h1 h2
    rw [rowsL_get, rowsL_get]
    rw [rowsL_len] at h1
    apply List.ext_getElem
    · rw [fillRow_len, fillRow_len]
    · intro j g1 g2
      have a := row_says hl i j h1 (by rw [fillRow_len] at g1; exact g1)
      have b := row_says hm i j h1 (by rw [fillRow_len] at g1; exact g1)
      rw [getD_get g1] at a
      rw [getD_get g2] at b
      rw [fillRow_len] at g1
      rw [a, b, h _ (by omega) (by omega)]

/-- how many ranges a map's trie has -/
theorem few_ranges {l : List Rg} (h : rightB l = true) : (rowsTo (trOf l) 4352).length ≤ l.length := by
  have R := rinv (trOf_right h)
  generalize rowsTo (trOf l) 4352 = out at R ⊢
  have hfr : (out.map (·.fr)).Nodup := by
    rw [List.nodup_iff_pairwise_ne, List.pairwise_map]
    exact List.Pairwise.imp_of_mem (fun {a b} ha hb hab => by
      have := R.ok a ha
      omega) R.ap
  have := nodup_le (out.map (·.fr)) (l.map (·.fr)) hfr (fun f hf => by
    obtain ⟨y, hy, rfl⟩ := List.mem_map.1 hf
    have hok := R.ok y hy
    have hto := R.to y hy
    obtain ⟨hne, hst⟩ := R.st y hy
    have hv := trOf_vals h y.fr (by omega) (by omega)
    rw [hv] at hne
    obtain ⟨x, hx, hx1, hx2⟩ := says_some hne
    have hxv := says_at (right_apart h) hx ⟨hx1, hx2⟩
    have hone := right_one h x hx
    refine List.mem_map.2 ⟨x, hx, ?_⟩
    refine Classical.byContradiction fun hc => ?_
    rcases hst with hz | hz
    · omega
    · have hv' := trOf_vals h (y.fr - 1) (by omega) (by omega)
      have hxv' := says_at (right_apart h) hx (q := y.fr - 1) ⟨by omega, by omega⟩
      exact hz (by rw [hv', hv, hxv, hxv']))
  simpa using this
theorem ranges_of {l : List Rg} (h : rightB l = true) : rangesB (trOf l) = (rowsTo (trOf l) 4352, 0) := by
  unfold rangesB
  have := few_ranges h
  have hl : l.length ≤ 600 := by
    unfold rightB at h
    rw [Bool.and_eq_true, decide_eq_true_eq] at h
    exact h.2
  rw [if_pos (trOf_right h), if_neg (by omega)]
theorem ranges_neg (h : ¬ (Tr.mk [] []).rightB = true) : rangesB ⟨[], []⟩ = ([], 50) := if_neg h

/-- two maps' tries are the same just if their ranges are -/
theorem two_law {l m : List Rg} (hl : rightB l = true) (hm : rightB m = true) : decide (trOf l = trOf m) = decide (rowsTo (trOf l) 4352 = rowsTo (trOf m) 4352) := by
  rw [decide_eq_decide]
  constructor
  · intro e; rw [e]
  · intro e
    refine trOf_same hl hm fun q h0 h1 => ?_
    rw [← trOf_vals hl q h0 h1, ← trOf_vals hm q h0 h1]
    exact vals_of_ranges (trOf_right hl) (trOf_right hm) e q h0 h1

/-- a trie's ranges are a map -/
theorem rightGo_mk : ∀ (l : List Rg) (last : Int), Apart l → (∀ y ∈ l, 0 ≤ y.fr ∧ y.fr ≤ y.to ∧ y.to ≤ 1114111 ∧ 0 ≤ y.vl ∧ y.vl ≤ 31 ∧ last < y.fr) → rightGo last l = true
  | [], _, _, _ => rfl
  | x :: l, last, hp, h => by
    obtain ⟨h1, h2⟩ := List.pairwise_cons.1 hp
    have hx := h x (List.mem_cons_self ..)
    simp only [rightGo, Bool.and_eq_true, decide_eq_true_eq]
    refine ⟨⟨?_, hx.2.2.2.2.2⟩, rightGo_mk l x.to h2 fun y hy => ?_⟩
    · unfold Rg.oneB
      simp only [Bool.and_eq_true, Bool.or_eq_true, decide_eq_true_eq]
      omega
    · have := h y (List.mem_cons_of_mem _ hy)
      have := h1 y hy
      omega
theorem ranges_right {T : Tr} (h : T.rightB = true) (hl : (rowsTo T 4352).length ≤ 600) : rightB (rowsTo T 4352) = true := by
  have R := rinv h
  unfold rightB
  rw [Bool.and_eq_true, decide_eq_true_eq]
  exact ⟨rightGo_mk _ _ R.ap fun y hy => by have := R.ok y hy; have := R.to y hy; omega, hl⟩
/-- the trie of a map's ranges is the map's -/
theorem again_law {l : List Rg} (h : rightB l = true) : rightB (rowsTo (trOf l) 4352) = true ∧ trOf (rowsTo (trOf l) 4352) = trOf l := by
  have hl : l.length ≤ 600 := by
    unfold rightB at h
    rw [Bool.and_eq_true, decide_eq_true_eq] at h
    exact h.2
  have hr := ranges_right (trOf_right h) (Nat.le_trans (few_ranges h) hl)
  refine ⟨hr, trOf_same hr h fun q h0 h1 => ?_⟩
  have := (rinv (trOf_right h)).val q h0
  rw [if_pos h1] at this
  rw [this, trOf_vals h q h0 h1]

/-- the least trie of a trie's rows, and its number -/
def leastB (T : Tr) : Tr × Int := if T.rightB then (addAll ⟨[], []⟩ (T.ix.map fun n => T.bl.getD n.toNat []), 0) else (⟨[], []⟩, 50)
theorem rows_of_any {T : Tr} {ls : List (List Int)} {n : Nat} (i2 : T.ix.length = n) (hl : ls.length = n) (i3 : ∀ i (hi : i < ls.length), T.row i = ls[i]) : T.ix.map (fun n => T.bl.getD n.toNat []) = ls := by
  apply List.ext_getElem
  · rw [List.length_map, i2, hl]
  · intro i g1 g2
    rw [← i3 i g2, List.getElem_map]
    unfold Tr.row
    rw [getD_get (show i < T.ix.length by omega)]
theorem rows_of {l : List Rg} (h : rightB l = true) : (trOf l).ix.map (fun n => (trOf l).bl.getD n.toNat []) = rowsL l :=
  rows_of_any (trOf_ok h).2.1 (rowsL_len l) fun i hi => ((trOf_ok h).2.2 i (by rw [← rowsL_len l]; exact hi)).trans (rowsL_get l i hi).symm
theorem least_law {l : List Rg} (h : rightB l = true) : leastB (trOf l) = (trOf l, 0) := by
  unfold leastB
  rw [if_pos (trOf_right h), rows_of h]
  unfold trOf
  exact Eq.refl _
end Go.Proofs.YtibndkkbmgbogaaDoor
