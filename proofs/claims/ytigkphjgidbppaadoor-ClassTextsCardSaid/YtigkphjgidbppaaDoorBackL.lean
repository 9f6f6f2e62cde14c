/- Plain: what is printed is parsed as it. No program in sight. -/
import Derived.Test.YtigkphjgidbppaaDoorSplitL
namespace Go.Proofs.YtigkphjgidbppaaDoor
open Go Go.RowKit

/-- no byte of a name is a blank, a bracket, ^ or a point -/
theorem name_byte {s : ByteArray} (h : isNameB s = true) {b : UInt8} (hb : b ∈ s.data.toList) : letB b = true := by
  unfold isNameB at h
  simp only [Bool.and_eq_true, List.all_eq_true] at h
  exact h.1 b hb
theorem name_no {s : ByteArray} (h : isNameB s = true) {b : UInt8} (hb : letB b = false) : b ∉ s.data.toList := fun e => by
  rw [name_byte h e] at hb
  cases hb
theorem name_ne {s : ByteArray} (h : isNameB s = true) : s.data.toList ≠ [] := fun e => by
  unfold isNameB at h
  simp only [Bool.and_eq_true, decide_eq_true_eq] at h
  have : s.size = s.data.toList.length := rfl
  rw [e] at this
  have h2 := h.2.1
  rw [this] at h2
  simp at h2

theorem fold_names (l : List ByteArray) (hn : l.Nodup) : ∀ (cs : List Int) (s : Nat), (∀ c ∈ cs, 0 ≤ c ∧ c < l.length) → cs.Nodup → (∀ c ∈ cs, s.testBit c.toNat = false) → foldS l (namesOf l cs) s = some (orS cs s)
  | [], _, _, _, _ => rfl
  | c :: r, s, h1, h2, h3 => by
    obtain ⟨a, b⟩ := h1 c (by simp)
    obtain ⟨k, rfl⟩ : ∃ k : Nat, c = (k : Int) := ⟨c.toNat, by omega⟩
    have hk : k < l.length := by omega
    have hb : s.testBit k = false := by simpa using h3 (k : Int) (by simp)
    rw [List.nodup_cons] at h2
    have e : namesOf l ((k : Int) :: r) = l[k] :: namesOf l r := by simp [namesOf, List.getElem?_eq_getElem hk]
    rw [e, foldS, num_at hn hk]
    simp only
    rw [if_neg (by rw [hb]; decide)]
    rw [fold_names l hn r (s ||| 2 ^ k) (fun c hc => h1 c (by simp [hc])) h2.2 (fun c hc => by
      rw [Nat.testBit_or, h3 c (by simp [hc]), Nat.testBit_two_pow, Bool.false_or, decide_eq_false_iff_not]
      intro e
      obtain ⟨a', b'⟩ := h1 c (by simp [hc])
      apply h2.1
      rw [show (k : Int) = c by omega]
      exact hc)]
    rfl

theorem classes_nodup (set : Int) : (classesB set).Nodup := by
  unfold classesB List.Nodup
  rw [List.pairwise_map]
  refine List.Pairwise.imp ?_ (List.Pairwise.filter _ List.nodup_range)
  intro a b h e
  exact h (by omega)
theorem or_classes {s : Nat} (hs : s < 2 ^ 32) : orS (classesB (s : Int)) 0 = s := by
  have h := of_classes hs
  rw [of_ok (classes_ok _)] at h
  have h2 := congrArg Prod.fst h
  simp only at h2
  omega

/-- what stands in brackets is read as the set -/
theorem fold_list {l : List ByteArray} (hn : namesB l = true) {s : Nat} (hs : rightB (s : Int) l.length = true) (h0 : classesB (s : Int) ≠ []) : foldS l (splitT (listB (s : Int) l)) 0 = some s := by
  obtain ⟨-, -, hnd, hnm⟩ := (names_iff l).1 hn
  obtain ⟨s', k, e1, e2, k1, k2, k3⟩ := right_nat hs
  have hb := right_below hs
  have hs32 : s < 2 ^ 32 := by
    have : s = s' := by omega
    rw [this]; exact Nat.lt_of_lt_of_le k3 (pow_le32 k2)
  have hmem : ∀ x ∈ namesOf l (classesB (s : Int)), x ∈ l := fun x hx => by
    unfold namesOf at hx
    obtain ⟨c, hc, rfl⟩ := List.mem_map.1 hx
    obtain ⟨a, b⟩ := hb c (classes_mem.1 hc)
    rw [getD_get (show c.toNat < l.length by omega)]
    exact List.getElem_mem _
  unfold listB
  rw [splitT_join _ (by unfold namesOf; simpa using h0) (fun x hx => name_no (hnm x (hmem x hx)) (by decide))]
  rw [fold_names l hnd _ 0 (fun c hc => hb c (classes_mem.1 hc)) (classes_nodup _) (fun c _ => by simp), or_classes hs32]

/-- the list's head, where there is one, is a name's -/
theorem list_head {l : List ByteArray} (hn : namesB l = true) {set : Int} (hs : rightB set l.length = true) : (classesB set = [] ∧ (listB set l).data.toList = []) ∨ (classesB set ≠ [] ∧ ∃ b r, (listB set l).data.toList = b :: r ∧ letB b = true) := by
  obtain ⟨-, -, hnd, hnm⟩ := (names_iff l).1 hn
  have hb := right_below hs
  cases hc : classesB set with
  | nil => left; refine ⟨rfl, ?_⟩; unfold listB; rw [hc]; rfl
  | cons c cs =>
    right
    refine ⟨by simp, ?_⟩
    obtain ⟨a, b⟩ := hb c (classes_mem.1 (by rw [hc]; simp))
    have hk : c.toNat < l.length := by omega
    have hx := hnm _ (List.getElem_mem hk)
    unfold listB
    rw [hc, joinB_data, show namesOf l (c :: cs) = l[c.toNat] :: namesOf l cs by simp [namesOf, List.getElem?_eq_getElem hk], List.map_cons, Lib.join_cons]
    cases hd : l[c.toNat].data.toList with
    | nil => exact absurd hd (name_ne hx)
    | cons y ys => exact ⟨y, _, rfl, name_byte hx (by rw [hd]; simp)⟩

theorem app_data (a b : ByteArray) : (a ++ b).data.toList = a.data.toList ++ b.data.toList := by simp

/-- a text in brackets -/
theorem inside_br (L : ByteArray) : insideB (⟨#[91]⟩ ++ L ++ ⟨#[93]⟩) = (L, true) := by
  have e : (⟨#[91]⟩ ++ L ++ ⟨#[93]⟩ : ByteArray).data.toList = 91 :: (L.data.toList ++ [93]) := by simp
  have h1 : Lib.hasPrefix (91 :: (L.data.toList ++ [93])) [91] = true := by simp [Lib.hasPrefix]
  have h2 : Lib.trimPrefix (91 :: (L.data.toList ++ [93])) [91] = L.data.toList ++ [93] := by unfold Lib.trimPrefix; rw [if_pos h1]; rfl
  have h3 : Lib.hasSuffix (L.data.toList ++ [93]) [93] = true := by
    unfold Lib.hasSuffix
    rw [List.isSuffixOf_iff_suffix]
    exact List.suffix_append _ _
  have h4 : Lib.trimSuffix (L.data.toList ++ [93]) [93] = L.data.toList := by
    unfold Lib.trimSuffix
    rw [if_pos h3]
    simp
  unfold insideB
  rw [e, h1, h2, h3, h4]
  simp
theorem br_ne (L : ByteArray) : ¬ (⟨#[91]⟩ ++ L ++ ⟨#[93]⟩ : ByteArray) = ⟨#[46]⟩ := fun e => by
  have := congrArg (fun s : ByteArray => s.data.toList) e
  simp at this
theorem br_num {l : List ByteArray} (hn : namesB l = true) (L : ByteArray) : numB l (⟨#[91]⟩ ++ L ++ ⟨#[93]⟩) = none := by
  obtain ⟨-, -, hnd, hnm⟩ := (names_iff l).1 hn
  cases h : numB l (⟨#[91]⟩ ++ L ++ ⟨#[93]⟩) with
  | none => rfl
  | some i =>
    obtain ⟨hi, e⟩ := num_some h
    have h1 := hnm _ (List.getElem_mem hi)
    rw [e] at h1
    exact absurd (show (91 : UInt8) ∈ _ by simp) (name_no h1 (b := 91) (by decide))

theorem rest_of (s L : ByteArray) (h : (insideB s).1 = L) (hh : Lib.hasPrefix L.data.toList [94] = false) : restB s = L ∧ notS s = false := by
  unfold restB notS
  rw [h, hh]
  refine ⟨?_, rfl⟩
  unfold Lib.trimPrefix
  rw [if_neg (by rw [hh]; decide)]
theorem rest_hat (s L : ByteArray) (h : (insideB s).1 = ⟨#[94]⟩ ++ L) : restB s = L ∧ notS s = true := by
  unfold restB notS
  have e : (⟨#[94]⟩ ++ L : ByteArray).data.toList = 94 :: L.data.toList := by simp
  have hh : Lib.hasPrefix (94 :: L.data.toList) [94] = true := by simp [Lib.hasPrefix]
  rw [h, e, hh]
  refine ⟨?_, rfl⟩
  unfold Lib.trimPrefix
  rw [if_pos hh]
  simp

theorem setS_list {l : List ByteArray} (hn : namesB l = true) {s : Nat} (hs : rightB (s : Int) l.length = true) (t : ByteArray) (h : restB t = listB (s : Int) l) : setS l t = some s := by
  unfold setS
  rw [h]
  rcases list_head hn hs with ⟨h1, h2⟩ | ⟨h1, b, r, h2, _⟩
  · have hs32 : s < 2 ^ 32 := by
      obtain ⟨s', k, e1, e2, k1, k2, k3⟩ := right_nat hs
      have : s = s' := by omega
      rw [this]; exact Nat.lt_of_lt_of_le k3 (pow_le32 k2)
    rw [if_pos (data_inj h2)]
    have := or_classes hs32
    rw [h1] at this
    rw [← this]
    rfl
  · rw [if_neg (fun e => by rw [e] at h2; simp at h2), fold_list hn hs h1]

/-- a set's list in brackets -/
theorem parse_in {l : List ByteArray} (hn : namesB l = true) {s : Nat} (hs : rightB (s : Int) l.length = true) : parseB (⟨#[91]⟩ ++ listB (s : Int) l ++ ⟨#[93]⟩) l = ((s : Int), 0) := by
  have hi := inside_br (listB (s : Int) l)
  have hr := rest_of (⟨#[91]⟩ ++ listB (s : Int) l ++ ⟨#[93]⟩) (listB (s : Int) l) (by rw [hi]) (by
    rcases list_head hn hs with ⟨_, h2⟩ | ⟨_, b, r, h2, h3⟩
    · rw [h2]; rfl
    · rw [h2]
      have : (94 == b) = false := beq_eq_false_iff_ne.2 (fun e => by subst e; revert h3; decide)
      simp [Lib.hasPrefix, List.isPrefixOf, this])
  rw [parse_set _ l s (br_ne _) (br_num hn _) (by rw [hi]) (setS_list hn hs _ hr.1), hr.2]
  rfl
theorem parse_out_of {l : List ByteArray} (hn : namesB l = true) {s : Nat} (hs : rightB (s : Int) l.length = true) : parseB (⟨#[91, 94]⟩ ++ listB (s : Int) l ++ ⟨#[93]⟩) l = (notB (s : Int) l.length, 0) := by
  have e : (⟨#[91, 94]⟩ ++ listB (s : Int) l ++ ⟨#[93]⟩ : ByteArray) = ⟨#[91]⟩ ++ (⟨#[94]⟩ ++ listB (s : Int) l) ++ ⟨#[93]⟩ := data_inj (by simp)
  rw [e]
  have hi := inside_br (⟨#[94]⟩ ++ listB (s : Int) l)
  have hr := rest_hat (⟨#[91]⟩ ++ (⟨#[94]⟩ ++ listB (s : Int) l) ++ ⟨#[93]⟩) (listB (s : Int) l) (by rw [hi])
  rw [parse_set _ l s (br_ne _) (br_num hn _) (by rw [hi]) (setS_list hn hs _ hr.1), hr.2]
  rfl
end Go.Proofs.YtigkphjgidbppaaDoor
