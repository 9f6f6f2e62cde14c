/- Plain facts on what Load answers: at a trie's bytes; at bytes of which one has turned; and what an answer tells. No program in sight; conditions: stated. -/
import Derived.Test.YtibndkkbmgbogaaDoorPLoadL
namespace Go.Proofs.YtibndkkbmgbogaaDoor
open Go Go.RowKit

theorem ext_list (s : ByteArray) (a b : Nat) : (s.extract a b).data.toList = (s.data.toList.drop a).take (b - a) := by
  rw [ByteArray.data_extract, Array.toList_extract, List.extract_eq_take_drop]
theorem bytes_of {s t : ByteArray} (h : s.data.toList = t.data.toList) : s = t := ByteArray.ext (Array.ext' h)
theorem size_list (s : ByteArray) : s.size = s.data.toList.length := by simp
theorem getD_list (s : ByteArray) (i : Nat) : s.data.getD i 0 = s.data.toList.getD i 0 := by
  simp [Array.getD_eq_getD_getElem?, List.getD_eq_getElem?_getD]

theorem twoB_len (n : Nat) : (twoB n).length = 2 := rfl
theorem packB_len (T : Tr) : (packB T).length = (bodyB T).length + 2 := by unfold packB; rw [List.length_append, twoB_len]
theorem bodyB_len (T : Tr) : 5 ≤ (bodyB T).length := by
  unfold bodyB
  simp only [List.length_append, twoB_len]
  have : markB.length = 3 := rfl
  omega
/-- behind the mark, and before the sum -/
def midB (T : Tr) : List UInt8 := twoB T.bl.length ++ blksB T.bl ++ idxB (runsOf T.ix)
theorem bodyB_mid (T : Tr) : bodyB T = markB ++ midB T := by unfold bodyB midB; simp only [List.append_assoc]
theorem packB_mid (T : Tr) : packB T = markB ++ midB T ++ twoB (sumB (bodyB T) % 65536) := by unfold packB; rw [bodyB_mid]
def numB (l : List UInt8) (i : Nat) : Nat := (l.getD i 0).toNat * 256 + (l.getD (i + 1) 0).toNat
theorem num_two (l m : List UInt8) (n : Nat) (hn : n < 65536) : numB (l ++ (twoB n ++ m)) l.length = n := by
  unfold numB twoB
  simp only [List.getD_eq_getElem?_getD, List.getElem?_append_right (Nat.le_refl l.length), List.getElem?_append_right (Nat.le_succ l.length), Nat.sub_self]
  rw [show l.length + 1 - l.length = 1 by omega]
  simp only [List.cons_append, List.getElem?_cons_zero, List.getElem?_cons_succ, Option.getD_some]
  rw [UInt8.toNat_ofNat_of_lt' (show n / 256 < UInt8.size by change n / 256 < 256; omega), UInt8.toNat_ofNat_of_lt' (show n % 256 < UInt8.size by change n % 256 < 256; omega)]
  omega
/-- loadB over a list -/
theorem load_list (s : ByteArray) (h7 : 7 ≤ s.size) (hm : s.extract 0 3 = ⟨#[86, 84, 49]⟩) : loadB s =
    if sumB (s.data.toList.take (s.data.toList.length - 2)) % 65536 ≠ numB s.data.toList (s.data.toList.length - 2) then noTr 61
    else match rLoad ((s.data.toList.take (s.data.toList.length - 2)).drop 3, false) with
      | none => noTr 60
      | some T => (T, 0) := by
  rw [load_def s h7 hm, ext_list, ext_list, List.drop_zero, getD_list, getD_list, Nat.sub_zero]
  rw [size_list] at h7 ⊢
  have e : s.data.toList.length - 1 = s.data.toList.length - 2 + 1 := by omega
  have e2 : (s.data.toList.drop 3).take (s.data.toList.length - 2 - 3) = (s.data.toList.take (s.data.toList.length - 2)).drop 3 := by rw [List.drop_take]
  rw [e, e2]
  rfl
theorem mark_of {s : ByteArray} (h : s.data.toList.take 3 = markB) : s.extract 0 3 = ⟨#[86, 84, 49]⟩ := bytes_of (by rw [ext_list]; exact h)
theorem mark_to {s : ByteArray} (h : s.extract 0 3 = ⟨#[86, 84, 49]⟩) : s.data.toList.take 3 = markB := by
  have := ext_list s 0 3
  rw [h] at this
  exact this.symm

theorem load_pack (T : Tr) (hT : T.rightB = true) (hb : T.bl.length ≤ 300) : loadB ⟨(packB T).toArray⟩ = (T, 0) := by
  have h5 := bodyB_len T
  have hl := packB_len T
  rw [load_list _ (by rw [size_list]; simp only; omega) (mark_of (by simp only; rw [packB_mid]; rfl))]
  simp only
  have e : (packB T).length - 2 = (bodyB T).length := by omega
  have e1 : (packB T).take (bodyB T).length = bodyB T := by unfold packB; exact List.take_left
  have e2 : numB (packB T) (bodyB T).length = sumB (bodyB T) % 65536 := by
    have := num_two (bodyB T) [] (sumB (bodyB T) % 65536) (by omega)
    rwa [List.append_nil] at this
  have e3 : (bodyB T).drop 3 = midB T := by rw [bodyB_mid]; rfl
  rw [e, e1, e2, if_neg (by simp), e3]
  have := load_fwd T hT hb
  rw [show twoB T.bl.length ++ blksB T.bl ++ idxB (runsOf T.ix) = midB T from rfl] at this
  rw [this]

/-- what an answer without an error tells -/
theorem load_good (s : ByteArray) (h : (loadB s).2 = 0) : (loadB s).1.rightB = true ∧ (loadB s).1.bl.length ≤ 300 ∧ s.data.toList = packB (loadB s).1 ∧ 7 ≤ s.size := by
  by_cases h1 : s.size < 7 ∨ ¬ s.extract 0 3 = ⟨#[86, 84, 49]⟩
  · unfold loadB at h
    rw [if_pos h1] at h
    cases h
  have h7 : 7 ≤ s.size := by
    rcases Nat.lt_or_ge s.size 7 with hh | hh
    · exact absurd (Or.inl hh) h1
    · exact hh
  have hm : s.extract 0 3 = ⟨#[86, 84, 49]⟩ := by
    by_cases hh : s.extract 0 3 = ⟨#[86, 84, 49]⟩
    · exact hh
    · exact absurd (Or.inr hh) h1
  have hk := mark_to hm
  rw [load_list s h7 hm] at h ⊢
  have h8 := h7
  rw [size_list] at h7
  clear hm h1
  generalize s.data.toList = l at *
  split at h
  · cases h
  · rename_i h2
    rw [if_neg h2]
    generalize hr : rLoad ((l.take (l.length - 2)).drop 3, false) = r at h ⊢
    cases r with
    | none => cases h
    | some T =>
      simp only
      obtain ⟨t1, t2, t3⟩ := load_back _ _ hr
      refine ⟨t1, t2, ?_, h8⟩
      have e1 : (l.take (l.length - 2)).take 3 = markB := by
        rw [List.take_take, Nat.min_eq_left (by omega)]
        exact hk
      have e2 : l.take (l.length - 2) = bodyB T := by
        rw [← List.take_append_drop 3 (l.take (l.length - 2)), e1, t3, bodyB_mid]
        rfl
      have e3 : l.drop (l.length - 2) = twoB (numB l (l.length - 2)) := by
        rw [List.drop_eq_getElem_cons (by omega), show l.length - 2 + 1 = l.length - 1 by omega, List.drop_eq_getElem_cons (by omega), show l.length - 1 + 1 = l.length by omega, List.drop_length]
        unfold numB twoB
        rw [show l.length - 2 + 1 = l.length - 1 by omega]
        simp only [List.getD_eq_getElem?_getD, List.getElem?_eq_getElem (show l.length - 2 < l.length by omega), List.getElem?_eq_getElem (show l.length - 1 < l.length by omega), Option.getD_some]
        have a := (l[l.length - 2]).toNat_lt
        have b := (l[l.length - 1]).toNat_lt
        rw [show ((l[l.length - 2]).toNat * 256 + (l[l.length - 1]).toNat) / 256 = (l[l.length - 2]).toNat by omega, show ((l[l.length - 2]).toNat * 256 + (l[l.length - 1]).toNat) % 256 = (l[l.length - 1]).toNat by omega]
        simp
      rw [← List.take_append_drop (l.length - 2) l, e3, e2]
      unfold packB
      rw [← e2]
      rw [show sumB (l.take (l.length - 2)) % 65536 = numB l (l.length - 2) by simpa using h2]
/-- an error hands back nothing -/
theorem load_none (s : ByteArray) (h : (loadB s).2 ≠ 0) : (loadB s).1 = ⟨[], []⟩ := by
  unfold loadB at h ⊢
  split
  · rfl
  · rename_i h1
    rw [if_neg h1] at h
    split
    · rfl
    · rename_i h2
      rw [if_neg h2] at h
      split
      · rfl
      · rename_i h3
        rw [h3] at h
        exact absurd rfl h

theorem sumB_set : ∀ (l : List UInt8) (i : Nat) (b : UInt8) (h : i < l.length), sumB (l.set i b) + (l[i]).toNat = sumB l + b.toNat
  | [], i, b, h => by simp at h
  | x :: l, 0, b, h => by simp [sumB]; omega
  | x :: l, i + 1, b, h => by
    have := sumB_set l i b (by simpa using h)
    simp only [List.set_cons_succ, List.getElem_cons_succ, sumB, List.map_cons, List.sum_cons] at this ⊢
    omega
theorem take_set {l : List UInt8} {i k : Nat} {b : UInt8} : (l.set i b).take k = (l.take k).set i b := by
  rw [List.take_set]
theorem num_set {l : List UInt8} {i k : Nat} {b : UInt8} (h : i < k) : numB (l.set i b) k = numB l k := by
  unfold numB
  simp only [List.getD_eq_getElem?_getD]
  rw [List.getElem?_set_ne (by omega), List.getElem?_set_ne (by omega)]
/-- one byte has turned -/
theorem load_turned (T : Tr) (at' : Nat) (b : UInt8) (ha : at' < (packB T).length) (hb : b ≠ (packB T)[at']) :
    loadB ⟨((packB T).set at' b).toArray⟩ = noTr (if at' < 3 then 60 else 61) := by
  have h5 := bodyB_len T
  have hl := packB_len T
  have hbn : b.toNat ≠ ((packB T)[at']).toNat := fun e => hb (UInt8.toNat_inj.1 e)
  have b1 := b.toNat_lt
  have b2 := ((packB T)[at']).toNat_lt
  by_cases h3 : at' < 3
  · rw [if_pos h3]
    unfold loadB
    rw [if_pos]
    right
    intro hm
    have := mark_to hm
    simp only at this
    rw [take_set] at this
    have hk : (packB T).take 3 = markB := by rw [packB_mid]; rfl
    have hg : ((packB T).take 3)[at']? = some (packB T)[at'] := by rw [List.getElem?_take, if_pos h3, List.getElem?_eq_getElem ha]
    have hg2 : (((packB T).take 3).set at' b)[at']? = some b := by
      rw [List.getElem?_set_self]
      rw [List.length_take]
      omega
    rw [this, ← hk, hg] at hg2
    exact hb (Option.some.inj hg2).symm
  · rw [if_neg h3]
    rw [load_list _ (by rw [size_list]; simp only [List.length_set]; omega) (mark_of (by
      simp only
      rw [take_set, List.set_eq_of_length_le (by rw [List.length_take]; omega), packB_mid]
      rfl)), if_pos]
    simp only [List.length_set]
    have e : (packB T).length - 2 = (bodyB T).length := by omega
    have e1 : (packB T).take (bodyB T).length = bodyB T := by unfold packB; exact List.take_left
    have e2 : numB (packB T) (bodyB T).length = sumB (bodyB T) % 65536 := by
      have := num_two (bodyB T) [] (sumB (bodyB T) % 65536) (by omega)
      rwa [List.append_nil] at this
    rw [e, take_set, e1]
    by_cases h4 : at' < (bodyB T).length
    · rw [num_set h4, e2]
      have := sumB_set (bodyB T) at' b h4
      have hg : (packB T)[at'] = (bodyB T)[at'] := by
        have q : (packB T)[at']? = (bodyB T)[at']? := by unfold packB; rw [List.getElem?_append_left h4]
        rw [List.getElem?_eq_getElem ha, List.getElem?_eq_getElem h4] at q
        exact Option.some.inj q
      rw [hg] at hbn b2
      omega
    · rw [List.set_eq_of_length_le (by omega)]
      rw [← e2]
      unfold numB
      simp only [List.getD_eq_getElem?_getD]
      have c : at' = (bodyB T).length ∨ at' = (bodyB T).length + 1 := by omega
      have l0 : (bodyB T).length < (packB T).length := by omega
      have l1 : (bodyB T).length + 1 < (packB T).length := by omega
      have m0 := ((packB T)[(bodyB T).length]).toNat_lt
      have m1 := ((packB T)[(bodyB T).length + 1]).toNat_lt
      rcases c with rfl | rfl
      · rw [List.getElem?_set_self l0, List.getElem?_set_ne (by omega), List.getElem?_eq_getElem l0, List.getElem?_eq_getElem l1]
        simp only [Option.getD_some]
        omega
      · rw [List.getElem?_set_self l1, List.getElem?_set_ne (by omega), List.getElem?_eq_getElem l0, List.getElem?_eq_getElem l1]
        simp only [Option.getD_some]
        omega
end Go.Proofs.YtibndkkbmgbogaaDoor
