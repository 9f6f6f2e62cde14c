/- Plain: what the reference's bytes say of a text in brackets. No program in sight. -/
import Derived.Test.YtigkphjgidbppaaDoorBackL
namespace Go.Proofs.YtigkphjgidbppaaDoor
open Go Go.RowKit

theorem in_cases (s : ByteArray) : (∃ t : ByteArray, s = ⟨#[91]⟩ ++ t ++ ⟨#[93]⟩) ∨ ((insideB s).2 = false ∧ ∀ (h : 2 ≤ s.size), (s[0]'(by omega)) ≠ 91 ∨ (s[s.size - 1]'(by omega)) ≠ 93) := by
  have hl : s.data.toList.length = s.size := rfl
  by_cases h2 : 2 ≤ s.size
  · by_cases h0 : (s[0]'(by omega)) = 91 ∧ (s[s.size - 1]'(by omega)) = 93
    · left
      refine ⟨s.extract 1 (s.size - 1), ?_⟩
      apply data_inj
      have e0 : s.data.toList = s.data.toList[0] :: s.data.toList.drop 1 := by rw [← drop_cons (show 0 < s.data.toList.length by omega), List.drop_zero]
      have e1 : s.data.toList.drop 1 = (s.data.toList.drop 1).take (s.size - 1 - 1) ++ s.data.toList.drop (s.size - 1) := by
        conv => lhs; rw [← List.take_append_drop (s.size - 1 - 1) (s.data.toList.drop 1)]
        rw [List.drop_drop, show 1 + (s.size - 1 - 1) = s.size - 1 by omega]
      have e2 : s.data.toList.drop (s.size - 1) = [s.data.toList[s.size - 1]] := by
        rw [drop_cons (show s.size - 1 < s.data.toList.length by omega), List.drop_of_length_le (by omega)]
      have g0 : s.data.toList[0] = 91 := h0.1
      have g1 : s.data.toList[s.size - 1] = 93 := h0.2
      rw [app_data, app_data, Lib.extract_data]
      conv => lhs; rw [e0, e1, e2, g0, g1]
      simp
    · right
      have hne : ∀ (h : 2 ≤ s.size), (s[0]'(by omega)) ≠ 91 ∨ (s[s.size - 1]'(by omega)) ≠ 93 := fun h => by
        by_cases g : (s[0]'(by omega)) = 91
        · exact .inr fun e => h0 ⟨g, e⟩
        · exact .inl g
      refine ⟨?_, hne⟩
      rw [Bool.eq_false_iff]
      intro hi
      unfold insideB at hi
      simp only [Bool.and_eq_true] at hi
      obtain ⟨hp, hs⟩ := hi
      have hp' := hp
      unfold Lib.hasPrefix at hp
      rw [List.isPrefixOf_iff_prefix] at hp
      obtain ⟨r, hr⟩ := hp
      rw [show Lib.trimPrefix s.data.toList [91] = r by unfold Lib.trimPrefix; rw [if_pos hp', ← hr]; rfl] at hs
      unfold Lib.hasSuffix at hs
      rw [List.isSuffixOf_iff_suffix] at hs
      obtain ⟨t, ht⟩ := hs
      have hd : s.data.toList = 91 :: (t ++ [93]) := by rw [← hr, ← ht]; rfl
      have hz : s.size = t.length + 2 := by rw [← hl, hd]; simp
      apply h0
      have g0 : s.data.toList[0]'(by omega) = 91 := by simp only [hd]; rfl
      have g1 : s.data.toList[s.size - 1]'(by omega) = 93 := by
        have : s.data.toList[s.size - 1]? = some 93 := by
          rw [hd, hz, show t.length + 2 - 1 = t.length + 1 by omega, List.getElem?_cons_succ, List.getElem?_append_right (Nat.le_refl _)]
          simp
        rw [List.getElem?_eq_getElem (by omega)] at this
        exact Option.some.inj this
      exact ⟨g0, g1⟩
  · right
    refine ⟨?_, fun h => absurd h h2⟩
    rw [Bool.eq_false_iff]
    intro hi
    unfold insideB at hi
    simp only [Bool.and_eq_true] at hi
    obtain ⟨hp, hs⟩ := hi
    have hp' := hp
    unfold Lib.hasPrefix at hp
    rw [List.isPrefixOf_iff_prefix] at hp
    obtain ⟨r, hr⟩ := hp
    rw [show Lib.trimPrefix s.data.toList [91] = r by unfold Lib.trimPrefix; rw [if_pos hp', ← hr]; rfl] at hs
    unfold Lib.hasSuffix at hs
    rw [List.isSuffixOf_iff_suffix] at hs
    obtain ⟨t, ht⟩ := hs
    have hd : s.data.toList = 91 :: (t ++ [93]) := by rw [← hr, ← ht]; rfl
    have hz : s.size = t.length + 2 := by rw [← hl, hd]; simp
    omega

/-- the inner text: ^ ahead or not -/
theorem hat_cases (t : ByteArray) : (∃ r : ByteArray, t = ⟨#[94]⟩ ++ r) ∨ (Lib.hasPrefix t.data.toList [94] = false ∧ ∀ (h : 0 < t.size), (t[0]'h) ≠ 94) := by
  have hl : t.data.toList.length = t.size := rfl
  cases hd : t.data.toList with
  | nil =>
    right
    refine ⟨rfl, fun h => ?_⟩
    rw [hd] at hl
    simp at hl
    omega
  | cons b r =>
    by_cases hb : b = 94
    · left
      subst hb
      exact ⟨⟨r.toArray⟩, data_inj (by rw [hd]; simp)⟩
    · right
      refine ⟨?_, fun h e => ?_⟩
      · have : (94 == b) = false := beq_eq_false_iff_ne.2 (fun e => hb e.symm)
        simp [Lib.hasPrefix, List.isPrefixOf, this]
      · have g : t.data.toList[0]? = some (t[0]'h) := List.getElem?_eq_getElem (by omega)
        rw [hd, e] at g
        simp at g
        exact hb g
theorem br_size (t : ByteArray) : (⟨#[91]⟩ ++ t ++ ⟨#[93]⟩ : ByteArray).size = t.size + 2 := by
  rw [ByteArray.size_append, ByteArray.size_append]
  have e1 : (⟨#[91]⟩ : ByteArray).size = 1 := rfl
  have e2 : (⟨#[93]⟩ : ByteArray).size = 1 := rfl
  omega
theorem br_first {s t : ByteArray} (h : s = ⟨#[91]⟩ ++ t ++ ⟨#[93]⟩) (h0 : 0 < s.size) : (s[0]'h0) = 91 := by
  have g : s.data.toList[0]? = some (s[0]'h0) := List.getElem?_eq_getElem h0
  rw [show s.data.toList = 91 :: (t.data.toList ++ [93]) by rw [h]; simp] at g
  exact (Option.some.inj g).symm
theorem br_last {s t : ByteArray} (h : s = ⟨#[91]⟩ ++ t ++ ⟨#[93]⟩) (h0 : s.size - 1 < s.size) : (s[s.size - 1]'h0) = 93 := by
  have g : s.data.toList[s.size - 1]? = some (s[s.size - 1]'h0) := List.getElem?_eq_getElem h0
  have hz : s.size - 1 = t.size + 1 := by rw [h, br_size]; omega
  have e : s.data.toList = 91 :: (t.data.toList ++ [93]) := by rw [h]; simp
  have hl : t.data.toList.length = t.size := rfl
  rw [e] at g
  rw [show (91 :: (t.data.toList ++ [93]))[s.size - 1]? = some 93 by rw [hz, List.getElem?_cons_succ, List.getElem?_append_right (by omega), hl, Nat.sub_self]; rfl] at g
  exact (Option.some.inj g).symm
theorem br_mid {s t : ByteArray} (h : s = ⟨#[91]⟩ ++ t ++ ⟨#[93]⟩) : s.extract 1 (s.size - 1) = t := by
  apply data_inj
  have hz : s.size - 1 = t.size + 1 := by rw [h, br_size]; omega
  have hl : t.data.toList.length = t.size := rfl
  rw [Lib.extract_data, hz, h]
  simp
theorem hat_first {t r : ByteArray} (h : t = ⟨#[94]⟩ ++ r) (h0 : 0 < t.size) : (t[0]'h0) = 94 := by
  have g : t.data.toList[0]? = some (t[0]'h0) := List.getElem?_eq_getElem h0
  rw [show t.data.toList = 94 :: r.data.toList by rw [h]; simp] at g
  exact (Option.some.inj g).symm
theorem hat_rest {t r : ByteArray} (h : t = ⟨#[94]⟩ ++ r) : t.extract 1 t.size = r := by
  apply data_inj
  rw [Lib.extract_to_end, h]
  simp
end Go.Proofs.YtigkphjgidbppaaDoor
