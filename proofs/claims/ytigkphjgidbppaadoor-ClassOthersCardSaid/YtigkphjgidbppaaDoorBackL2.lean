/- Plain: a set's text is parsed as it; what is parsed is right. No program in sight. -/
import Derived.Test.YtigkphjgidbppaaDoorBackL
import Derived.Test.YtigkphjgidbppaaDoorParseP
namespace Go.Proofs.YtigkphjgidbppaaDoor
open Go Go.RowKit

theorem all_set {s k : Nat} (k2 : k ≤ 32) (k3 : s < 2 ^ k) (h : (classesB (s : Int)).length = k) : s = 2 ^ k - 1 := by
  have hs32 : s < 2 ^ 32 := Nat.lt_of_lt_of_le k3 (pow_le32 k2)
  have hx := xor_lt k3
  have hx32 : s ^^^ (2 ^ k - 1) < 2 ^ 32 := Nat.lt_of_lt_of_le hx (pow_le32 k2)
  have hc := count_both k3 32
  rw [← classes_len hs32, h, ← classes_len hx32] at hc
  have h0 : (classesB ((s ^^^ (2 ^ k - 1) : Nat) : Int)).length = 0 := by omega
  have h1 := or_classes hx32
  rw [List.length_eq_zero_iff.1 h0] at h1
  have h2 := xor_back s k
  rw [← h1] at h2
  rw [← h2]
  show _ = _
  simp [orS]

theorem list_one {l : List ByteArray} {set : Int} (hs : rightB set l.length = true) (h : (classesB set).length = 1) : ∃ (c : Nat) (hc : c < l.length), set = ((2 ^ c : Nat) : Int) ∧ listB set l = l[c] := by
  have hb := right_below hs
  obtain ⟨s, k, rfl, e2, k1, k2, k3⟩ := right_nat hs
  have hs32 : s < 2 ^ 32 := Nat.lt_of_lt_of_le k3 (pow_le32 k2)
  have ho := or_classes hs32
  obtain ⟨c, hc⟩ := List.length_eq_one_iff.1 h
  obtain ⟨a, b⟩ := hb c (classes_mem.1 (by rw [hc]; simp))
  obtain ⟨j, rfl⟩ : ∃ j : Nat, c = (j : Int) := ⟨c.toNat, by omega⟩
  have hj : j < l.length := by omega
  rw [hc] at ho
  refine ⟨j, hj, ?_, ?_⟩
  · rw [← ho]; simp [orS]
  · unfold listB
    rw [hc]
    apply data_inj
    rw [joinB_data]
    simp [namesOf, List.getElem?_eq_getElem hj, Lib.join_one]

theorem not_right {s k : Nat} (h1 : 1 ≤ k) (h2 : k ≤ 32) (h3 : s < 2 ^ k) : rightB (notB (s : Int) (k : Int)) (k : Int) = true ∧ notB (notB (s : Int) (k : Int)) (k : Int) = (s : Int) := by
  rw [not_of h1 h2 h3]
  refine ⟨right_of h1 h2 (xor_lt h3), ?_⟩
  rw [not_of h1 h2 (xor_lt h3), xor_back]

/-- a set's text is parsed as it -/
theorem parse_print {l : List ByteArray} (hn : namesB l = true) {set : Int} (hs : rightB set l.length = true) : parseB (printB set l) l = (set, 0) := by
  obtain ⟨-, -, hnd, hnm⟩ := (names_iff l).1 hn
  obtain ⟨s, k, rfl, e2, k1, k2, k3⟩ := right_nat hs
  have hk : l.length = k := by omega
  unfold printB
  by_cases h1 : (classesB (s : Int)).length = l.length
  · rw [if_pos h1, parse_dot _ l rfl, hk]
    rw [← all_set k2 k3 (h1.trans hk)]
  · rw [if_neg h1]
    by_cases h2 : (classesB (s : Int)).length = 1
    · rw [if_pos h2]
      obtain ⟨c, hc, e1, e3⟩ := list_one hs h2
      rw [e3, parse_name _ l c (fun e => by
        have h46 := hnm _ (List.getElem_mem hc)
        rw [e] at h46
        exact absurd (show (46 : UInt8) ∈ _ by simp) (name_no h46 (b := 46) (by decide))) (num_at hnd hc), e1]
    · rw [if_neg h2]
      by_cases h3 : l.length < 2 * (classesB (s : Int)).length
      · rw [if_pos h3]
        obtain ⟨r1, r2⟩ := not_right k1 k2 k3
        have e4 : ∃ x : Nat, notB (s : Int) (l.length : Int) = (x : Int) := by rw [e2]; exact ⟨_, not_of k1 k2 k3⟩
        obtain ⟨x, hx⟩ := e4
        rw [hx]
        rw [← e2, hx] at r1 r2
        rw [parse_out_of hn r1, r2]
      · rw [if_neg h3, parse_in hn hs]

theorem right_all {n : Nat} (h1 : 1 ≤ n) (h2 : n ≤ 32) : rightB ((2 ^ n - 1 : Nat) : Int) (n : Int) = true := right_of h1 h2 (by have := Nat.two_pow_pos n; omega)

/-- what is parsed is right; what is not parsed is no set -/
theorem parse_right {l : List ByteArray} (hn : namesB l = true) (s : ByteArray) : ((parseB s l).2 = 0 ∧ rightB (parseB s l).1 l.length = true) ∨ (parseB s l).2 = 70 ∧ (parseB s l).1 = 0 := by
  obtain ⟨n1, n2, hnd, hnm⟩ := (names_iff l).1 hn
  by_cases h : s = ⟨#[46]⟩
  · rw [parse_dot s l h]
    exact .inl ⟨rfl, right_all n1 n2⟩
  · cases hm : numB l s with
    | some c =>
      rw [parse_name s l c h hm]
      obtain ⟨hc, _⟩ := num_some hm
      exact .inl ⟨rfl, right_of n1 n2 (Nat.pow_lt_pow_right (by omega) hc)⟩
    | none =>
      cases hi : (insideB s).2 with
      | false => rw [parse_out s l h hm hi]; exact .inr ⟨rfl, rfl⟩
      | true =>
        cases hS : setS l s with
        | none => rw [parse_none s l h hm hi hS]; exact .inr ⟨rfl, rfl⟩
        | some k =>
          rw [parse_set s l k h hm hi hS]
          have hk : k < 2 ^ l.length := by
            unfold setS at hS
            split at hS
            · injection hS with hS
              subst hS
              exact Nat.two_pow_pos _
            · exact fold_lt l _ 0 k (Nat.two_pow_pos _) hS
          refine .inl ⟨rfl, ?_⟩
          show rightB (if notS s = true then notB (k : Int) l.length else (k : Int)) l.length = true
          split
          · exact (not_right n1 n2 hk).1
          · exact right_of n1 n2 hk

theorem Parse_Print {l : List ByteArray} {set : Int} (h : (PrintB set l).2 = 0) : ParseB (PrintB set l).1 l = (set, 0) := by
  unfold PrintB at h ⊢
  by_cases hn : namesB l = true
  · rw [if_pos hn] at h ⊢
    by_cases hs : rightB set l.length = true
    · rw [if_pos hs]
      unfold ParseB
      rw [if_pos hn]
      exact parse_print hn hs
    · rw [if_neg hs] at h
      exact absurd h (by decide)
  · rw [if_neg hn] at h
    exact absurd h (by decide)
theorem Print_err {l : List ByteArray} {set : Int} (h : ¬ (PrintB set l).2 = 0) : (PrintB set l).1 = ⟨#[]⟩ := by
  unfold PrintB at h ⊢
  by_cases hn : namesB l = true
  · rw [if_pos hn] at h ⊢
    by_cases hs : rightB set l.length = true
    · rw [if_pos hs] at h
      exact absurd rfl h
    · rw [if_neg hs]
  · rw [if_neg hn]
theorem Parse_right (l : List ByteArray) (s : ByteArray) : ((ParseB s l).2 = 0 ∧ rightB (ParseB s l).1 l.length = true) ∨ ¬ (ParseB s l).2 = 0 ∧ (ParseB s l).1 = 0 := by
  unfold ParseB
  by_cases hn : namesB l = true
  · rw [if_pos hn]
    rcases parse_right hn s with h | ⟨h, h'⟩
    · exact .inl h
    · exact .inr ⟨by rw [h]; decide, h'⟩
  · rw [if_neg hn]
    exact .inr ⟨by decide, rfl⟩
theorem print_size (set : Int) (l : List ByteArray) (hz : ∀ x ∈ l, x.size ≤ 40) : (printB set l).size ≤ 1320 := by
  have h1 := list_size set l hz
  have h2 := list_size (notB set l.length) l hz
  unfold printB
  split
  · decide
  · split
    · omega
    · split
      · rw [ByteArray.size_append, ByteArray.size_append]
        have e1 : (⟨#[91, 94]⟩ : ByteArray).size = 2 := rfl
        have e2 : (⟨#[93]⟩ : ByteArray).size = 1 := rfl
        omega
      · rw [ByteArray.size_append, ByteArray.size_append]
        have e1 : (⟨#[91]⟩ : ByteArray).size = 1 := rfl
        have e2 : (⟨#[93]⟩ : ByteArray).size = 1 := rfl
        omega
theorem Print_size (set : Int) (l : List ByteArray) : (PrintB set l).1.size ≤ 1320 := by
  unfold PrintB
  by_cases hn : namesB l = true
  · rw [if_pos hn]
    split
    · exact print_size set l (name_40 hn)
    · decide
  · rw [if_neg hn]
    decide
end Go.Proofs.YtigkphjgidbppaaDoor
