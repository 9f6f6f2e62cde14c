/- Plain: whole numbers below 2^24 as floats of 64 bits: exactly themselves. No program in sight. -/
import Derived.Laws.FloatArith
import Derived.Laws.Cover3
namespace Go.Proofs.YtdmkjchmcgjjmaaDoor
open Go

/-- the bits of a whole number's float -/
def f64 (n : Nat) : Nat := floatOfInt .f64 (n : Int)

theorem shl_log {n : Nat} (h0 : n ≠ 0) (h : n < 2 ^ 24) : n.log2 ≤ 23 ∧ 2 ^ 52 ≤ n * 2 ^ (52 - n.log2) ∧ n * 2 ^ (52 - n.log2) < 2 ^ 53 := by
  have h1 : n.log2 < 24 := (Nat.log2_lt h0).2 h
  have h2 := Nat.log2_self_le h0
  have h3 := Nat.lt_log2_self (n := n)
  have e1 : 2 ^ n.log2 * 2 ^ (52 - n.log2) = 2 ^ 52 := by rw [← Nat.pow_add]; congr 1; omega
  have e2 : 2 ^ (n.log2 + 1) * 2 ^ (52 - n.log2) = 2 ^ 53 := by rw [← Nat.pow_add]; congr 1; omega
  refine ⟨by omega, ?_, ?_⟩
  · rw [← e1]; exact Nat.mul_le_mul_right _ h2
  · rw [← e2]; exact Nat.mul_lt_mul_of_pos_right h3 (Nat.two_pow_pos _)

theorem cut_none (neg : Bool) (n : Nat) : Ieee.Toward.even.cut neg n 0 = n := by
  unfold Ieee.Toward.cut
  simp [Nat.mod_one]

theorem dbl_least : Ieee.double.leastPlace = -1074 := by decide
theorem dbl_frac : (Ieee.double.fractionBits : Int) = 52 := rfl
theorem dbl_binade : Ieee.double.binade = 4503599627370496 := by decide
theorem dbl_inf : Ieee.double.infRung = 9218868437227405312 := by decide
theorem dbl_sign : Ieee.double.signWeight = 9223372036854775808 := by decide
theorem f64_def (n : Nat) : f64 n = Ieee.double.nearest false n 0 := by
  have h : f64 n = Ieee.double.nearest (decide ((n : Int) < 0)) (n : Int).natAbs 0 := rfl
  rw [h, decide_eq_false (by omega), Int.natAbs_natCast]
theorem word_pos (f : Ieee.Format) (r : Nat) : f.word false r = r := rfl

/-- the word -/
theorem f64_word {n : Nat} (h0 : n ≠ 0) (h : n < 2 ^ 24) : f64 n = (n.log2 + 1022) * 4503599627370496 + n * 2 ^ (52 - n.log2) := by
  obtain ⟨hl, hn1, hn2⟩ := shl_log h0 h
  have hlast : max ((0 : Int) + (n.log2 : Int) - (Ieee.double.fractionBits : Int)) Ieee.double.leastPlace = (n.log2 : Int) - 52 := by
    rw [dbl_least, dbl_frac]
    omega
  rw [f64_def]
  unfold Ieee.Format.nearest
  rw [if_neg h0]
  dsimp only
  rw [hlast, dbl_least, show ((n.log2 : Int) - 52 - 0).toNat = 0 by omega, cut_none, show ((0 : Int) - ((n.log2 : Int) - 52)).toNat = 52 - n.log2 by omega, Nat.shiftLeft_eq, show ((n.log2 : Int) - 52 - -1074).toNat = n.log2 + 1022 by omega, dbl_binade, dbl_inf, word_pos]
  generalize n * 2 ^ (52 - n.log2) = N at *
  omega

/-- what such bits stand for -/
theorem f64_read {n : Nat} (h0 : n ≠ 0) (h : n < 2 ^ 24) : Ieee.double.read (f64 n) = .number false (n * 2 ^ (52 - n.log2)) ((n.log2 : Int) - 52) := by
  obtain ⟨hl, hn1, hn2⟩ := shl_log h0 h
  rw [f64_word h0 h]
  unfold Ieee.Format.read
  dsimp only
  rw [dbl_binade, dbl_inf, dbl_sign, dbl_least]
  generalize n * 2 ^ (52 - n.log2) = N at *
  generalize n.log2 = L at *
  have hlt : (L + 1022) * 4503599627370496 + N < 9223372036854775808 := by omega
  have e1 : ((L + 1022) * 4503599627370496 + N) / 9223372036854775808 = 0 := Nat.div_eq_of_lt hlt
  have e2 : ((L + 1022) * 4503599627370496 + N) % 9223372036854775808 = (L + 1022) * 4503599627370496 + N := Nat.mod_eq_of_lt hlt
  have e3 : ((L + 1022) * 4503599627370496 + N) % 4503599627370496 = N - 4503599627370496 := by omega
  have e4 : ((L + 1022) * 4503599627370496 + N) / 4503599627370496 = L + 1023 := by omega
  rw [e1, e2, if_neg (by omega), if_pos (by omega), e3, e4]
  rw [show 4503599627370496 + (N - 4503599627370496) = N by omega, show (-1074 : Int) + ((L + 1023 - 1 : Nat) : Int) = (L : Int) - 52 by omega]
  rfl
theorem f64_zero : f64 0 = 0 := by rw [f64_def]; unfold Ieee.Format.nearest; rw [if_pos rfl, word_pos]
theorem f64_read0 : Ieee.double.read (f64 0) = .number false 0 (-1074) := by
  rw [f64_zero]
  unfold Ieee.Format.read
  dsimp only
  rw [dbl_binade, dbl_inf, dbl_sign, dbl_least]
  rfl

/-- in one shape -/
theorem f64_shape {n : Nat} (h : n < 2 ^ 24) : ∃ (m : Nat) (p : Nat), Ieee.double.read (f64 n) = .number false m (-(p : Int)) ∧ m = n * 2 ^ p ∧ 29 ≤ p ∧ p ≤ 1074 ∧ (m = 0 ∨ m.log2 = 52 ∧ p ≤ 52) := by
  by_cases h0 : n = 0
  · subst h0
    obtain ⟨p, hp⟩ : ∃ p : Nat, p = 1074 := ⟨_, rfl⟩
    refine ⟨0, p, ?_, (Nat.zero_mul _).symm, by omega, by omega, .inl rfl⟩
    rw [hp]
    exact f64_read0
  · obtain ⟨hl, hn1, hn2⟩ := shl_log h0 h
    refine ⟨_, 52 - n.log2, ?_, rfl, by omega, by omega, .inr ⟨?_, by omega⟩⟩
    · rw [f64_read h0 h]
      congr 1
      omega
    · generalize n * 2 ^ (52 - n.log2) = N at *
      have hN : N ≠ 0 := by omega
      have a := (Nat.log2_lt hN).2 hn2
      have b := (Nat.le_log2 hN).2 hn1
      omega

theorem order_f64 {a b : Nat} (ha : a < 2 ^ 24) (hb : b < 2 ^ 24) : Ieee.double.order (f64 a) (f64 b) = some (compare a b) := by
  obtain ⟨m, p, e1, e2, _, _, _⟩ := f64_shape ha
  obtain ⟨m', p', e3, e4, _, _, _⟩ := f64_shape hb
  unfold Ieee.Format.order
  rw [e1, e3]
  simp only [Ieee.Datum.order, Ieee.signed, Bool.false_eq_true, if_false]
  have hmin : min (-(p : Int)) (-(p' : Int)) = -((max p p' : Nat) : Int) := by omega
  rw [hmin, show (-(p : Int) - -((max p p' : Nat) : Int)).toNat = max p p' - p by omega, show (-(p' : Int) - -((max p p' : Nat) : Int)).toNat = max p p' - p' by omega, Nat.shiftLeft_eq, Nat.shiftLeft_eq, e2, e4, Nat.mul_assoc, Nat.mul_assoc, ← Nat.pow_add, ← Nat.pow_add, show p + (max p p' - p) = max p p' by omega, show p' + (max p p' - p') = max p p' by omega]
  have hp := Nat.two_pow_pos (max p p')
  generalize 2 ^ max p p' = K at *
  congr 1
  rcases Nat.lt_trichotomy a b with h | h | h
  · rw [show compare a b = .lt from Nat.compare_eq_lt.2 h]
    have : a * K < b * K := Nat.mul_lt_mul_of_pos_right h hp
    exact Int.compare_eq_lt.2 (by omega)
  · subst h
    rw [show compare a a = .eq from Nat.compare_eq_eq.2 rfl]
    exact Int.compare_eq_eq.2 rfl
  · rw [show compare a b = .gt from Nat.compare_eq_gt.2 h]
    have : b * K < a * K := Nat.mul_lt_mul_of_pos_right h hp
    exact Int.compare_eq_gt.2 (by omega)

theorem int_f64 {a : Nat} (ha : a < 2 ^ 24) : floatToIntVal .f64 (f64 a) .i64 = some (a : Int) := by
  obtain ⟨m, p, e1, e2, h1, h2, h3⟩ := f64_shape ha
  have hd : FloatKind.decode .f64 (f64 a) = .number false m (-(p : Int)) := e1
  unfold floatToIntVal
  rw [hd]
  have hgap : m / (1 <<< min p (m.log2 + 2)) = a := by
    rcases h3 with h3 | ⟨h3, h4⟩
    · have : a = 0 := by
        rcases Nat.eq_zero_or_pos a with h | h
        · exact h
        · have := Nat.mul_pos h (Nat.two_pow_pos p); omega
      rw [h3, this, Nat.zero_div]
    · rw [show min p (m.log2 + 2) = p by omega, Nat.shiftLeft_eq, Nat.one_mul, e2]
      exact Nat.mul_div_cancel _ (Nat.two_pow_pos p)
  have hcut : Ieee.Toward.zero.cut false (m <<< (-(p : Int)).toNat) (- -(p : Int)).toNat = a := by
    rw [show (-(p : Int)).toNat = 0 by omega, show (- -(p : Int)).toNat = p by omega, Nat.shiftLeft_zero]
    unfold Ieee.Toward.cut
    dsimp only
    rw [hgap]
    rfl
  have ht : (Ieee.Datum.number false m (-(p : Int))).toInt .zero = some (a : Int) := by
    unfold Ieee.Datum.toInt Ieee.Datum.integral
    dsimp only
    rw [hcut]
    simp [Ieee.signed]
  rw [ht]
  dsimp only
  rw [if_pos]
  have e1 : IntKind.i64.min = -9223372036854775808 := rfl
  have e2 : IntKind.i64.max = 9223372036854775807 := rfl
  rw [e1, e2]
  omega
end Go.Proofs.YtdmkjchmcgjjmaaDoor
