/- Plain: what the reference's arithmetic says of sets is what the program's bits say. No program in sight. -/
import Derived.Test.YtigkphjgidbppaaDoorSetL
namespace Go.Proofs.YtigkphjgidbppaaDoor
open Go

/-- a class added to a set that has it not -/
theorem add_or {s c : Nat} (hs : s < 2 ^ 32) (hc : c < 32) (hb : s.testBit c = false) : s + 2 ^ c = s ||| 2 ^ c := by
  have h2 : 2 ^ c < 2 ^ 32 := Nat.pow_lt_pow_right (by omega) hc
  have hz : BitVec.ofNat 64 s &&& BitVec.ofNat 64 (2 ^ c) = 0#64 := by
    apply BitVec.eq_of_toNat_eq
    rw [BitVec.toNat_and, BitVec.toNat_ofNat, BitVec.toNat_ofNat, Nat.mod_eq_of_lt (by omega), Nat.mod_eq_of_lt (by omega)]
    apply Nat.eq_of_testBit_eq
    intro i
    rw [Nat.testBit_and, Nat.testBit_two_pow]
    by_cases h : c = i
    · subst h; simp [hb]
    · simp [h]
  have h3 := congrArg BitVec.toNat (BitVec.add_eq_or_of_and_eq_zero _ _ hz)
  rw [BitVec.toNat_add, BitVec.toNat_or, BitVec.toNat_ofNat, BitVec.toNat_ofNat, Nat.mod_eq_of_lt (a := s) (by omega), Nat.mod_eq_of_lt (a := 2 ^ c) (by omega), Nat.mod_eq_of_lt (by omega)] at h3
  exact h3
/-- a class added to a set that has it -/
theorem or_has {s c : Nat} (hb : s.testBit c = true) : s ||| 2 ^ c = s := by
  apply Nat.eq_of_testBit_eq
  intro i
  rw [Nat.testBit_or, Nat.testBit_two_pow]
  by_cases h : c = i
  · subst h; simp [hb]
  · simp [h]
/-- the others -/
theorem sub_xor {s k : Nat} (hs : s < 2 ^ k) : 2 ^ k - 1 - s = s ^^^ (2 ^ k - 1) := by
  apply Nat.eq_of_testBit_eq
  intro i
  rw [show 2 ^ k - 1 - s = 2 ^ k - (s + 1) by omega, Nat.testBit_two_pow_sub_succ hs, Nat.testBit_xor, Nat.testBit_two_pow_sub_one]
  by_cases h : i < k
  · simp [h]
  · rw [bit_above hs (show k ≤ i by omega)]; simp [h]
theorem has_div {s c : Nat} (hs : s < 2 ^ 32) (hc : c < 32) : hasB (s : Int) (c : Int) = decide (s / 2 ^ c % 2 = 1) := by
  rw [has_of hs hc, Nat.testBit_eq_decide_div_mod_eq]
end Go.Proofs.YtigkphjgidbppaaDoor
