/- Plain facts on sets of classes as numbers: which are right, what is in them, and not; the set of classes, and back. No program in sight; conditions: stated. -/
import Derived.Test.YtigkphjgidbppaaDoorBase
namespace Go.Proofs.YtigkphjgidbppaaDoor
open Go Go.RowKit

def rightB (set n : Int) : Bool := decide (1 ≤ n) && decide (n ≤ 32) && decide (0 ≤ set) && decide (set < 2 ^ n.toNat)
def hasB (set c : Int) : Bool := rightB set 32 && decide (0 ≤ c) && decide (c < 32) && set.toNat.testBit c.toNat
def notB (set n : Int) : Int := if rightB set n then ((set.toNat ^^^ (2 ^ n.toNat - 1) : Nat) : Int) else 0
def okC (c : Int) : Bool := decide (0 ≤ c) && decide (c < 32)
def orS (l : List Int) (s : Nat) : Nat := l.foldl (fun s c => s ||| 2 ^ c.toNat) s
def ofB (l : List Int) : Int × Int := if l.all okC then (((orS l 0 : Nat) : Int), 0) else (0, 70)
def classesB (set : Int) : List Int := ((List.range 32).filter fun c => hasB set (c : Nat)).map fun c => ((c : Nat) : Int)

theorem right_nat {set n : Int} (h : rightB set n = true) : ∃ s k : Nat, set = s ∧ n = k ∧ 1 ≤ k ∧ k ≤ 32 ∧ s < 2 ^ k := by
  simp only [rightB, Bool.and_eq_true, decide_eq_true_eq] at h
  obtain ⟨⟨⟨h1, h2⟩, h3⟩, h4⟩ := h
  refine ⟨set.toNat, n.toNat, by omega, by omega, by omega, by omega, ?_⟩
  have : ((set.toNat : Nat) : Int) = set := Int.toNat_of_nonneg h3
  rw [← this] at h4
  exact_mod_cast h4
theorem right_of {s k : Nat} (h1 : 1 ≤ k) (h2 : k ≤ 32) (h3 : s < 2 ^ k) : rightB (s : Int) (k : Int) = true := by
  simp only [rightB, Bool.and_eq_true, decide_eq_true_eq]
  refine ⟨⟨⟨by omega, by omega⟩, by omega⟩, ?_⟩
  rw [Int.toNat_natCast]
  exact_mod_cast h3
theorem pow_le32 {k : Nat} (h : k ≤ 32) : 2 ^ k ≤ 2 ^ 32 := Nat.pow_le_pow_right (by omega) h
theorem has_of {s c : Nat} (hs : s < 2 ^ 32) (hc : c < 32) : hasB (s : Int) (c : Int) = s.testBit c := by
  have h := right_of (k := 32) (by omega) (by omega) hs
  unfold hasB
  rw [show ((32 : Nat) : Int) = 32 from rfl] at h
  rw [h]
  simp only [Bool.true_and, Int.toNat_natCast]
  rw [decide_eq_true (show (0 : Int) ≤ (c : Int) by omega), decide_eq_true (show (c : Int) < 32 by omega)]
  rfl
theorem not_of {s k : Nat} (h1 : 1 ≤ k) (h2 : k ≤ 32) (h3 : s < 2 ^ k) : notB (s : Int) (k : Int) = ((s ^^^ (2 ^ k - 1) : Nat) : Int) := by
  unfold notB
  rw [if_pos (right_of h1 h2 h3), Int.toNat_natCast, Int.toNat_natCast]
theorem xor_lt {s k : Nat} (h3 : s < 2 ^ k) : s ^^^ (2 ^ k - 1) < 2 ^ k := Nat.xor_lt_two_pow h3 (by have : 0 < 2 ^ k := Nat.two_pow_pos k; omega)
theorem xor_back (s k : Nat) : (s ^^^ (2 ^ k - 1)) ^^^ (2 ^ k - 1) = s := by rw [Nat.xor_assoc, Nat.xor_self, Nat.xor_zero]
theorem xor_bit {s k c : Nat} (hc : c < k) : (s ^^^ (2 ^ k - 1)).testBit c = !(s.testBit c) := by
  rw [Nat.testBit_xor, Nat.testBit_two_pow_sub_one, decide_eq_true hc]
  cases s.testBit c <;> rfl
theorem bit_above {s k c : Nat} (h : s < 2 ^ k) (hc : k ≤ c) : s.testBit c = false := Nat.testBit_lt_two_pow (Nat.lt_of_lt_of_le h (Nat.pow_le_pow_right (by omega) hc))

theorem classes_len {s : Nat} (hs : s < 2 ^ 32) : (classesB (s : Int)).length = (List.range 32).countP (fun c => s.testBit c) := by
  have h : (List.range 32).filter (fun c => hasB (s : Int) (c : Nat)) = (List.range 32).filter (fun c => s.testBit c) := List.filter_congr (fun c hc => has_of hs (List.mem_range.1 hc))
  unfold classesB
  rw [List.length_map, h, List.countP_eq_length_filter]
theorem count_both {s k : Nat} (h3 : s < 2 ^ k) : ∀ m, (List.range m).countP (fun c => s.testBit c) + (List.range m).countP (fun c => (s ^^^ (2 ^ k - 1)).testBit c) = min m k := by
  intro m
  induction m with
  | zero => simp
  | succ m ih =>
    rw [List.range_succ, List.countP_append, List.countP_append, List.countP_singleton, List.countP_singleton]
    have e : (if s.testBit m = true then 1 else 0) + (if (s ^^^ (2 ^ k - 1)).testBit m = true then 1 else 0) = if m < k then 1 else 0 := by
      by_cases hm : m < k
      · rw [xor_bit hm, if_pos hm]
        cases s.testBit m <;> rfl
      · rw [bit_above h3 (by omega), bit_above (xor_lt h3) (by omega), if_neg hm]
        rfl
    generalize (List.range m).countP (fun c => s.testBit c) = a at *
    generalize (List.range m).countP (fun c => (s ^^^ (2 ^ k - 1)).testBit c) = b at *
    have e2 : min (m + 1) k = min m k + (if m < k then 1 else 0) := by split <;> omega
    rw [e2, ← ih, ← e]
    omega

theorem or_lt : ∀ (l : List Int) (s : Nat), s < 2 ^ 32 → l.all okC = true → orS l s < 2 ^ 32
  | [], s, hs, _ => hs
  | c :: l, s, hs, h => by
    simp only [List.all_cons, Bool.and_eq_true] at h
    simp only [okC, Bool.and_eq_true, decide_eq_true_eq] at h
    exact or_lt l _ (Nat.or_lt_two_pow hs (Nat.pow_lt_pow_right (by omega) (by omega))) h.2
theorem or_bit : ∀ (l : List Int) (s i : Nat), l.all okC = true → (orS l s).testBit i = (s.testBit i || l.contains (i : Int))
  | [], s, i, _ => by simp [orS]
  | c :: l, s, i, h => by
    simp only [List.all_cons, Bool.and_eq_true] at h
    have ih := or_bit l (s ||| 2 ^ c.toNat) i h.2
    have e : orS (c :: l) s = orS l (s ||| 2 ^ c.toNat) := rfl
    have hc := h.1
    simp only [okC, Bool.and_eq_true, decide_eq_true_eq] at hc
    rw [e, ih, Nat.testBit_or, Nat.testBit_two_pow, List.contains_cons]
    have e2 : decide (c.toNat = i) = ((i : Int) == c) := by
      rw [Bool.eq_iff_iff]
      simp only [decide_eq_true_eq, beq_iff_eq]
      omega
    rw [e2, Bool.or_assoc]
theorem of_ok {l : List Int} (h : l.all okC = true) : ofB l = (((orS l 0 : Nat) : Int), 0) := by unfold ofB; rw [if_pos h]
theorem or_app (l m : List Int) (s : Nat) : orS (l ++ m) s = orS m (orS l s) := by unfold orS; rw [List.foldl_append]
theorem or_from : ∀ (m : List Int) (s : Nat), orS m s = s ||| orS m 0
  | [], s => by simp [orS]
  | c :: m, s => by
    have e : ∀ t, orS (c :: m) t = orS m (t ||| 2 ^ c.toNat) := fun _ => rfl
    rw [e, e, or_from m (s ||| _), or_from m (0 ||| _), Nat.zero_or, Nat.or_assoc]
/-- what is not right has no classes -/
theorem classes_mem {set : Int} {c : Int} : c ∈ classesB set ↔ hasB set c = true := by
  unfold classesB
  simp only [List.mem_map, List.mem_filter, List.mem_range]
  constructor
  · rintro ⟨k, ⟨_, h⟩, rfl⟩
    exact h
  · intro h
    have h2 := h
    simp only [hasB, Bool.and_eq_true, decide_eq_true_eq] at h2
    refine ⟨c.toNat, ⟨by omega, ?_⟩, by omega⟩
    rw [Int.toNat_of_nonneg h2.1.1.2]
    exact h
theorem classes_ok (set : Int) : (classesB set).all okC = true := by
  rw [List.all_eq_true]
  intro c hc
  rw [classes_mem] at hc
  simp only [hasB, Bool.and_eq_true, decide_eq_true_eq] at hc
  simp only [okC, Bool.and_eq_true, decide_eq_true_eq]
  exact ⟨hc.1.1.2, hc.1.2⟩
/-- the set of a set's classes is the set -/
theorem of_classes {s : Nat} (hs : s < 2 ^ 32) : ofB (classesB (s : Int)) = ((s : Int), 0) := by
  have h := classes_ok (s : Int)
  have hb : orS (classesB (s : Int)) 0 = s := by
    apply Nat.eq_of_testBit_eq
    intro i
    rw [or_bit _ _ _ h, Nat.zero_testBit, Bool.false_or]
    by_cases hi : i < 32
    · rw [Bool.eq_iff_iff, List.contains_iff_mem, classes_mem, has_of hs hi]
    · rw [bit_above hs (by omega)]
      rw [Bool.eq_false_iff]
      intro h
      rw [List.contains_iff_mem, classes_mem] at h
      simp only [hasB, Bool.and_eq_true, decide_eq_true_eq] at h
      omega
  rw [of_ok h, hb]
end Go.Proofs.YtigkphjgidbppaaDoor
