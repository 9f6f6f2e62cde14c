/- The program's Right, Has, Not, Of of sets. Conditions: the numbers are 64-bit ones; the slice reads as the list. -/
import Derived.Test.YtigkphjgidbppaaDoorSetL
import Derived.Test.YtigkphjgidbppaaDoorProg
import Derived.Tactics2
import Derived.Laws.BitsAllLaws
import Derived.Laws.Cover2
import Derived.Laws.Cover3
import Derived.OwnWalk
import Derived.IntWalk
import Derived.Outline
namespace Go.Proofs.YtigkphjgidbppaaDoor
open Go Go.RowKit

theorem right_any (set n : Int) (w : World) : Calls Tryd.prog 12 #[.int .i64 set, .int .i64 n] w fun e w' => e = .returned (.bool (rightB set n)) ∧ w = w' := by
  by_cases h1 : 1 ≤ n
  · by_cases h2 : n ≤ 32
    · by_cases h3 : 0 ≤ set
      · obtain ⟨s, rfl⟩ : ∃ s : Nat, set = s := ⟨set.toNat, by omega⟩
        obtain ⟨k, rfl⟩ : ∃ k : Nat, n = k := ⟨n.toNat, by omega⟩
        have hk1 : (0 : Int) ≤ (k : Int) := by omega
        have hk2 : (k : Int) ≤ 64 := by omega
        have hb : (((s : Int) / 2 ^ k) == 0) = rightB s k := by
          rw [Bool.eq_iff_iff]
          simp only [beq_iff_eq, rightB, Bool.and_eq_true, decide_eq_true_eq, Int.toNat_natCast]
          have e : ((s : Int) / 2 ^ k) = ((s / 2 ^ k : Nat) : Int) := by simp
          rw [e]
          have e2 : ((s : Int) < 2 ^ k) ↔ s < 2 ^ k := by
            constructor
            · intro h; exact_mod_cast h
            · intro h; exact_mod_cast h
          rw [e2]
          have e3 : s / 2 ^ k = 0 ↔ s < 2 ^ k := by rw [Nat.div_eq_zero_iff]; have : 0 < 2 ^ k := Nat.two_pow_pos k; omega
          constructor
          · intro h
            exact ⟨⟨⟨h1, h2⟩, h3⟩, e3.1 (by omega)⟩
          · intro h
            have := e3.2 h.2
            omega
        have HB := hide hb
        clear hb
        go_enter Tryd.func12, Tryd.ntmps12
        go_wp2
        go_ret
        exact ⟨ret_bool HB.out, rfl⟩
      · have hb : rightB set n = false := by simp [rightB, h3]
        have HB := hide hb
        clear hb
        go_enter Tryd.func12, Tryd.ntmps12
        go_wp2
        go_ret
        exact ⟨ret_bool HB.out.symm, rfl⟩
    · have hb : rightB set n = false := by simp [rightB, h2]
      have HB := hide hb
      clear hb
      go_enter Tryd.func12, Tryd.ntmps12
      go_wp2
      go_ret
      exact ⟨ret_bool HB.out.symm, rfl⟩
  · have hb : rightB set n = false := by simp [rightB, h1]
    have HB := hide hb
    clear hb
    go_enter Tryd.func12, Tryd.ntmps12
    go_wp2
    go_ret
    exact ⟨ret_bool HB.out.symm, rfl⟩

theorem i64_xor_nat (a b : Nat) (ha : a < 9223372036854775808) (hb : b < 9223372036854775808) : bits .xor .i64 (a : Int) (b : Int) = ((a ^^^ b : Nat) : Int) := by
  have hx : a ^^^ b < 2 ^ 63 := Nat.xor_lt_two_pow (by omega) (by omega)
  show IntKind.i64.wrap ((BitVec.ofInt 64 (a : Int) ^^^ BitVec.ofInt 64 (b : Int)).toNat : Int) = _
  rw [BitVec.toNat_xor, ofInt_u64 a (by omega), ofInt_u64 b (by omega)]
  exact IntWalk.i64_in _ (by omega)
theorem i64_or_nat (a b : Nat) (ha : a < 9223372036854775808) (hb : b < 9223372036854775808) : bits .or .i64 (a : Int) (b : Int) = ((a ||| b : Nat) : Int) := by
  have hx : a ||| b < 2 ^ 63 := Nat.or_lt_two_pow (by omega) (by omega)
  show IntKind.i64.wrap ((BitVec.ofInt 64 (a : Int) ||| BitVec.ofInt 64 (b : Int)).toNat : Int) = _
  rw [BitVec.toNat_or, ofInt_u64 a (by omega), ofInt_u64 b (by omega)]
  exact IntWalk.i64_in _ (by omega)
theorem i64_and_nat (a b : Nat) (ha : a < 9223372036854775808) (hb : b < 9223372036854775808) : bits .and .i64 (a : Int) (b : Int) = ((a &&& b : Nat) : Int) := by
  have hx : a &&& b < 2 ^ 63 := Nat.and_lt_two_pow _ (by omega)
  show IntKind.i64.wrap ((BitVec.ofInt 64 (a : Int) &&& BitVec.ofInt 64 (b : Int)).toNat : Int) = _
  rw [BitVec.toNat_and, ofInt_u64 a (by omega), ofInt_u64 b (by omega)]
  exact IntWalk.i64_in _ (by omega)
theorem pow_i64 {k : Nat} (h : k ≤ 32) : (1 : Int) ≤ 2 ^ k ∧ (2 : Int) ^ k ≤ 4294967296 := by
  have h1 := pow_le32 h
  have h2 := Nat.two_pow_pos k
  have e : ((2 ^ k : Nat) : Int) = (2 : Int) ^ k := by simp
  rw [← e]
  omega

theorem not_any (set n : Int) (w : World) : Calls Tryd.prog 11 #[.int .i64 set, .int .i64 n] w fun e w' => e = .returned (.int .i64 (notB set n)) ∧ w = w' := by
  cases hr : rightB set n with
  | false =>
    have hb : notB set n = 0 := by unfold notB; rw [hr]; rfl
    have HB := hide hb
    have hra := right_any set n w
    rw [hr] at hra
    clear hb hr
    go_enter Tryd.func11, Tryd.ntmps11
    go_wp2_with fail
    refine hra.mono ?_
    rintro e _ ⟨rfl, rfl⟩
    go_wp2
    go_ret
    exact ⟨ret_i64 HB.out.symm, rfl⟩
  | true =>
    have hra := right_any set n w
    rw [hr] at hra
    obtain ⟨s, k, rfl, rfl, h1, h2, h3⟩ := right_nat hr
    have hb := not_of h1 h2 h3
    have hx := i64_xor_nat s (2 ^ k - 1) (by have := pow_le32 h2; omega) (by have := pow_le32 h2; omega)
    have hk1 : (0 : Int) ≤ (k : Int) := by omega
    have hk2 : (k : Int) ≤ 64 := by omega
    obtain ⟨hp1, hp2⟩ := pow_i64 h2
    have he : (2 : Int) ^ k - 1 = ((2 ^ k - 1 : Nat) : Int) := by
      have := Nat.two_pow_pos k
      have e : ((2 ^ k : Nat) : Int) = (2 : Int) ^ k := by simp
      omega
    have HB := hide hb
    have HX := hide hx
    have HE := hide he
    clear hb hr hx he h1 h3
    go_enter Tryd.func11, Tryd.ntmps11
    go_wp2_with fail
    refine hra.mono ?_
    rintro e _ ⟨rfl, rfl⟩
    go_wp2
    go_ret
    exact ⟨ret_i64 (by rw [HE.out, HX.out, HB.out]), rfl⟩

set_option maxRecDepth 100000 in
theorem has_any (set c : Int) (w : World) : Calls Tryd.prog 13 #[.int .i64 set, .int .i64 c] w fun e w' => e = .returned (.bool (hasB set c)) ∧ w = w' := by
  have hra := right_any set 32 w
  cases hr : rightB set 32 with
  | false =>
    have hb : hasB set c = false := by unfold hasB; rw [hr]; rfl
    have HB := hide hb
    rw [hr] at hra
    clear hb hr
    go_enter Tryd.func13, Tryd.ntmps13
    go_wp2_with fail
    refine hra.mono ?_
    rintro e _ ⟨rfl, rfl⟩
    go_wp2
    go_ret
    exact ⟨ret_bool HB.out.symm, rfl⟩
  | true =>
    rw [hr] at hra
    obtain ⟨s, k, rfl, hk, hk1, hk2, h3⟩ := right_nat hr
    obtain rfl : k = 32 := by omega
    clear hk1 hk2
    have HRA := hide hra
    clear hra
    by_cases h0 : 0 ≤ c
    · by_cases h1 : c < 32
      · obtain ⟨d, rfl⟩ : ∃ d : Nat, c = d := ⟨c.toNat, by omega⟩
        have hd1 : (0 : Int) ≤ (d : Int) := by omega
        have hd2 : (d : Int) ≤ 64 := by omega
        have hb := has_of (c := d) h3 (by omega)
        have hs : s / 2 ^ d < 9223372036854775808 := Nat.lt_of_le_of_lt (Nat.div_le_self _ _) (by omega)
        have ha := i64_and_nat (s / 2 ^ d) 1 hs (by omega)
        have e1 : ((s / 2 ^ d : Nat) : Int) = (s : Int) / 2 ^ d := by simp
        rw [e1, show ((1 : Nat) : Int) = 1 from rfl] at ha
        have e2 : s.testBit d = (((s / 2 ^ d &&& 1 : Nat) : Int) == 1) := by
          rw [Nat.testBit_eq_decide_div_mod_eq, Nat.and_one_is_mod, Bool.eq_iff_iff]
          simp only [decide_eq_true_eq, beq_iff_eq]
          omega
        have HB := hide (hb.trans e2)
        have HA := hide ha
        clear hb ha e1 e2 hs hr hk
        go_enter Tryd.func13, Tryd.ntmps13
        go_wp2_with fail
        refine HRA.out.mono ?_
        clear HRA
        rintro e _ ⟨rfl, rfl⟩
        go_wp2
        go_ret
        exact ⟨ret_bool (by rw [HA.out, HB.out]), rfl⟩
      · have hb : hasB s c = false := by simp [hasB, h1]
        have h1' : (32 : Int) ≤ c := by omega
        clear h1
        rw [hb]
        clear hb hr hk h3
        go_enter Tryd.func13, Tryd.ntmps13
        go_wp2_with fail
        refine HRA.out.mono ?_
        clear HRA
        rintro e _ ⟨rfl, rfl⟩
        go_wp2
        go_ret
        exact ⟨rfl, rfl⟩
    · have hb : hasB s c = false := by simp [hasB, h0]
      have h0' : c < 0 := by omega
      clear h0
      rw [hb]
      clear hb hr hk h3
      go_enter Tryd.func13, Tryd.ntmps13
      go_wp2_with fail
      refine HRA.out.mono ?_
      clear HRA
      rintro e _ ⟨rfl, rfl⟩
      go_wp2
      go_ret
      exact ⟨rfl, rfl⟩

set_option maxRecDepth 100000 in
theorem of_any (A : Option Addr) (n cp : Nat) (l : List Int) (w : World) (hr : Rds w w.heap.size 1 A n (intCells l)) :
    Calls Tryd.prog 15 #[.slice A n cp] w (Quiet w (.tuple #[.int .i64 (ofB l).1, .int .i64 (ofB l).2])) := by
  obtain rfl := hr.int_len
  have hm := hr.2.1
  go_enter Tryd.func15, Tryd.ntmps15
  go_wp2_with fail
  go_loopw [4, 9] (fun s i wr => ∃ (k : Nat), k ≤ l.length ∧ i = .int .i64 k ∧ s = .int .i64 (orS (l.take k) 0 : Nat) ∧ (l.take k).all okC = true ∧ ∃ q, wr = w.drewN q) (fun _ i _ => l.length - (intOf i).toNat)
  case atStart => exact ⟨0, Nat.zero_le _, rfl, rfl, rfl, 0, rfl⟩
  case round =>
    obtain ⟨k, hk, rfl, rfl, hall, q, rfl⟩ := hrel
    by_cases hlt : k < l.length
    · obtain ⟨b, o, rfl, hbl, ck⟩ := hr.int hlt
      have hall2 : (l.take (k + 1)).all okC = okC l[k] := by rw [List.take_succ_eq_append_getElem hlt, List.all_append, hall]; simp
      have hor : orS (l.take (k + 1)) 0 = orS (l.take k) 0 ||| 2 ^ l[k].toNat := by rw [List.take_succ_eq_append_getElem hlt, or_app]; rfl
      have hlt32 := or_lt (l.take k) 0 (by decide) hall
      have hbad : okC l[k] = false → ofB l = (0, 70) := fun h => by
        unfold ofB
        rw [if_neg]
        intro h2
        rw [List.all_eq_true] at h2
        have := h2 l[k] (List.getElem_mem hlt)
        rw [h] at this
        cases this
      have HALL := hide hall
      have HALL2 := hide hall2
      have HOR := hide hor
      have HBAD := hide hbad
      clear hall hall2 hor hbad
      generalize orS (l.take k) 0 = s at *
      generalize l[k] = c at *
      by_cases h0 : 0 ≤ c
      · by_cases h1 : c < 32
        · obtain ⟨d, rfl⟩ : ∃ d : Nat, c = d := ⟨c.toNat, by omega⟩
          have hok : okC (d : Int) = true := by simp only [okC, Bool.and_eq_true, decide_eq_true_eq]; omega
          have hd1 : (0 : Int) ≤ (d : Int) := by omega
          have hd2 : (d : Int) ≤ 64 := by omega
          obtain ⟨hp1, hp2⟩ := pow_i64 (k := d) (by omega)
          have hx := i64_or_nat s (2 ^ d) (by omega) (by have := pow_le32 (k := d) (by omega); omega)
          rw [show ((2 ^ d : Nat) : Int) = (2 : Int) ^ d by simp] at hx
          have HX := hide hx
          have HOK := hide hok
          clear hx hok
          go_wp2_with fail
          go_roundw
          case rel => exact ⟨k + 1, by omega, by simp, by rw [HX.out, HOR.out]; rfl, by rw [HALL2.out, HOK.out], q, rfl⟩
          case measure => simp [intOf]; omega
        · have hb := hide (HBAD.out (by simp [okC, h1]))
          go_wp2_with fail
          go_ret2
          exact ⟨by rw [hb.out]; rfl, q, rfl⟩
      · have hb := hide (HBAD.out (by simp [okC, h0]))
        go_wp2_with fail
        go_ret2
        exact ⟨by rw [hb.out]; rfl, q, rfl⟩
    · obtain rfl : k = l.length := by omega
      rw [List.take_length] at hall
      have hb := hide (of_ok hall)
      have he := List.take_length (l := l)
      rw [he]
      clear he hall
      go_wp2_with fail
      go_ret2
      exact ⟨by rw [hb.out]; rfl, q, rfl⟩
end Go.Proofs.YtigkphjgidbppaaDoor
