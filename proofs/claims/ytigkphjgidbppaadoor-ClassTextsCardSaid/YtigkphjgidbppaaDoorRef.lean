/- The reference's worth, Right, Has, Of, Classes, Not: they answer as the program's. Conditions: a list reads as its numbers. -/
import Derived.Test.YtigkphjgidbppaaDoorRefL
import Derived.Test.YtigkphjgidbppaaDoorSet
import Derived.Test.YtigkphjgidbppaaDoorIter
namespace Go.Proofs.YtigkphjgidbppaaDoor
open Go Go.RowKit

theorem worth_any (k : Nat) (hk : k ≤ 40) (w : World) : Calls Tryd.prog 29 #[.int .i64 (k : Int)] w fun e w' => e = .returned (.int .i64 ((2 ^ k : Nat) : Int)) ∧ w = w' := by
  go_enter Tryd.func29, Tryd.ntmps29
  go_wp2_with fail
  go_loopw [3, 4] (fun s i wr => ∃ (j : Nat), j ≤ k ∧ i = .int .i64 (j : Int) ∧ s = .int .i64 ((2 ^ j : Nat) : Int) ∧ wr = w) (fun _ i _ => k - (intOf i).toNat)
  case atStart => exact ⟨0, Nat.zero_le _, rfl, rfl, rfl⟩
  case round =>
    obtain ⟨j, hj, rfl, rfl, rfl⟩ := hrel
    have hp : 2 ^ j ≤ 2 ^ 40 := Nat.pow_le_pow_right (by omega) (by omega)
    have HS := hide (show ((2 * 2 ^ j : Nat) : Int) = ((2 ^ (j + 1) : Nat) : Int) by rw [Nat.pow_succ, Nat.mul_comm])
    by_cases hlt : j < k
    · have hlt' : (j : Int) < (k : Int) := by omega
      have hp2 : 2 ^ j ≤ 1099511627776 := hp
      generalize 2 ^ j = p at *
      clear hp
      go_wp2_with fail
      go_roundw
      case rel => exact ⟨j + 1, by omega, by simp, congrArg (Value.int .i64) (by have := HS.out; rw [← this]; simp), trivial⟩
      case measure => simp [intOf]; omega
    · obtain rfl : j = k := by omega
      obtain ⟨p, hp⟩ : ∃ p : Nat, p = 2 ^ j := ⟨_, rfl⟩
      have HP := hide hp
      rw [← hp]
      clear hp HS
      go_wp2_with fail
      go_ret
      exact ⟨by rw [← HP.out]; rfl, rfl⟩

theorem refRight_any (set n : Int) (w : World) : Calls Tryd.prog 17 #[.int .i64 set, .int .i64 n] w fun e w' => e = .returned (.bool (rightB set n)) ∧ w = w' := by
  by_cases h1 : 1 ≤ n
  · by_cases h2 : n ≤ 32
    · by_cases h3 : 0 ≤ set
      · obtain ⟨s, rfl⟩ : ∃ s : Nat, set = s := ⟨set.toNat, by omega⟩
        obtain ⟨k, rfl⟩ : ∃ k : Nat, n = k := ⟨n.toNat, by omega⟩
        have hb : rightB s k = decide ((s : Int) < ((2 ^ k : Nat) : Int)) := by
          rw [Bool.eq_iff_iff]
          simp only [rightB, Bool.and_eq_true, decide_eq_true_eq, Int.toNat_natCast]
          have e2 : ((2 ^ k : Nat) : Int) = (2 : Int) ^ k := by simp
          rw [e2]
          exact ⟨fun h => h.2, fun h => ⟨⟨⟨h1, h2⟩, h3⟩, h⟩⟩
        have HW := hide (fun w => worth_any k (by omega) w)
        rw [hb]
        clear hb
        generalize 2 ^ k = p at *
        go_enter Tryd.func17, Tryd.ntmps17
        go_wp2_with fail
        refine (HW.out _).mono ?_
        rintro e _ ⟨rfl, rfl⟩
        go_wp2
        go_ret
        exact ⟨ret_bool (by simp), rfl⟩
      · have hb : rightB set n = false := by simp [rightB, h3]
        have HB := hide hb
        clear hb
        go_enter Tryd.func17, Tryd.ntmps17
        go_wp2
        go_ret
        exact ⟨ret_bool HB.out.symm, rfl⟩
    · have hb : rightB set n = false := by simp [rightB, h2]
      have HB := hide hb
      clear hb
      go_enter Tryd.func17, Tryd.ntmps17
      go_wp2
      go_ret
      exact ⟨ret_bool HB.out.symm, rfl⟩
  · have hb : rightB set n = false := by simp [rightB, h1]
    have HB := hide hb
    clear hb
    go_enter Tryd.func17, Tryd.ntmps17
    go_wp2
    go_ret
    exact ⟨ret_bool HB.out.symm, rfl⟩

theorem refNot_any (set n : Int) (w : World) : Calls Tryd.prog 21 #[.int .i64 set, .int .i64 n] w fun e w' => e = .returned (.int .i64 (notB set n)) ∧ w = w' := by
  cases hr : rightB set n with
  | false =>
    have hb : notB set n = 0 := by unfold notB; rw [hr]; rfl
    have HB := hide hb
    have hra := refRight_any set n w
    rw [hr] at hra
    clear hb hr
    go_enter Tryd.func21, Tryd.ntmps21
    go_wp2_with fail
    refine hra.mono ?_
    rintro e _ ⟨rfl, rfl⟩
    go_wp2
    go_ret
    exact ⟨ret_i64 HB.out.symm, rfl⟩
  | true =>
    have hra := refRight_any set n w
    rw [hr] at hra
    obtain ⟨s, k, rfl, rfl, h1, h2, h3⟩ := right_nat hr
    have hb := not_of h1 h2 h3
    rw [← sub_xor h3] at hb
    have hp := pow_le32 h2
    have HW := hide (fun w => worth_any k (by omega) w)
    have HB := hide hb
    have hp2 : 2 ^ k ≤ 4294967296 := hp
    clear hb hr h1 hp
    generalize 2 ^ k = p at *
    go_enter Tryd.func21, Tryd.ntmps21
    go_wp2_with fail
    refine hra.mono ?_
    rintro e _ ⟨rfl, rfl⟩
    go_wp2_with fail
    refine (HW.out _).mono ?_
    rintro e _ ⟨rfl, rfl⟩
    go_wp2
    go_ret
    exact ⟨ret_i64 (by rw [HB.out]; omega), rfl⟩

set_option maxRecDepth 100000 in
theorem refHas_any (set c : Int) (w : World) : Calls Tryd.prog 18 #[.int .i64 set, .int .i64 c] w fun e w' => e = .returned (.bool (hasB set c)) ∧ w = w' := by
  have hra := refRight_any set 32 w
  cases hr : rightB set 32 with
  | false =>
    have hb : hasB set c = false := by unfold hasB; rw [hr]; rfl
    have HB := hide hb
    rw [hr] at hra
    clear hb hr
    go_enter Tryd.func18, Tryd.ntmps18
    go_wp2_with fail
    refine hra.mono ?_
    rintro e _ ⟨rfl, rfl⟩
    go_wp2
    go_ret
    exact ⟨ret_bool HB.out.symm, rfl⟩
  | true =>
    rw [hr] at hra
    obtain ⟨s, k, rfl, hk, hk1, hk2, h3⟩ := right_nat hr
    obtain rfl : k = 32 := by omega
    clear hk1 hk2
    have HRA := hide hra
    clear hra
    by_cases h0 : 0 ≤ c
    · by_cases h1 : c < 32
      · obtain ⟨d, rfl⟩ : ∃ d : Nat, c = d := ⟨c.toNat, by omega⟩
        have hb := has_div (c := d) h3 (by omega)
        have HW := hide (fun w => worth_any d (by omega) w)
        have hp0 : 0 < 2 ^ d := Nat.two_pow_pos d
        have hp := pow_le32 (k := d) (by omega)
        have hp2 : 2 ^ d ≤ 4294967296 := hp
        have HB := hide hb
        clear hb hr hk hp
        generalize 2 ^ d = p at *
        have hpz : ((p : Int) == 0) = false := by rw [beq_eq_false_iff_ne]; omega
        go_enter Tryd.func18, Tryd.ntmps18
        go_wp2_with fail
        refine HRA.out.mono ?_
        clear HRA
        rintro e _ ⟨rfl, rfl⟩
        go_wp2_with fail
        refine (HW.out _).mono ?_
        rintro e _ ⟨rfl, rfl⟩
        go_wp2
        go_ret
        refine ⟨ret_bool ?_, rfl⟩
        have hq : s / p ≤ s := Nat.div_le_self _ _
        rw [HB.out, show (s : Int) / (p : Int) = ((s / p : Nat) : Int) by simp, show wrap64 ((s / p : Nat) : Int) = ((s / p : Nat) : Int) by (generalize s / p = x at *; unfold wrap64; omega), show (((s / p : Nat) : Int)).tmod 2 = ((s / p % 2 : Nat) : Int) from rfl, Bool.eq_iff_iff]
        simp only [decide_eq_true_eq, beq_iff_eq]
        omega
      · have hb : hasB s c = false := by simp [hasB, h1]
        have h1' : (32 : Int) ≤ c := by omega
        clear h1
        rw [hb]
        clear hb hr hk h3
        go_enter Tryd.func18, Tryd.ntmps18
        go_wp2_with fail
        refine HRA.out.mono ?_
        clear HRA
        rintro e _ ⟨rfl, rfl⟩
        go_wp2
        go_ret
        exact ⟨rfl, rfl⟩
    · have hb : hasB s c = false := by simp [hasB, h0]
      have h0' : c < 0 := by omega
      clear h0
      rw [hb]
      clear hb hr hk h3
      go_enter Tryd.func18, Tryd.ntmps18
      go_wp2_with fail
      refine HRA.out.mono ?_
      clear HRA
      rintro e _ ⟨rfl, rfl⟩
      go_wp2
      go_ret
      exact ⟨rfl, rfl⟩

set_option maxRecDepth 100000 in
set_option maxHeartbeats 1000000 in
theorem refOf_any (A : Option Addr) (n cp : Nat) (l : List Int) (w : World) (hr : Rds w w.heap.size 1 A n (intCells l)) :
    Calls Tryd.prog 16 #[.slice A n cp] w (Quiet w (.tuple #[.int .i64 (ofB l).1, .int .i64 (ofB l).2])) := by
  obtain rfl := hr.int_len
  have hm := hr.2.1
  go_enter Tryd.func16, Tryd.ntmps16
  go_wp2_with fail
  go_loopw [4, 5] (fun s i wr => ∃ (k : Nat), k ≤ l.length ∧ i = .int .i64 k ∧ s = .int .i64 (orS (l.take k) 0 : Nat) ∧ (l.take k).all okC = true ∧ wr = w) (fun _ i _ => l.length - (intOf i).toNat)
  case atStart => exact ⟨0, Nat.zero_le _, rfl, rfl, rfl, rfl⟩
  case round =>
    obtain ⟨k, hk, rfl, rfl, hall, rfl⟩ := hrel
    by_cases hlt : k < l.length
    · obtain ⟨b, o, rfl, hbl, ck⟩ := hr.int hlt
      have hall2 : (l.take (k + 1)).all okC = okC l[k] := by rw [List.take_succ_eq_append_getElem hlt, List.all_append, hall]; simp
      have hor : orS (l.take (k + 1)) 0 = orS (l.take k) 0 ||| 2 ^ l[k].toNat := by rw [List.take_succ_eq_append_getElem hlt, or_app]; rfl
      have hlt32 := or_lt (l.take k) 0 (by decide) hall
      have hbad : okC l[k] = false → ofB l = (0, 70) := fun h => by
        unfold ofB
        rw [if_neg]
        intro h2
        rw [List.all_eq_true] at h2
        have := h2 l[k] (List.getElem_mem hlt)
        rw [h] at this
        cases this
      have HALL := hide hall
      have HALL2 := hide hall2
      have HOR := hide hor
      have HBAD := hide hbad
      clear hall hall2 hor hbad
      generalize orS (l.take k) 0 = s at *
      generalize l[k] = c at *
      by_cases h0 : 0 ≤ c
      · by_cases h1 : c < 32
        · obtain ⟨d, rfl⟩ : ∃ d : Nat, c = d := ⟨c.toNat, by omega⟩
          have hok : okC (d : Int) = true := by simp only [okC, Bool.and_eq_true, decide_eq_true_eq]; omega
          have HOK := hide hok
          have hd31 : ¬ (31 : Int) < (d : Int) := by omega
          have hhas := refHas_any (s : Int) (d : Int) wr
          rw [has_of hlt32 (by omega)] at hhas
          clear hok
          cases hb : s.testBit d with
          | true =>
            rw [hb] at hhas
            have HX := hide ((or_has hb).symm.trans HOR.out.symm)
            have HHAS := hide hhas
            clear hb hhas
            go_wp2_with fail
            refine HHAS.out.mono ?_
            rintro e _ ⟨rfl, rfl⟩
            go_wp2_with fail
            go_roundw
            case rel => exact ⟨k + 1, by omega, by simp, congrArg (Value.int .i64) (congrArg Nat.cast HX.out), by rw [HALL2.out, HOK.out], trivial⟩
            case measure => simp [intOf]; omega
          | false =>
            rw [hb] at hhas
            have HX := hide ((add_or hlt32 (by omega) hb).trans HOR.out.symm)
            have HHAS := hide hhas
            have HW := hide (fun w => worth_any d (by omega) w)
            have hp := pow_le32 (k := d) (by omega)
            have hp2 : 2 ^ d ≤ 4294967296 := hp
            have hs2 : s < 4294967296 := hlt32
            clear hb hhas hp HOR
            generalize 2 ^ d = p at *
            go_wp2_with fail
            refine HHAS.out.mono ?_
            rintro e _ ⟨rfl, rfl⟩
            go_wp2_with fail
            refine (HW.out _).mono ?_
            rintro e _ ⟨rfl, rfl⟩
            go_wp2_with fail
            go_roundw
            case rel => exact ⟨k + 1, by omega, by simp, congrArg (Value.int .i64) (by rw [← HX.out]; simp), by rw [HALL2.out, HOK.out], trivial⟩
            case measure => simp [intOf]; omega
        · have hb := hide (HBAD.out (by simp [okC, h1]))
          have hc31 : (31 : Int) < c := by omega
          go_wp2_with fail
          go_ret2
          exact ⟨by rw [hb.out]; rfl, 0, rfl⟩
      · have hb := hide (HBAD.out (by simp [okC, h0]))
        have hc0 : c < 0 := by omega
        go_wp2_with fail
        go_ret2
        exact ⟨by rw [hb.out]; rfl, 0, rfl⟩
    · obtain rfl : k = l.length := by omega
      rw [List.take_length] at hall
      have hb := hide (of_ok hall)
      have he := List.take_length (l := l)
      rw [he]
      generalize orS l 0 = s at *
      clear hall he
      go_wp2_with fail
      go_ret2
      exact ⟨by rw [hb.out]; rfl, 0, rfl⟩
end Go.Proofs.YtigkphjgidbppaaDoor
