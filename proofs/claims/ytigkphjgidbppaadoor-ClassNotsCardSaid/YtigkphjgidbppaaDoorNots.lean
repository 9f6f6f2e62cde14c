/- The walk of the law ClassNots. Condition: the law's shown is true. -/
import Derived.Test.YtigkphjgidbppaaDoorIter
namespace Go.Proofs.YtigkphjgidbppaaDoor
open Go Go.RowKit

theorem nots_facts {s k : Nat} (h1 : 1 ≤ k) (h2 : k ≤ 32) (h3 : s < 2 ^ k) : ∃ m : Nat, notB (s : Int) (k : Int) = (m : Int) ∧ rightB (m : Int) (k : Int) = true ∧ notB (m : Int) (k : Int) = (s : Int) ∧
    (∀ d : Nat, d < k → hasB (m : Int) (d : Int) = !(hasB (s : Int) (d : Int))) ∧ (classesB (s : Int)).length + (classesB (m : Int)).length = k := by
  have hs : s < 2 ^ 32 := Nat.lt_of_lt_of_le h3 (pow_le32 h2)
  have hm := xor_lt h3
  have hm2 : s ^^^ (2 ^ k - 1) < 2 ^ 32 := Nat.lt_of_lt_of_le hm (pow_le32 h2)
  refine ⟨s ^^^ (2 ^ k - 1), not_of h1 h2 h3, right_of h1 h2 hm, ?_, fun d hd => ?_, ?_⟩
  · rw [not_of h1 h2 hm, xor_back]
  · rw [has_of hm2 (by omega), has_of hs (by omega), xor_bit hd]
  · rw [classes_len hs, classes_len hm2, count_both h3 32]
    exact Nat.min_eq_right h2

set_option maxRecDepth 100000 in
set_option maxHeartbeats 2000000 in
theorem classNots_any (set n c : Int) (w : World) (hsh : Calls Tryd.prog 10 #[] w (Freed w (.bool true))) :
    Calls Tryd.prog 3 #[.int .i64 set, .int .i64 n, .int .i64 c] w (Freed w (.bool true)) := by
  have hna := fun w => not_any set n w
  have hra := fun w => right_any set n w
  cases hr : rightB set n with
  | false =>
    have hb : notB set n = 0 := by unfold notB; rw [hr]; rfl
    rw [hb] at hna
    rw [hr] at hra
    clear hb hr
    have HNA := hide hna
    have HRA := hide hra
    clear hna hra
    go_enter Tryd.func3, Tryd.ntmps3
    go_wp2_with fail
    refine hsh.mono ?_
    rintro e w1 ⟨rfl, hb1⟩
    go_wp2_with fail
    refine (HNA.out w1).mono ?_
    rintro e _ ⟨rfl, rfl⟩
    go_wp2_with fail
    refine (HRA.out w1).mono ?_
    rintro e _ ⟨rfl, rfl⟩
    go_wp2
    go_ret
    exact ⟨rfl, hb1⟩
  | true =>
    rw [hr] at hra
    obtain ⟨s, k, rfl, rfl, h1, h2, h3⟩ := right_nat hr
    obtain ⟨m, e1, e2, e3, e4, e5⟩ := nots_facts h1 h2 h3
    have hrm := fun w => right_any m k w
    have hnm := fun w => not_any m k w
    rw [e1] at hna
    rw [e2] at hrm
    rw [e3] at hnm
    have hc1 := fun w => Classes_any s w
    have hc2 := fun w => Classes_any m w
    have hh1 := fun c w => has_any s c w
    have hh2 := fun c w => has_any m c w
    generalize classesB (s : Int) = L1 at *
    generalize classesB (m : Int) = L2 at *
    generalize hasB (s : Int) = f1 at *
    generalize hasB (m : Int) = f2 at *
    have hl : (L1.length : Int) + (L2.length : Int) = (k : Int) := by omega
    have HNA := hide hna
    have HRA := hide hra
    have HRM := hide hrm
    have HNM := hide hnm
    have HC1 := hide hc1
    have HC2 := hide hc2
    have HH1 := hide hh1
    have HH2 := hide hh2
    have H4 := hide e4
    have HL := hide hl
    have hl32 : L1.length ≤ 32 ∧ L2.length ≤ 32 := by omega
    clear hna hra hrm hnm hc1 hc2 hh1 hh2 e1 e2 e3 e4 e5 hl hr h3
    go_enter Tryd.func3, Tryd.ntmps3
    go_wp2_with fail
    refine hsh.mono ?_
    rintro e w1 ⟨rfl, hb1⟩
    go_wp2_with fail
    refine (HNA.out w1).mono ?_
    rintro e _ ⟨rfl, rfl⟩
    go_wp2_with fail
    refine (HRA.out w1).mono ?_
    rintro e _ ⟨rfl, rfl⟩
    go_wp2_with fail
    refine (HRM.out w1).mono ?_
    rintro e _ ⟨rfl, rfl⟩
    go_wp2_with fail
    refine (HNM.out w1).mono ?_
    rintro e _ ⟨rfl, rfl⟩
    by_cases hc0 : c < 0
    · have hd0 : decide (c < 0) = true := decide_eq_true hc0
      go_wp2_with fail
      refine (HC1.out w1).mono ?_
      rintro e w2 ⟨A1, c1, rfl, _, _, hb2⟩
      have hb02 := hb1.trans (hb2.mono hb1.size)
      go_wp2_with fail
      refine (HC2.out w2).mono ?_
      rintro e w3 ⟨A2, c2, rfl, _, _, hb3⟩
      have hle := HL.out
      go_wp2
      go_ret
      exact ⟨rfl, hb02.trans (hb3.mono hb02.size)⟩
    · by_cases hck : (k : Int) ≤ c
      · have hd0 : decide (c < 0) = false := decide_eq_false hc0
        have hd1 : decide ((k : Int) ≤ c) = true := decide_eq_true hck
        go_wp2_with fail
        refine (HC1.out w1).mono ?_
        rintro e w2 ⟨A1, c1, rfl, _, _, hb2⟩
        have hb02 := hb1.trans (hb2.mono hb1.size)
        go_wp2_with fail
        refine (HC2.out w2).mono ?_
        rintro e w3 ⟨A2, c2, rfl, _, _, hb3⟩
        have hle := HL.out
        go_wp2
        go_ret
        exact ⟨rfl, hb02.trans (hb3.mono hb02.size)⟩
      · obtain ⟨d, rfl⟩ : ∃ d : Nat, c = d := ⟨c.toNat, by omega⟩
        have hdk : d < k := by omega
        have hd1 : decide ((k : Int) ≤ (d : Int)) = false := decide_eq_false hck
        have he4 := H4.out d hdk
        have h1d := HH1.out d
        have h2d := HH2.out d
        rw [he4] at h2d
        generalize f1 (d : Int) = bb at *
        have H1D := hide h1d
        have H2D := hide h2d
        clear h1d h2d he4 HH1 HH2 H4
        go_wp2_with fail
        refine (H1D.out w1).mono ?_
        rintro e _ ⟨rfl, rfl⟩
        go_wp2_with fail
        refine (H2D.out w1).mono ?_
        rintro e _ ⟨rfl, rfl⟩
        cases bb
        all_goals (
          go_wp2_with fail
          refine (HC1.out w1).mono ?_
          rintro e w2 ⟨A1, c1, rfl, _, _, hb2⟩
          have hb02 := hb1.trans (hb2.mono hb1.size)
          go_wp2_with fail
          refine (HC2.out w2).mono ?_
          rintro e w3 ⟨A2, c2, rfl, _, _, hb3⟩
          have hle := HL.out
          go_wp2
          go_ret
          exact ⟨rfl, hb02.trans (hb3.mono hb02.size)⟩)
end Go.Proofs.YtigkphjgidbppaaDoor
