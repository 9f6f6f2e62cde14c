/- The program's field.code at every number. Conditions: none. -/
import Derived.WalkLawsBesides
import Derived.Test.YtdmkjchmcgjjmaaDoorHex
namespace Go.Proofs.YtdmkjchmcgjjmaaDoor
open Go Go.RowKit
theorem absI_min : absI (-9223372036854775808) = 0 := by
  unfold absI
  exact if_pos (by decide)
theorem abs_lt {n : Int} (h : n < 0) (h1 : -9223372036854775808 ≤ n) : absI n < 9223372036854775808 := by
  unfold absI
  split
  · decide
  · omega
set_option maxRecDepth 100000 in
set_option maxHeartbeats 4000000 in
theorem code_any (n : Int) (w : World) (h1 : -9223372036854775808 ≤ n) (h2 : n ≤ 9223372036854775807) : Calls Tryd.prog 39 #[.int .i64 n] w fun e w' => e = .returned (.string ⟨(codeS n).toArray⟩) ∧ w' = w := by
  by_cases hn : n < 0
  · skip
    have hc := code0_any (absI n) w (Nat.lt_of_lt_of_le (abs_lt hn h1) (by decide)) (abs_lt hn h1)
    have HC := hide (show codeS n = 45 :: codeN (absI n) from if_pos hn)
    have HL := codeN_len (absI n)
    generalize codeS n = C at *
    by_cases hm : n = -9223372036854775808
    · have ha : absI n = 0 := by rw [hm]; exact absI_min
      rw [ha] at hc HC HL
      clear hn h1 h2 ha
      subst hm
      generalize codeN 0 = c0 at *
      go_enter Tryd.func39, Tryd.ntmps39
      go_wp2_with fail
      rw [show max (wrap64 9223372036854775808) 0 = ((0 : Nat) : Int) by unfold wrap64; omega]
      refine hc.mono ?_
      rintro e _ ⟨rfl, rfl⟩
      have hsz : (⟨#[45]⟩ : ByteArray).size + c0.length ≤ 9223372036854775807 := by simp [ByteArray.size]; omega
      go_wp2_with fail
      go_ret
      refine ⟨?_, rfl⟩
      show Ending.returned (.string ((⟨[45].toArray⟩ : ByteArray) ++ ⟨c0.toArray⟩)) = _
      rw [bytes_append, HC.out]
      rfl
    · have hab : ((absI n : Nat) : Int) = -n := by unfold absI; rw [if_neg hm]; omega
      have hb1 : -n ≤ 9223372036854775807 := by omega
      have hb2 : -9223372036854775808 ≤ -n := by omega
      generalize codeN (absI n) = c0 at *
      rw [hab] at hc
      clear hab
      go_enter Tryd.func39, Tryd.ntmps39
      go_wp2_with fail
      refine Calls.mono (R := fun e w' => e = Ending.returned (Value.string ⟨c0.toArray⟩) ∧ w' = w) ?_ ?_
      · rw [show max (-n) 0 = -n by omega]
        exact hc
      rintro e _ ⟨rfl, rfl⟩
      have hsz : (⟨#[45]⟩ : ByteArray).size + c0.length ≤ 9223372036854775807 := by simp [ByteArray.size]; omega
      go_wp2_with fail
      go_ret
      refine ⟨?_, rfl⟩
      show Ending.returned (.string ((⟨[45].toArray⟩ : ByteArray) ++ ⟨c0.toArray⟩)) = _
      rw [bytes_append, HC.out]
      rfl
  · have hc := code0_any n.toNat w (by have : (16 : Nat) ^ 16 = 18446744073709551616 := by decide
                                       omega) (by omega)
    rw [show ((n.toNat : Nat) : Int) = n by omega] at hc
    have HC := hide (show codeS n = codeN n.toNat from if_neg hn)
    rw [HC.out]
    exact hc
end Go.Proofs.YtdmkjchmcgjjmaaDoor
