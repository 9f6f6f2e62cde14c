/- The reference's hex: a number's print. Conditions: none. -/
import Derived.Test.YtdmkjchmcgjjmaaDoorHexC
namespace Go.Proofs.YtdmkjchmcgjjmaaDoor
open Go Go.RowKit

def pad4 (l : List UInt8) : List UInt8 := List.replicate (4 - min l.length 4) 48 ++ l
theorem pad4_step {l : List UInt8} (h : l.length < 4) : pad4 (48 :: l) = pad4 l := by
  unfold pad4
  rw [List.length_cons, show 4 - min l.length 4 = (4 - min (l.length + 1) 4) + 1 by omega, List.replicate_succ', List.append_assoc]
  rfl
theorem pad4_full {l : List UInt8} (h : 4 ≤ l.length) : pad4 l = l := by
  unfold pad4
  rw [show 4 - min l.length 4 = 0 by omega]
  rfl

set_option maxRecDepth 100000 in
set_option maxHeartbeats 4000000 in
theorem hex0_any (n : Nat) (w : World) (hn : n < 16 ^ 16) (hn' : n < 9223372036854775808) : Calls Tryd.prog 42 #[.int .i64 (n : Int)] w fun e w' => e = .returned (.string ⟨(codeN n).toArray⟩) ∧ w = w' := by
  have HC : Hid (codeN n = pad4 (hexF 16 n [])) := rfl
  generalize codeN n = C at *
  have hneg : ¬ (n : Int) < 0 := by omega
  go_enter Tryd.func42, Tryd.ntmps42
  go_wp2_with fail
  go_loopg [0, 4] 20 (fun g s0 s4 wx => ∃ (k f : Nat) (acc : List UInt8), s0 = .int .i64 (k : Int) ∧ s4 = .string ⟨acc.toArray⟩ ∧ pad4 (hexF f k acc) = C ∧ k < 16 ^ f ∧ f ≤ 16 ∧ acc.length + f ≤ 20 ∧ (f < 16 → True) ∧ g = f + (4 - acc.length) ∧ acc.length ≤ 20 ∧ k < 9223372036854775808 ∧ w = wx)
  case atStart => exact ⟨n, 16, [], rfl, rfl, HC.out.symm, hn, Nat.le_refl _, by decide, fun _ => trivial, rfl, by decide, hn', rfl⟩
  case round =>
    obtain ⟨k, f, acc, rfl, rfl, hh, hk, hf, hal, -, rfl, ha20, hk9, rfl⟩ := hrel
    have HH := hide hh
    have HK := hide hk
    clear hh hk
    by_cases h0 : k = 0
    · subst h0
      by_cases h4 : acc.length < 4
      · have h4' : (acc.length : Int) < 4 := by omega
        have HST := hide (sH_at 0 (by decide))
        have hsz : (sH.extract 0 1).size + acc.length ≤ 9223372036854775807 := by rw [HST.out, size_mk]; simp; omega
        go_wp2_with fail
        go_roundg (f + (4 - (acc.length + 1)))
        case measure => omega
        case rel =>
          refine ⟨0, f, 48 :: acc, rfl, ?_, ?_, HK.out, hf, by rw [List.length_cons]; omega, fun _ => trivial, by rw [List.length_cons], by rw [List.length_cons]; omega, by decide, rfl⟩
          · show Value.string (sH.extract 0 1 ++ ⟨acc.toArray⟩) = _
            rw [HST.out, show (⟨#[hexC 0]⟩ : ByteArray) = ⟨[hexC 0].toArray⟩ from rfl, bytes_append]
            rfl
          · rw [← HH.out, hexF_zero, hexF_zero]
            exact pad4_step h4
      · have h4' : ¬ (acc.length : Int) < 4 := by omega
        go_wp2_with fail
        go_ret
        refine ⟨?_, rfl⟩
        rw [← HH.out, hexF_zero, pad4_full (by omega)]
        rfl
    · obtain ⟨g', rfl⟩ : ∃ g', f = g' + 1 := by
        cases f with
        | zero => exact absurd (show k = 0 by have := HK.out; simp at this; exact this) h0
        | succ g' => exact ⟨g', rfl⟩
      have hpos : (0 : Int) < (k : Int) := by omega
      have hm0 : (0 : Int) ≤ (k : Int) % 16 := by omega
      have hm1 : (k : Int) % 16 + 1 ≤ 16 := by omega
      have hm2 : (k : Int) % 16 ≤ (k : Int) % 16 + 1 := by omega
      have HH2 := hide (hexF_step (f := g') h0 acc)
      have HK2 := hide (show k / 16 < 16 ^ g' by have := HK.out; rw [Nat.pow_succ] at this; omega)
      have HST := hide (sH_at (k % 16) (by omega))
      have hsz : (sH.extract (k % 16) (k % 16 + 1)).size + acc.length ≤ 9223372036854775807 := by rw [HST.out, size_mk]; simp; omega
      go_wp2_with fail
      go_roundg (g' + (4 - (acc.length + 1)))
      case measure => omega
      case rel =>
        refine ⟨k / 16, g', hexC (k % 16) :: acc, rfl, ?_, by rw [← HH.out, HH2.out], HK2.out, by omega, by rw [List.length_cons]; omega, fun _ => trivial, by rw [List.length_cons], by rw [List.length_cons]; omega, by omega, rfl⟩
        show Value.string (sH.extract (k % 16) (k % 16 + 1) ++ ⟨acc.toArray⟩) = _
        rw [HST.out, show (⟨#[hexC (k % 16)]⟩ : ByteArray) = ⟨[hexC (k % 16)].toArray⟩ from rfl, bytes_append]
        rfl

set_option maxRecDepth 100000 in
set_option maxHeartbeats 4000000 in
theorem hex_any (n : Int) (w : World) (h1 : -9223372036854775808 ≤ n) (h2 : n ≤ 9223372036854775807) : Calls Tryd.prog 42 #[.int .i64 n] w fun e w' => e = .returned (.string ⟨(codeS n).toArray⟩) ∧ w = w' := by
  by_cases hn : n < 0
  · skip
    have hc := hex0_any (absI n) w (Nat.lt_of_lt_of_le (abs_lt hn h1) (by decide)) (abs_lt hn h1)
    have HC := hide (show codeS n = 45 :: codeN (absI n) from if_pos hn)
    have HL := codeN_len (absI n)
    generalize codeS n = C at *
    by_cases hm : n = -9223372036854775808
    · have ha : absI n = 0 := by rw [hm]; exact absI_min
      rw [ha] at hc HC HL
      clear hn h1 h2 ha
      subst hm
      generalize codeN 0 = c0 at *
      go_enter Tryd.func42, Tryd.ntmps42
      go_wp2_with fail
      rw [show max (wrap64 9223372036854775808) 0 = ((0 : Nat) : Int) by unfold wrap64; omega]
      refine hc.mono ?_
      rintro e _ ⟨rfl, rfl⟩
      have hsz : (⟨#[45]⟩ : ByteArray).size + c0.length ≤ 9223372036854775807 := by simp [ByteArray.size]; omega
      go_wp2_with fail
      go_ret
      refine ⟨?_, rfl⟩
      show Ending.returned (.string ((⟨[45].toArray⟩ : ByteArray) ++ ⟨c0.toArray⟩)) = _
      rw [bytes_append, HC.out]
      rfl
    · have hab : ((absI n : Nat) : Int) = -n := by unfold absI; rw [if_neg hm]; omega
      have hb1 : -n ≤ 9223372036854775807 := by omega
      have hb2 : -9223372036854775808 ≤ -n := by omega
      generalize codeN (absI n) = c0 at *
      rw [hab] at hc
      clear hab
      go_enter Tryd.func42, Tryd.ntmps42
      go_wp2_with fail
      refine Calls.mono (R := fun e w' => e = Ending.returned (Value.string ⟨c0.toArray⟩) ∧ w = w') ?_ ?_
      · rw [show max (-n) 0 = -n by omega]
        exact hc
      rintro e _ ⟨rfl, rfl⟩
      have hsz : (⟨#[45]⟩ : ByteArray).size + c0.length ≤ 9223372036854775807 := by simp [ByteArray.size]; omega
      go_wp2_with fail
      go_ret
      refine ⟨?_, rfl⟩
      show Ending.returned (.string ((⟨[45].toArray⟩ : ByteArray) ++ ⟨c0.toArray⟩)) = _
      rw [bytes_append, HC.out]
      rfl
  · have hc := hex0_any n.toNat w (by have : (16 : Nat) ^ 16 = 18446744073709551616 := (by decide); omega) (by omega)
    rw [show ((n.toNat : Nat) : Int) = n by omega] at hc
    have HC := hide (show codeS n = codeN n.toNat from if_neg hn)
    rw [HC.out]
    exact hc
end Go.Proofs.YtdmkjchmcgjjmaaDoor
