/- The program's field.code: a number's print. Conditions: none. -/
import Derived.WalkLawsBesides
import Derived.Test.YtdmkjchmcgjjmaaDoorParse
namespace Go.Proofs.YtdmkjchmcgjjmaaDoor
open Go Go.RowKit

/-- a digit's byte -/
def hexC (d : Nat) : UInt8 := UInt8.ofNat (if d < 10 then 48 + d else 55 + d)
/-- a number's digits ahead of those that are there, at most so many -/
def hexF : Nat → Nat → List UInt8 → List UInt8
  | 0, _, acc => acc
  | f + 1, n, acc => if n = 0 then acc else hexF f (n / 16) (hexC (n % 16) :: acc)
theorem hexF_zero : ∀ (f : Nat) (acc : List UInt8), hexF f 0 acc = acc
  | 0, _ => rfl
  | _ + 1, _ => rfl
theorem hexF_step {f n : Nat} (h : n ≠ 0) (acc : List UInt8) : hexF (f + 1) n acc = hexF f (n / 16) (hexC (n % 16) :: acc) := if_neg h
theorem hexF_len : ∀ (f n : Nat) (acc : List UInt8), (hexF f n acc).length ≤ f + acc.length
  | 0, _, acc => by simp [hexF]
  | f + 1, n, acc => by
    unfold hexF
    split
    · omega
    · have := hexF_len f (n / 16) (hexC (n % 16) :: acc)
      rw [List.length_cons] at this
      omega
/-- a number's print -/
def codeN (n : Nat) : List UInt8 := List.replicate (4 - min (hexF 16 n []).length 4) 48 ++ hexF 16 n []
def absI (n : Int) : Nat := if n = -9223372036854775808 then 0 else (-n).toNat
def codeS (n : Int) : List UInt8 := if n < 0 then 45 :: codeN (absI n) else codeN n.toNat
theorem codeN_len (n : Nat) : (codeN n).length ≤ 20 := by
  unfold codeN
  have := hexF_len 16 n []
  rw [List.length_append, List.length_replicate]
  simp at this
  omega
theorem codeS_len (n : Int) : (codeS n).length ≤ 21 := by
  unfold codeS
  split
  · have := codeN_len (absI n)
    rw [List.length_cons]; omega
  · have := codeN_len n.toNat
    omega
def sH : ByteArray := ⟨#[48, 49, 50, 51, 52, 53, 54, 55, 56, 57, 65, 66, 67, 68, 69, 70]⟩
theorem sH_at : ∀ d : Nat, d < 16 → sH.extract d (d + 1) = ⟨#[hexC d]⟩ := by
  intro d hd
  have h : d = 0 ∨ d = 1 ∨ d = 2 ∨ d = 3 ∨ d = 4 ∨ d = 5 ∨ d = 6 ∨ d = 7 ∨ d = 8 ∨ d = 9 ∨ d = 10 ∨ d = 11 ∨ d = 12 ∨ d = 13 ∨ d = 14 ∨ d = 15 := by omega
  rcases h with rfl | rfl | rfl | rfl | rfl | rfl | rfl | rfl | rfl | rfl | rfl | rfl | rfl | rfl | rfl | rfl <;> decide

theorem zeros_at : ∀ m : Nat, m ≤ 4 → (⟨#[48, 48, 48, 48]⟩ : ByteArray).extract m 4 = ⟨(List.replicate (4 - m) 48).toArray⟩ := by
  intro m hm
  have h : m = 0 ∨ m = 1 ∨ m = 2 ∨ m = 3 ∨ m = 4 := by omega
  rcases h with rfl | rfl | rfl | rfl | rfl <;> decide
theorem bytes_append (a b : List UInt8) : (⟨a.toArray⟩ : ByteArray) ++ ⟨b.toArray⟩ = ⟨(a ++ b).toArray⟩ := by
  apply data_inj
  simp

set_option maxRecDepth 100000 in
set_option maxHeartbeats 4000000 in
theorem code0_any (n : Nat) (w : World) (hn : n < 16 ^ 16) (hn' : n < 9223372036854775808) : Calls Tryd.prog 39 #[.int .i64 (n : Int)] w fun e w' => e = .returned (.string ⟨(codeN n).toArray⟩) ∧ w' = w := by
  have HL := hide (hexF_len 16 n [])
  have HC : Hid (codeN n = List.replicate (4 - min (hexF 16 n []).length 4) 48 ++ hexF 16 n []) := rfl
  generalize codeN n = C at *
  have hneg : ¬ (n : Int) < 0 := by omega
  go_enter Tryd.func39, Tryd.ntmps39
  go_wp2_with fail
  go_loopg [0, 3] 16 (fun g s0 s3 wx => ∃ (k : Nat) (acc : List UInt8), s0 = .int .i64 (k : Int) ∧ s3 = .string ⟨acc.toArray⟩ ∧ hexF g k acc = hexF 16 n [] ∧ k < 16 ^ g ∧ g ≤ 16 ∧ acc.length + g ≤ 16 ∧ k < 9223372036854775808 ∧ wx = w)
  case atStart => exact ⟨n, [], rfl, rfl, rfl, hn, Nat.le_refl _, Nat.le_refl _, hn', rfl⟩
  case round =>
    obtain ⟨k, acc, rfl, rfl, hh, hk, hg, hal, hk9, rfl⟩ := hrel
    have HH := hide hh
    have HK := hide hk
    clear hh hk
    by_cases h0 : k = 0
    · subst h0
      go_wp2_with fail
      go_ret
      refine ⟨?_, rfl⟩
      have hm : ((min (acc.length : Int) 4).toNat) = min acc.length 4 := by omega
      have hz := zeros_at (min acc.length 4) (Nat.min_le_right _ _)
      have ha : acc = hexF 16 n [] := by rw [← HH.out, hexF_zero]
      show Ending.returned (.string ((⟨#[48, 48, 48, 48]⟩ : ByteArray).extract (min (acc.length : Int) 4).toNat 4 ++ ⟨acc.toArray⟩)) = _
      rw [hm, hz, bytes_append, HC.out, ha]
    · obtain ⟨g', rfl⟩ : ∃ g', gk = g' + 1 := by
        cases gk with
        | zero => exact absurd (show k = 0 by have := HK.out; simp at this; exact this) h0
        | succ g' => exact ⟨g', rfl⟩
      have hpos : (0 : Int) < (k : Int) := by omega
      have hm0 : (0 : Int) ≤ (k : Int) % 16 := by omega
      have hm1 : (k : Int) % 16 + 1 ≤ 16 := by omega
      have hm2 : (k : Int) % 16 ≤ (k : Int) % 16 + 1 := by omega
      have HH2 := hide (HH.out.symm.trans (hexF_step h0 acc))
      have HK2 := hide (show k / 16 < 16 ^ g' by have := HK.out; rw [Nat.pow_succ] at this; omega)
      have HST := hide (sH_at (k % 16) (by omega))
      have hsz : (sH.extract (k % 16) (k % 16 + 1)).size + acc.length ≤ 9223372036854775807 := by rw [HST.out, size_mk]; simp; omega
      go_wp2_with fail
      go_roundg g'
      case measure => omega
      case rel =>
        refine ⟨k / 16, hexC (k % 16) :: acc, rfl, ?_, HH2.out.symm, HK2.out, by omega, by rw [List.length_cons]; omega, by omega, rfl⟩
        show Value.string (sH.extract (k % 16) (k % 16 + 1) ++ ⟨acc.toArray⟩) = _
        rw [HST.out, show (⟨#[hexC (k % 16)]⟩ : ByteArray) = ⟨[hexC (k % 16)].toArray⟩ from rfl, bytes_append]
        rfl

end Go.Proofs.YtdmkjchmcgjjmaaDoor
