/- Bytes' sums: the program's pack.Sum, the reference's Sum; the law's cut. Conditions: the text is no longer than a text can be. -/
import Derived.Test.YtibndkkbmgbogaaDoorProg
import Derived.Test.YtibndkkbmgbogaaDoorBase
import Derived.Test.YtibndkkbmgbogaaDoorClone
import Derived.Laws.IdiomStrings
import Derived.BigQuiet
import Derived.Deep.QuietTactic
import Derived.Outline
namespace Go.Proofs.YtibndkkbmgbogaaDoor
open Go Go.RowKit

/-- bytes together -/
def sumB (l : List UInt8) : Nat := (l.map UInt8.toNat).sum
theorem sumB_nil : sumB [] = 0 := rfl
theorem sumB_app (l m : List UInt8) : sumB (l ++ m) = sumB l + sumB m := by simp [sumB]
theorem sumB_snoc (l : List UInt8) (b : UInt8) : sumB (l ++ [b]) = sumB l + b.toNat := by simp [sumB]
theorem sumB_le (l : List UInt8) : sumB l ≤ 255 * l.length := by
  induction l with
  | nil => simp [sumB]
  | cons b l ih =>
    have e : sumB (b :: l) = b.toNat + sumB l := by simp [sumB]
    rw [e, List.length_cons]
    have := b.toNat_lt
    omega
theorem sumB_take (s : ByteArray) (k : Nat) (h : k < s.size) : sumB (s.data.toList.take (k + 1)) = sumB (s.data.toList.take k) + s.data[k].toNat := by
  rw [List.take_succ_eq_append_getElem (by simpa using h), sumB_snoc]
  rfl
theorem sumB_all (s : ByteArray) : sumB (s.data.toList.take s.size) = sumB s.data.toList := by
  rw [List.take_of_length_le (by simp)]

def Freed (w : World) (v : Value) (e : Ending) (w' : World) : Prop := e = .returned v ∧ Below w.heap.size w w'

/-- what []byte of a text has laid -/
theorem bytes_laid {w : World} (s : ByteArray) (cap t : Nat) (fr : Nat × Nat) (j : Nat) (hj : j < s.size) : ((w.alloc (.cells (bytesRow s cap) t fr)).drew).cell? ⟨w.heap.size, j, none⟩ = some (.int .u8 (s.data[j].toNat : Int)) := by
  have h : ((w.alloc (.cells (bytesRow s cap) t fr)).drew).heap[w.heap.size]? = some (.cells (bytesRow s cap) t fr) := heap_alloc_new w _
  rw [cell_of_row _ _ j _ _ fr h]
  exact bytesRow_at s cap j hj

set_option maxHeartbeats 800000 in
theorem sum_any (s : ByteArray) (w : World) (hs : s.size ≤ 1000000) : Calls Tryd.prog 36 #[.string s] w (Freed w (.int .i64 ((sumB s.data.toList % 65536 : Nat) : Int))) := by
  have hconv := fun W : World => run_bytes_of_string (P := Tryd.prog) W 9 45 5 s Tryd.underlying9 Tryd.underlying45 Tryd.underlying5
  go_enter Tryd.func36, Tryd.ntmps36
  go_wp2_with fail
  clear hconv
  generalize grownCap w s.size 0 5 = cap at *
  have hcell := fun j hj => bytes_laid (w := w) s cap 5 ((bytesRow s cap).size, (bytesRow s cap).size + 1) j hj
  have hb1 : Below w.heap.size w ((w.alloc (.cells (bytesRow s cap) 5 ((bytesRow s cap).size, (bytesRow s cap).size + 1))).drew) := ((Below.refl _ _).alloc (Nat.le_refl _) _).drew
  generalize (w.alloc (.cells (bytesRow s cap) 5 ((bytesRow s cap).size, (bytesRow s cap).size + 1))).drew = W1 at *
  have HC := hide hcell
  clear hcell
  go_loopw [3, 9] (fun n i wr => ∃ k : Nat, k ≤ s.size ∧ i = .int .i64 k ∧ n = .int .i64 ((sumB (s.data.toList.take k) : Nat) : Int) ∧ wr = W1) (fun _ i _ => s.size - (intOf i).toNat)
  case atStart => exact ⟨0, Nat.zero_le _, rfl, rfl, rfl⟩
  case round =>
    obtain ⟨k, hk, rfl, rfl, rfl⟩ := hrel
    have hle := sumB_le (s.data.toList.take k)
    have hl : (s.data.toList.take k).length ≤ k := List.length_take_le _ _
    by_cases hlt : k < s.size
    · have c0 := HC.out k hlt
      have HT := hide (sumB_take s k hlt)
      have hbt := (s.data[k]'hlt).toNat_lt
      generalize (s.data[k]'hlt).toNat = c at *
      generalize sumB (s.data.toList.take k) = m at *
      go_wp2
      go_roundw
      case rel => exact ⟨k + 1, by omega, by go_num, by rw [HT.out]; go_num, by first | rfl | trivial⟩
      case measure => simp [intOf]; omega
    · obtain rfl : k = s.size := by omega
      have HA := hide (sumB_all s)
      generalize sumB (s.data.toList.take s.size) = m at *
      go_wp2
      go_ret
      exact ⟨by rw [← HA.out]; exact ret_i64 (by omega), hb1⟩

set_option maxHeartbeats 800000 in
theorem refSum_any (s : ByteArray) (w : World) (hs : s.size ≤ 1000000) : Calls Tryd.prog 32 #[.string s] w fun e w' => e = .returned (.int .i64 ((sumB s.data.toList % 65536 : Nat) : Int)) ∧ w = w' := by
  go_enter Tryd.func32, Tryd.ntmps32
  go_wp2_with fail
  go_loop [3, 4] (fun n i => ∃ (k m : Nat), k ≤ s.size ∧ i = .int .i64 k ∧ n = .int .i64 (m : Int) ∧ m = sumB (s.data.toList.take k) % 65536) (fun _ i => s.size - (intOf i).toNat)
  case atStart => exact ⟨0, 0, Nat.zero_le _, rfl, rfl, rfl⟩
  case round =>
    obtain ⟨k, m, hk, rfl, rfl, hm⟩ := hrel
    have hm2 : m < 65536 := by rw [hm]; exact Nat.mod_lt _ (by omega)
    have HM := hide hm
    clear hm
    by_cases hlt : k < s.size
    · have HT := hide (sumB_take s k hlt)
      have hbt := (s.data[k]'hlt).toNat_lt
      have hge : (s[k]'hlt) = s.data[k]'hlt := rfl
      go_wp2
      go_round
      case rel => exact ⟨k + 1, (m + (s.data[k]'hlt).toNat) % 65536, by omega, by go_num, by go_num, by rw [HT.out, HM.out]; omega⟩
      case measure => simp [intOf]; omega
    · obtain rfl : k = s.size := by omega
      have HA := hide (sumB_all s)
      go_wp2
      go_ret
      exact ⟨ret_i64 (by rw [HM.out, HA.out]; omega), by first | rfl | trivial⟩

set_option maxHeartbeats 400000 in
theorem cut_any (s : ByteArray) (w : World) (hs : s.size ≤ 9223372036854775807) : Calls Tryd.prog 31 #[.string s] w fun e w' => e = .returned (.string (s.extract 0 (min s.size 600))) ∧ w = w' := by
  go_enter Tryd.func31, Tryd.ntmps31
  by_cases h : s.size ≤ 600
  · go_wp2
    go_ret
    exact ⟨by rw [show min s.size 600 = s.size by omega, ByteArray.extract_zero_size]; rfl, rfl⟩
  · go_wp2
    go_ret
    exact ⟨by rw [show min s.size 600 = 600 by omega]; rfl, rfl⟩
end Go.Proofs.YtibndkkbmgbogaaDoor
