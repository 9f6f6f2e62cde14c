/- The reference's two and number. Conditions: the number fits two bytes; the text is no longer than a billion bytes. -/
import Derived.Test.YtibndkkbmgbogaaDoorPText
import Derived.Test.YtibndkkbmgbogaaDoorPSum
import Derived.Test.YtibndkkbmgbogaaDoorQuiet
import Derived.BigQuiet
import Derived.IntWalk
namespace Go.Proofs.YtibndkkbmgbogaaDoor
open Go Go.RowKit
attribute [local irreducible] wpQuiet

theorem two_any (n : Nat) (w : World) (h : n < 65536) : Calls Tryd.prog 66 #[.int .i64 n] w fun e w' => e = .returned (.slice (some ⟨w.heap.size, 0, none⟩) 2 2) ∧ w' = w.alloc (.cells #[.int .u8 ((n / 256 : Nat) : Int), .int .u8 ((n % 256 : Nat) : Int)] 5) := by
  go_enter Tryd.func66, Tryd.ntmps66
  have h1 : (n : Int).tdiv 256 = ((n / 256 : Nat) : Int) := by rw [Int.tdiv_eq_ediv_of_nonneg (by omega)]; omega
  have h2 : (n : Int).tmod 256 = ((n % 256 : Nat) : Int) := by rw [Int.tmod_eq_emod_of_nonneg (by omega)]; omega
  go_wp2
  go_ret
  exact ⟨rfl, rfl⟩

theorem number_any (s : ByteArray) (i : Nat) (w : World) (h : i + 2 ≤ s.size) (hs : s.size ≤ 1000000) : Calls Tryd.prog 62 #[.string s, .int .i64 i] w fun e w' => e = .returned (.int .i64 (256 * ((s[i]'(by omega)).toNat : Int) + ((s[i + 1]'(by omega)).toNat : Int))) ∧ Below w.heap.size w w' := by
  have h0 : i < s.size := by omega
  obtain ⟨j, hj⟩ : ∃ j, j = i + 1 := ⟨_, rfl⟩
  have h1 : j < s.size := by omega
  have HB := hide (show (i : Int) + 1 = (j : Int) by omega)
  have HJ := hide hj
  clear hj
  have hx := (s[i]'h0).toNat_lt
  have hy := (s[j]'h1).toNat_lt
  have b1 : (i : Int) + 2 ≤ (s.size : Int) := by omega
  have b2 : ¬ ((s.size : Int) < (i : Int) + 2) := by omega
  go_enter Tryd.func62, Tryd.ntmps62
  go_wp2_with fail
  refine wp_region_below (by kernel_rfl) (by kernel_rfl) ?_
  refine q_step (v := .string s) rfl (fun W_ hW_ => by go_simp; first | done | rfl | (rw [HB.out]; exact IntWalk.i64_in _ (by omega)) | exact IntWalk.i64_in _ (by omega)) ?_
  go_frame
  refine q_step (v := .int .i64 (i : Int)) rfl (fun W_ hW_ => by go_simp; first | done | rfl | (rw [HB.out]; exact IntWalk.i64_in _ (by omega)) | exact IntWalk.i64_in _ (by omega)) ?_
  go_frame
  refine q_step (v := .int .u8 ((s[i]'h0).toNat : Int)) rfl (fun W_ hW_ => by go_simp; first | done | rfl | (rw [HB.out]; exact IntWalk.i64_in _ (by omega)) | exact IntWalk.i64_in _ (by omega)) ?_
  go_frame
  refine q_step (v := .int .i64 ((s[i]'h0).toNat : Int)) rfl (fun W_ hW_ => by go_simp; first | done | rfl | (rw [HB.out]; exact IntWalk.i64_in _ (by omega)) | exact IntWalk.i64_in _ (by omega)) ?_
  go_frame
  refine q_step (v := .int .i64 (256 * ((s[i]'h0).toNat : Int))) rfl (fun W_ hW_ => by go_simp; first | done | rfl | (rw [HB.out]; exact IntWalk.i64_in _ (by omega)) | exact IntWalk.i64_in _ (by omega)) ?_
  go_frame
  refine q_step (v := .string s) rfl (fun W_ hW_ => by go_simp; first | done | rfl | (rw [HB.out]; exact IntWalk.i64_in _ (by omega)) | exact IntWalk.i64_in _ (by omega)) ?_
  go_frame
  refine q_step (v := .int .i64 (i : Int)) rfl (fun W_ hW_ => by go_simp; first | done | rfl | (rw [HB.out]; exact IntWalk.i64_in _ (by omega)) | exact IntWalk.i64_in _ (by omega)) ?_
  go_frame
  refine q_step (v := .int .i64 (j : Int)) rfl (fun W_ hW_ => by go_simp; first | done | rfl | (rw [HB.out]; exact IntWalk.i64_in _ (by omega)) | exact IntWalk.i64_in _ (by omega)) ?_
  go_frame
  refine q_step (v := .int .u8 ((s[j]'h1).toNat : Int)) rfl (fun W_ hW_ => by go_simp; first | done | rfl | (rw [HB.out]; exact IntWalk.i64_in _ (by omega)) | exact IntWalk.i64_in _ (by omega)) ?_
  go_frame
  refine q_step (v := .int .i64 ((s[j]'h1).toNat : Int)) rfl (fun W_ hW_ => by go_simp; first | done | rfl | (rw [HB.out]; exact IntWalk.i64_in _ (by omega)) | exact IntWalk.i64_in _ (by omega)) ?_
  go_frame
  refine q_step (v := .int .i64 (256 * ((s[i]'h0).toNat : Int) + ((s[j]'h1).toNat : Int))) rfl (fun W_ hW_ => by go_simp; first | done | rfl | (rw [HB.out]; exact IntWalk.i64_in _ (by omega)) | exact IntWalk.i64_in _ (by omega)) ?_
  go_frame
  refine q_step (v := .int .i64 (256 * ((s[i]'h0).toNat : Int) + ((s[j]'h1).toNat : Int))) rfl (fun W_ hW_ => by go_simp; first | done | rfl | (rw [HB.out]; exact IntWalk.i64_in _ (by omega)) | exact IntWalk.i64_in _ (by omega)) ?_
  go_frame
  refine wpQuiet_nil (fun W' hW' => ?_)
  go_wp2
  go_ret
  obtain rfl := HJ.out
  exact ⟨rfl, hW'⟩
end Go.Proofs.YtibndkkbmgbogaaDoor
