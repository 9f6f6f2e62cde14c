/- The walk of the law PackSums. Conditions: the packages' variables hold what they hold; the texts are texts. -/
import Derived.Test.YtibndkkbmgbogaaDoorPShown
namespace Go.Proofs.YtibndkkbmgbogaaDoor
open Go Go.RowKit

theorem sumB_append (s t : ByteArray) : sumB (s ++ t).data.toList = sumB s.data.toList + sumB t.data.toList := by
  rw [← sumB_app]
  simp [ByteArray.data_append]

set_option maxRecDepth 100000 in
set_option maxHeartbeats 1000000 in
theorem packSums_any (s t : ByteArray) (B : Nat) (z : Value) (w : World) (hE : PEnv w B z) (hB : B ≤ w.heap.size) (hs : s.size ≤ 9223372036854775807) (ht : t.size ≤ 9223372036854775807) :
    Calls Tryd.prog 9 #[.string s, .string t] w (Freed w (.bool true)) := by
  have h0 := packShown_any B z w hE hB
  have hc1 := fun w => cut_any s w hs
  have hc2 := fun w => cut_any t w ht
  have hs' : (s.extract 0 (min s.size 600)).size ≤ 600 := by simp; omega
  have ht' : (t.extract 0 (min t.size 600)).size ≤ 600 := by simp; omega
  clear hE hs ht
  generalize s.extract 0 (min s.size 600) = a at *
  generalize t.extract 0 (min t.size 600) = b at *
  have hab : (a ++ b).size ≤ 1200 := by simp; omega
  have hba : (b ++ a).size ≤ 1200 := by simp; omega
  have s1 := fun w => sum_any a w (by omega)
  have s2 := fun w => sum_any b w (by omega)
  have s3 := fun w => sum_any (a ++ b) w (by omega)
  have s4 := fun w => sum_any (b ++ a) w (by omega)
  have s5 := fun w => sum_any ⟨#[]⟩ w (by decide)
  have e3 := sumB_append a b
  have e4 := sumB_append b a
  have e5 : sumB (⟨#[]⟩ : ByteArray).data.toList % 65536 = 0 := rfl
  rw [e3] at s3
  rw [e4] at s4
  rw [e5] at s5
  clear e3 e4 e5
  generalize sumB a.data.toList = x at *
  generalize sumB b.data.toList = y at *
  obtain ⟨xm, hx⟩ : ∃ xm, xm = x % 65536 := ⟨_, rfl⟩
  obtain ⟨ym, hy⟩ : ∃ ym, ym = y % 65536 := ⟨_, rfl⟩
  obtain ⟨n, hn⟩ : ∃ n, n = (x + y) % 65536 := ⟨_, rfl⟩
  have hn2 : (y + x) % 65536 = n := by omega
  have hmod : ((xm : Int) + (ym : Int)) % 65536 = (n : Int) := by omega
  have lx : xm < 65536 := by omega
  have ly : ym < 65536 := by omega
  have ln : n < 65536 := by omega
  rw [← hx] at s1
  rw [← hy] at s2
  rw [← hn] at s3
  rw [hn2] at s4
  clear hx hy hn hn2
  go_enter Tryd.func9, Tryd.ntmps9
  go_wp2_with fail
  refine h0.mono ?_
  rintro e w1 ⟨rfl, hb1⟩
  clear h0
  go_wp2_with fail
  refine (hc1 w1).mono ?_
  rintro e _ ⟨rfl, rfl⟩
  clear hc1
  go_wp2_with fail
  refine (hc2 w1).mono ?_
  rintro e _ ⟨rfl, rfl⟩
  clear hc2
  go_wp2_with fail
  refine (s3 w1).mono ?_
  rintro e w2 ⟨rfl, hb2⟩
  clear s3
  go_wp2_with fail
  refine (s1 w2).mono ?_
  rintro e w3 ⟨rfl, hb3⟩
  clear s1
  go_wp2_with fail
  refine (s2 w3).mono ?_
  rintro e w4 ⟨rfl, hb4⟩
  clear s2
  go_wp2_with fail
  refine (s4 w4).mono ?_
  rintro e w5 ⟨rfl, hb5⟩
  clear s4
  go_wp2_with fail
  refine (s5 w5).mono ?_
  rintro e w6 ⟨rfl, hb6⟩
  clear s5
  go_wp2
  go_ret
  have g2 := hb1.size
  have g3 := hb2.size
  have g4 := hb3.size
  have g5 := hb4.size
  have g6 := hb5.size
  exact ⟨rfl, ((((hb1.trans (hb2.mono g2)).trans (hb3.mono (by omega))).trans (hb4.mono (by omega))).trans (hb5.mono (by omega))).trans (hb6.mono (by omega))⟩
end Go.Proofs.YtibndkkbmgbogaaDoor
