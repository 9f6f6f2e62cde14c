/- The law's shown (pack). Conditions: the packages' variables hold what they hold. -/
import Derived.BigQuiet
import Derived.Deep.QuietTactic
import Derived.Test.YtibndkkbmgbogaaDoorProg
import Derived.Test.YtibndkkbmgbogaaDoorPLoad3
import Derived.Test.YtibndkkbmgbogaaDoorRefR
import Derived.Outline
namespace Go.Proofs.YtibndkkbmgbogaaDoor
open Go Go.RowKit

set_option maxRecDepth 100000 in
set_option maxHeartbeats 1000000 in
theorem packShown_any (B : Nat) (z : Value) (w : World) (hE : PEnv w B z) (hB : B ≤ w.heap.size) : Calls Tryd.prog 30 #[] w (Freed w (.bool true)) := by
  have hadd : (⟨S0.toArray⟩ : ByteArray) ++ ⟨#[120]⟩ = ⟨(S0 ++ [120]).toArray⟩ := by decide
  have heq : ((⟨S0.toArray⟩ : ByteArray).toList == [86, 84, 49, 0, 1, 255, 0, 16, 255, 0, 0, 2, 234]) = true := by rw [ByteArray.toList_eq]; decide
  have hc0 := refBuildNil_any w
  have hp0 := fun A A' n c n' c' w ht hE hB => packPack_any A A' n c n' c' B (T0at 4352) z w ht hE hB
  have hl0 := fun w hE hB => packLoad_any ⟨S0.toArray⟩ B z w hE hB (by decide)
  have hl1 := fun w hE hB => packLoad_any ⟨(S0 ++ [120]).toArray⟩ B z w hE hB (by decide)
  have hl2 := fun w hE hB => packLoad_any ⟨#[86, 84, 49]⟩ B z w hE hB (by decide)
  rw [packed_T0] at hp0
  rw [loadB_S0] at hl0
  rw [loadB_S1] at hl1
  rw [loadB_S2] at hl2
  simp only [noTr] at hl1 hl2
  have hsz : (⟨S0.toArray⟩ : ByteArray).size ≤ 13 := by decide
  generalize T0at 4352 = T at *
  generalize hs0 : (⟨S0.toArray⟩ : ByteArray) = s0 at *
  generalize (⟨(S0 ++ [120]).toArray⟩ : ByteArray) = s1 at *
  have HP0 := hide hp0
  have HL0 := hide hl0
  have HL1 := hide hl1
  have HL2 := hide hl2
  have HE := hide hE
  clear hp0 hl0 hl1 hl2 hE hs0
  go_enter Tryd.func30, Tryd.ntmps30
  go_wp2_with fail
  refine hc0.mono ?_
  rintro e w1 ⟨A, n, c, A', n', c', rfl, ht, _, _, hb1⟩
  clear hc0
  go_wp2_with fail
  have hbA : Below w1.heap.size w1 (w1.alloc (.cells #[.slice A n c, .slice A' n' c'] 27)) := (Below.refl _ _).alloc (Nat.le_refl _) _
  have kA := Blk.new w1 27 #[.slice A n c, .slice A' n' c']
  have hbA2 := hb1.trans (hbA.mono hb1.size)
  refine (HP0.out A A' n c n' c' _ (ht.alloc (Nat.le_refl _) _) (HE.out.below (hbA2.mono hB)) (by have := hbA2.size; omega)).mono ?_
  rintro e w2 ⟨rfl, hb2⟩
  clear HP0
  have htA := (ht.keep (w' := w2) (fun p hp => (hbA.trans (hb2.mono (by simp))).cell hp)).more (B' := w2.heap.size) (Nat.le_trans hbA.size hb2.size)
  have kA2 := kA.below hb2 kA.lt
  have hbw2 := hbA2.trans (hb2.mono hbA2.size)
  clear hbA kA hbA2 hb1 hb2 ht
  generalize w1.heap.size = bA at *
  go_wp2_with fail
  refine (HL0.out w2 (HE.out.below (hbw2.mono hB)) (by have := hbw2.size; omega)).mono ?_
  rintro e w3 ⟨C, m, d, C', m', d', rfl, hu, _, _, hb3⟩
  clear HL0
  go_wp2_with fail
  have hbB : Below w3.heap.size w3 (w3.alloc (.cells #[.slice C m d, .slice C' m' d'] 27)) := (Below.refl _ _).alloc (Nat.le_refl _) _
  have kB := Blk.new w3 27 #[.slice C m d, .slice C' m' d']
  have kA3 := kA2.below hb3 kA2.lt
  have hbw3 := hbw2.trans (hb3.mono hbw2.size)
  have htA3 := (htA.keep (w' := w3) (fun p hp => hb3.cell hp)).more hb3.size
  have hbB3 := hbw3.trans (hbB.mono hbw3.size)
  refine (HL1.out _ (HE.out.below (hbB3.mono hB)) (by have := hbB3.size; omega)).mono ?_
  rintro e w4 ⟨D, o, f, D', o', f', rfl, _, _, _, hb4⟩
  have hb34 := hbB.trans (hb4.mono (by simp))
  have kA4 := kA3.below hb34 kA3.lt
  have kB4 := kB.below hb4 kB.lt
  have htA4 := (htA3.keep (w' := w4) (fun p hp => hb34.cell hp)).more hb34.size
  have htU4 := (hu.keep (w' := w4) (fun p hp => hb34.cell hp)).more hb34.size
  have hbw4 := hbw3.trans (hb34.mono hbw3.size)
  clear hbB kB kA2 kA3 htA htA3 hu hb3 hb4 hb34 hbw2 hbw3 hbB3
  generalize w3.heap.size = bB at *
  go_wp2_with fail
  have hbC : Below w4.heap.size w4 (w4.alloc (.cells #[.slice D o f, .slice D' o' f'] 27)) := (Below.refl _ _).alloc (Nat.le_refl _) _
  have hbC4 := hbw4.trans (hbC.mono hbw4.size)
  refine (HL2.out _ (HE.out.below (hbC4.mono hB)) (by have := hbC4.size; omega)).mono ?_
  rintro e w5 ⟨G, q, h, G', q', h', rfl, _, _, _, hb5⟩
  have hb45 := hbC.trans (hb5.mono (by simp))
  have hbw5 := hbw4.trans (hb45.mono hbw4.size)
  have kA5 := kA4.below hb45 kA4.lt
  have kB5 := kB4.below hb45 kB4.lt
  have htA5 := (htA4.keep (w' := w5) (fun p hp => hb45.cell hp)).more hb45.size
  have htU5 := (htU4.keep (w' := w5) (fun p hp => hb45.cell hp)).more hb45.size
  clear hbC hbC4 hb5 hb45 kA4 kB4 htA4 htU4 hbw4
  have a0 := kA5.cell 0
  have a1 := kA5.cell 1
  have b0 := kB5.cell 0
  have b1 := kB5.cell 1
  have la := kA5.lt
  have lb := kB5.lt
  simp only [List.getElem?_toArray, List.getElem?_cons_zero, List.getElem?_cons_succ] at a0 a1 b0 b1
  have hsm := refSame_any A A' C C' n c n' c' m d m' d' T T (w5.alloc (.cells #[.slice G q h, .slice G' q' h'] 27)) (htA5.alloc (Nat.le_refl _) _) (htU5.alloc (Nat.le_refl _) _)
  rw [decide_eq_true (rfl : T = T)] at hsm
  go_wp2_with fail
  refine hsm.mono ?_
  rintro e w6 ⟨rfl, hb6⟩
  go_wp2
  go_ret
  exact ⟨rfl, hbw5.trans (((Below.refl w5.heap.size w5).alloc (Nat.le_refl _) (.cells #[.slice G q h, .slice G' q' h'] 27)).trans (hb6.mono (by simp)) |>.mono hbw5.size)⟩
end Go.Proofs.YtibndkkbmgbogaaDoor
