/- The trie laws' shown: a trie is known. Conditions: the package's two error variables hold two different errors. -/
import Derived.Test.YtibndkkbmgbogaaDoorProg
import Derived.Test.YtibndkkbmgbogaaDoorBase
import Derived.Test.YtibndkkbmgbogaaDoorEq
import Derived.Test.YtibndkkbmgbogaaDoorValue
import Derived.Test.YtibndkkbmgbogaaDoorBuild
import Derived.Test.YtibndkkbmgbogaaDoorRanges
import Derived.Test.YtibndkkbmgbogaaDoorLawA
namespace Go.Proofs.YtibndkkbmgbogaaDoor
open Go Go.RowKit

/-- a list of one range, laid -/
theorem rds_one {w : World} {g : Nat} {t : TypeId} {B : Nat} (x : Rg) (h : Blk w g t #[.int .i64 x.fr, .int .i64 x.to, .int .i64 x.vl]) (hB : g < B) : Rds w B 3 (some ⟨g, 0, none⟩) 1 (rgCells [x]) :=
  ⟨rfl, by omega, fun _ => ⟨g, 0, rfl, hB, fun j u hu => by
    rw [Nat.zero_add, h.cell j]
    have e : rgCells [x] = [.int .i64 x.fr, .int .i64 x.to, .int .i64 x.vl] := by simp [rgCells, Rg.cells]
    rw [e] at hu
    simpa using hu⟩⟩

set_option maxRecDepth 100000 in
set_option maxHeartbeats 2000000 in
theorem shown_any {a0 a1 : Addr} (w : World) (hE : Errs w w.heap.size a0 a1) : Calls Tryd.prog 14 #[] w fun e w' => e = .returned (.bool true) ∧ Below w.heap.size w w' := by
  go_enter Tryd.func14, Tryd.ntmps14
  go_wp2_with fail
  have k0 := Blk.new w 62 #[.int .i64 768, .int .i64 879, .int .i64 1]
  have hb0 : Below w.heap.size w (w.alloc (.cells #[.int .i64 768, .int .i64 879, .int .i64 1] 62)) := (Below.refl _ _).alloc (Nat.le_refl _) _
  refine (build_any (some ⟨w.heap.size, 0, none⟩) 1 1 l0 _ ((hE.below hb0).more hb0.size) (Nat.le_refl _) (rds_one ⟨768, 879, 1⟩ k0 (by simp))).mono ?_
  rintro e w1 ⟨A, n, c, A', n', c', rfl, ht, hc, hc', hb1⟩
  rw [built_l0] at ht ⊢
  dsimp only at ht ⊢
  have hnl := ht.ix.int_len
  have hnl' := ht.bl.len
  obtain ⟨q2, q1, q3, q4⟩ := T0_len
  rw [q1] at hnl
  rw [q2] at hnl'
  obtain ⟨b, o, rfl, hbl, hcc⟩ := ht.ix.2.2 (by omega)
  have hnb : ((n : Int) == 4352) = true := by simp; omega
  have hnb' : ((n' : Int) == 2) = true := by simp; omega
  have hn3 : 4 < n := by omega
  have d3 := hcc 3 (.int .i64 1) (by unfold intCells; rw [List.getElem?_map, q3]; rfl)
  have d4 := hcc 4 (.int .i64 0) (by unfold intCells; rw [List.getElem?_map, q4]; rfl)
  have hE1 := ((hE.below hb0).below (hb1.mono hb0.size)).more (Nat.le_trans hb0.size hb1.size)
  have hb01 := hb0.trans (hb1.mono hb0.size)
  have HT := hide ht
  have HNL := hide hnl
  have HNL' := hide hnl'
  clear ht hnl hnl' q1 q2 q3 q4 hcc hE k0
  have bb1 := Nat.le_trans hb0.size hb1.size
  clear hb0 hb1
  go_wp2_with fail
  obtain ⟨w2, hw2⟩ : ∃ w2 : World, w2 = w1.alloc (.cells #[.slice (some ⟨b, o, none⟩) n c, .slice A' n' c'] 27) := ⟨_, rfl⟩
  have kT : Blk w2 w1.heap.size 27 #[.slice (some ⟨b, o, none⟩) n c, .slice A' n' c'] := by rw [hw2]; exact Blk.new _ _ _
  have hb2 : Below w1.heap.size w1 w2 := by rw [hw2]; exact (Below.refl _ _).alloc (Nat.le_refl _) _
  rw [← hw2]
  clear hw2
  have hT2 := (HT.out.below hb2).more hb2.size
  have hE2 := (hE1.below hb2).more hb2.size
  refine (ranges_any (some ⟨b, o, none⟩) A' n c n' c' T0 w2 hE2 hT2).mono ?_
  rintro e w3 ⟨A3, n3, c3, rfl, hr3, hc3, hb3⟩
  rw [ranges_T0] at hr3 ⊢
  dsimp only at hr3 ⊢
  have kT3 : Blk w3 w1.heap.size _ _ := (hb3.block _ kT.lt).trans kT
  have hE3 := (hE2.below hb3).more hb3.size
  have hb13 := hb2.trans (hb3.mono hb2.size)
  have s13 := Nat.le_trans hb2.size hb3.size
  clear kT hb2 hb3 hT2 hE2
  go_wp2_with fail
  have k1 := Blk.new w3 62 #[.int .i64 2, .int .i64 1, .int .i64 0]
  obtain ⟨w4, hw4⟩ : ∃ w4 : World, w4 = w3.alloc (.cells #[.int .i64 2, .int .i64 1, .int .i64 0] 62) := ⟨_, rfl⟩
  have hb4 : Below w3.heap.size w3 w4 := by rw [hw4]; exact (Below.refl _ _).alloc (Nat.le_refl _) _
  rw [← hw4] at k1 ⊢
  clear hw4
  refine (build_any (some ⟨w3.heap.size, 0, none⟩) 1 1 [⟨2, 1, 0⟩] w4 ((hE3.below hb4).more hb4.size) (Nat.le_refl _) (rds_one ⟨2, 1, 0⟩ k1 k1.lt)).mono ?_
  rintro e w5 ⟨A5, n5, c5, A5', n5', c5', rfl, ht5, hc5, hc5', hb5⟩
  rw [built_l1] at ht5 ⊢
  dsimp only at ht5 ⊢
  have hb35 := hb4.trans (hb5.mono hb4.size)
  have hb15 := hb13.trans (hb35.mono s13)
  have kT5 : Blk w5 w1.heap.size _ _ := (hb35.block _ kT3.lt).trans kT3
  have hr5 := (hr3.below hb35).more hb35.size
  clear kT3 hb4 hb5 k1 ht5 hc5 hc5' hr3 hE3
  have f0 := kT5.cell 0
  have f1 := kT5.cell 1
  simp only [List.getElem?_toArray, List.getElem?_cons_zero, List.getElem?_cons_succ] at f0 f1
  have tl := kT5.lt
  have f3 := (hb15.cell (p := ⟨b, o + 3, none⟩) hbl).trans d3
  have f4 := (hb15.cell (p := ⟨b, o + 4, none⟩) hbl).trans d4
  have hT6 := (HT.out.below hb15).more hb15.size
  have hx6 := Nat.lt_of_lt_of_le hbl hb15.size
  have HX := hide (And.intro hr5 hb15)
  clear hb15 hb35 hb13 hr5 d3 d4 HT
  go_wp2_with fail
  have hb6 : Below w5.heap.size w5 (w5.alloc (.cells #[.slice A5 n5 c5, .slice A5' n5' c5'] 27)) := (Below.refl _ _).alloc (Nat.le_refl _) _
  refine (trieValue_any (some ⟨b, o, none⟩) A' n c n' c' T0 879 _ (hT6.alloc (Nat.le_refl _) _)).mono ?_
  rintro e w7 ⟨rfl, hb7⟩
  rw [value_T0.1]
  have hb57 := hb6.trans (hb7.mono hb6.size)
  have hT7 := (hT6.below hb57).more hb57.size
  have g0 := (hb57.cell (p := ⟨w1.heap.size, 0, none⟩) tl).trans f0
  have g1 := (hb57.cell (p := ⟨w1.heap.size, 1, none⟩) tl).trans f1
  clear hb6 hb7 f0 f1 f3 f4
  go_wp2_with fail
  refine (trieValue_any (some ⟨b, o, none⟩) A' n c n' c' T0 880 _ hT7).mono ?_
  rintro e w8 ⟨rfl, hb8⟩
  rw [value_T0.2]
  have hb58 := hb57.trans (hb8.mono hb57.size)
  go_wp2_with fail
  have k9 := Blk.new w8 62 #[.int .i64 768, .int .i64 879, .int .i64 1]
  have hb9 : Below w8.heap.size w8 (w8.alloc (.cells #[.int .i64 768, .int .i64 879, .int .i64 1] 62)) := (Below.refl _ _).alloc (Nat.le_refl _) _
  refine (rgs_any A3 (some ⟨w8.heap.size, 0, none⟩) n3 c3 1 1 l0 l0 _ (((HX.out.1.below hb58).more hb58.size).alloc (Nat.le_refl _) _) (rds_one ⟨768, 879, 1⟩ k9 k9.lt)).mono ?_
  rintro e w10 ⟨rfl, q, rfl⟩
  rw [decide_eq_true rfl]
  go_wp2_with fail
  go_ret
  exact ⟨rfl, below_drewN (hb01.trans ((HX.out.2.mono bb1).trans ((hb58.mono (Nat.le_trans bb1 HX.out.2.size)).trans (hb9.mono (Nat.le_trans bb1 (Nat.le_trans HX.out.2.size hb58.size)))))) _⟩
end Go.Proofs.YtibndkkbmgbogaaDoor
