/- The walk of the law TrieTells. Conditions: the trie's slices read as lists, and lie within their capacities; the package's two error variables hold two different errors. -/
import Derived.Test.YtibndkkbmgbogaaDoorProg
import Derived.Test.YtibndkkbmgbogaaDoorBase
import Derived.Test.YtibndkkbmgbogaaDoorEq
import Derived.Test.YtibndkkbmgbogaaDoorValue
import Derived.Test.YtibndkkbmgbogaaDoorRanges
import Derived.Test.YtibndkkbmgbogaaDoorLawT
import Derived.Test.YtibndkkbmgbogaaDoorLeast
import Derived.Test.YtibndkkbmgbogaaDoorShown
import Derived.Test.YtibndkkbmgbogaaDoorTwoLeast
import Derived.Test.YtibndkkbmgbogaaDoorRefR
import Derived.Test.YtibndkkbmgbogaaDoorRefL
import Derived.Test.YtibndkkbmgbogaaDoorRefG
import Derived.Test.YtibndkkbmgbogaaDoorTable
import Derived.Test.YtibndkkbmgbogaaDoorQuiet
import Derived.Outline
namespace Go.Proofs.YtibndkkbmgbogaaDoor
open Go Go.RowKit
attribute [local irreducible] wpQuiet

set_option maxRecDepth 100000 in
set_option maxHeartbeats 4000000 in
theorem trieTells_any {a0 a1 : Addr} (A A' : Option Addr) (n c n' c' : Nat) (T0 : Tr) (r : Int) (w : World) (hE : Errs w w.heap.size a0 a1) (hc : n ≤ c) (hix : Rds w w.heap.size 1 A n (intCells T0.ix)) (hbl : RowsC w w.heap.size A' n' T0.bl) :
    Calls Tryd.prog 5 #[.agg #[.slice A n c, .slice A' n' c'], .int .i64 r] w fun e w' => e = .returned (.bool true) ∧ Below w.heap.size w w' := by
  go_enter Tryd.func5, Tryd.ntmps5
  have hb0 : Below w.heap.size w (w.alloc (.cells #[.slice A n c, .slice A' n' c'] 27)) := (Below.refl _ _).alloc (Nat.le_refl _) _
  have kB := Blk.new w 27 #[.slice A n c, .slice A' n' c']
  have hix0 := hix.below hb0
  have hbl0 := hbl.below hb0
  have hE0 := (hE.below hb0).more hb0.size
  have hE00 := hE
  clear hix hbl hE
  go_wp2_with fail
  obtain ⟨w1, hw1⟩ : ∃ w1 : World, w1 = w.alloc (.cells #[.slice A n c, .slice A' n' c'] 27) := ⟨_, rfl⟩
  rw [← hw1] at hb0 kB hix0 hbl0 hE0 ⊢
  clear hw1
  refine (shown_any w1 hE0).mono ?_
  rintro e w2 ⟨rfl, hb2⟩
  have hb02 := hb0.trans (hb2.mono hb0.size)
  have kB2 := (hb2.block _ kB.lt).trans kB
  have hix2 := hix0.below (hb2.mono hb0.size)
  have hbl2 := hbl0.below (hb2.mono hb0.size)
  have hE2 := (hE0.below hb2).more hb2.size
  have HH := hide (And.intro hix2 (And.intro hbl2 hE2))
  have p0 := (show Blk w2 w.heap.size _ _ from kB2).cell 0
  have p1 := (show Blk w2 w.heap.size _ _ from kB2).cell 1
  have pl := (show Blk w2 w.heap.size _ _ from kB2).lt
  simp only [List.getElem?_toArray, List.getElem?_cons_zero, List.getElem?_cons_succ] at p0 p1
  have KB := hide kB2
  clear hb2 kB kB2 hix0 hbl0 hE0 hix2 hbl2 hE2 hb0
  go_wp2_with fail
  refine (table_any A A' n c n' c' w.heap.size T0 w2 hb02.size HH.out.1 hc HH.out.2.1).mono ?_
  rintro e w3 ⟨A1, n1, c1, A2, n2, c2, rfl, ht, h1c, h2c, hb3, hkeep⟩
  generalize tableB T0 = T at *
  have hb03 := hb02.trans (hb3.mono hb02.size)
  have kB3 : Blk w3 w.heap.size 27 _ := (hb3.block _ pl).trans KB.out
  have hE3 := (HH.out.2.2.below hb3).more hb3.size
  have m1 := grownBy_setCell w3 w.heap.size 0 (.slice A1 n1 c1)
  have m2 := grownBy_setCell (w3.setCell ⟨w.heap.size, 0, none⟩ (.slice A1 n1 c1)) w.heap.size 1 (.slice A2 n2 c2)
  have kB4 := (kB3.set_ 0 (.slice A1 n1 c1)).set_ 1 (.slice A2 n2 c2)
  have hb34 : Below w.heap.size w ((w3.setCell ⟨w.heap.size, 0, none⟩ (.slice A1 n1 c1)).setCell ⟨w.heap.size, 1, none⟩ (.slice A2 n2 c2)) := (hb03.grown m1 hb03.size (fun k e => by cases e; exact Nat.le_refl _)).grown m2 (by simp; exact hb03.size) (fun k e => by cases e; exact Nat.le_refl _)
  obtain ⟨w4, hw4⟩ : ∃ w4 : World, w4 = (w3.setCell ⟨w.heap.size, 0, none⟩ (.slice A1 n1 c1)).setCell ⟨w.heap.size, 1, none⟩ (.slice A2 n2 c2) := ⟨_, rfl⟩
  have hgw : w3.grownBy w4 (some w.heap.size) := by rw [hw4]; exact ⟨rfl, rfl, rfl, by simp, fun k hk hne => (m2.block k (by simpa using hk) hne).trans (m1.block k hk hne)⟩
  have ht4 := hkeep w.heap.size w4 (Nat.le_refl _) pl hgw
  have hE4 : Errs w4 w4.heap.size a0 a1 := by
    have hbe : Below w.heap.size w w4 := by rw [hw4]; exact hb34
    exact (hE00.below hbe).more hbe.size
  have k3 := kB3.cell 0
  have k4 := kB3.cell 1
  have kf3 := kB3.frozen 0
  have kf4 := kB3.frozen 1
  have kl3 := kB3.lt
  simp only [List.getElem?_toArray, List.getElem?_cons_zero, List.getElem?_cons_succ] at k3 k4
  have v1 : TrVar w4 w.heap.size A1 n1 c1 A2 n2 c2 T := ⟨by rw [hw4]; exact kB4, ht4⟩
  have hb04 : Below w.heap.size w w4 := by rw [hw4]; exact hb34
  have hKB4 : w4.cell? ⟨w.heap.size, 0, none⟩ = some (.slice A1 n1 c1) ∧ w4.cell? ⟨w.heap.size, 1, none⟩ = some (.slice A2 n2 c2) := v1.cells
  have HV1 := hide v1
  have HE4 := hide hE4
  have HB4 := hide hKB4
  clear ht hkeep ht4 hE4 v1 HH KB hE3 hKB4 kB4 m1 m2 hgw p0 p1 hE00
  go_wp2_with fail
  rw [← hw4]
  clear hw4 k3 k4 kf3 kf4 kl3 hb3 hb34 hb02 hb03 kB3
  refine (ranges_any A1 A2 n1 c1 n2 c2 T w4 HE4.out HV1.out.at_).mono ?_
  rintro e w5 ⟨A3, n3, c3, rfl, hr3, hc3, hb5⟩
  have hb05 := hb04.trans (hb5.mono hb04.size)
  have v1 := HV1.out.below hb5 rfl
  have HE5 := hide ((HE4.out.below hb5).more hb5.size)
  obtain ⟨x0, x1⟩ := v1.cells
  have xl := v1.lt
  obtain ⟨R, kR, hRB⟩ : ∃ R kR, rangesB T = (R, kR) := ⟨_, _, rfl⟩
  obtain ⟨L, kL, hLB⟩ : ∃ L kL, leastB T = (L, kL) := ⟨_, _, rfl⟩
  have HRB := hide hRB
  have HLB := hide hLB
  rw [hRB] at hr3 ⊢
  dsimp only at hr3 ⊢
  clear hb5 HE4 HV1 HB4 hRB hLB
  go_wp2_with fail
  refine (refRanges_any A1 A2 n1 c1 n2 c2 T w5 v1.at_).mono ?_
  rintro e w6 ⟨A4, n4, c4, rfl, hr4, hc4, hb6⟩
  rw [HRB.out] at hr4 ⊢
  dsimp only at hr4 ⊢
  have hb06 := hb05.trans (hb6.mono hb05.size)
  have v2 := v1.below hb6 rfl
  have HE6 := hide ((HE5.out.below hb6).more hb6.size)
  have hr36 := (hr3.below hb6).more hb6.size
  clear x0 x1 xl v1 HE5 hr3 hb6
  obtain ⟨x0, x1⟩ := v2.cells
  have xl := v2.lt
  go_wp2_with fail
  refine (least_any A1 A2 n1 c1 n2 c2 T w6 HE6.out v2.at_).mono ?_
  rintro e w7 ⟨A5, n5, c5, A6, n6, c6, rfl, hu, hc5, hc6, hb7⟩
  rw [HLB.out] at hu ⊢
  dsimp only at hu ⊢
  have hb07 := hb06.trans (hb7.mono hb06.size)
  have v3 := v2.below hb7 rfl
  have v4 := TrVar.new hu c5 c6
  have hb8 : Below w7.heap.size w7 (w7.alloc (.cells #[.slice A5 n5 c5, .slice A6 n6 c6] 27)) := (Below.refl _ _).alloc (Nat.le_refl _) _
  have v5 := v3.below hb8 rfl
  have hr38 := (hr36.below (hb7.trans (hb8.mono hb7.size))).more (Nat.le_trans hb7.size hb8.size)
  have hr48 := (hr4.below (hb7.trans (hb8.mono hb7.size))).more (Nat.le_trans hb7.size hb8.size)
  have HV := hide (And.intro v4 (And.intro v5 (And.intro hr38 hr48)))
  clear x0 x1 xl v2 hu v4 v5 hr36 hr4 hb7 hr38 hr48 HE6
  obtain ⟨x0, x1⟩ := v3.cells
  have xl := v3.lt
  clear v3
  go_wp2_with fail
  obtain ⟨w8, hw8⟩ : ∃ w8 : World, w8 = w7.alloc (.cells #[.slice A5 n5 c5, .slice A6 n6 c6] 27) := ⟨_, rfl⟩
  rw [← hw8] at HV hb8 ⊢
  clear hw8 x0 x1 xl
  have hb08 := hb07.trans (hb8.mono hb07.size)
  refine (refLeast_any A1 A2 n1 c1 n2 c2 T w8 HV.out.2.1.at_).mono ?_
  rintro e w9 ⟨A7, n7, c7, A8, n8, c8, rfl, hu, hc7, hc8, hb9⟩
  rw [HLB.out] at hu ⊢
  dsimp only at hu ⊢
  have hb09 := hb08.trans (hb9.mono hb08.size)
  have v4 := HV.out.1.below hb9 rfl
  have v5 := HV.out.2.1.below hb9 rfl
  have v6 := TrVar.new hu c7 c8
  have hbA : Below w9.heap.size w9 (w9.alloc (.cells #[.slice A7 n7 c7, .slice A8 n8 c8] 27)) := (Below.refl _ _).alloc (Nat.le_refl _) _
  have z1 := v4.below hbA rfl
  have z2 := v5.below hbA rfl
  have r1 := (HV.out.2.2.1.below (hb9.trans (hbA.mono hb9.size))).more (Nat.le_trans hb9.size hbA.size)
  have r2 := (HV.out.2.2.2.below (hb9.trans (hbA.mono hb9.size))).more (Nat.le_trans hb9.size hbA.size)
  have HZ := hide (And.intro z1 (And.intro z2 (And.intro v6 (And.intro r1 r2))))
  have s7 := v4.lt
  clear v4 v5 v6 z1 z2 r1 r2 hu HV hb8 hb9
  have hwz : w7.heap.size < w9.heap.size := s7
  go_wp2_with fail
  obtain ⟨wA, hwA⟩ : ∃ wA : World, wA = w9.alloc (.cells #[.slice A7 n7 c7, .slice A8 n8 c8] 27) := ⟨_, rfl⟩
  rw [← hwA] at HZ hbA ⊢
  clear hwA
  have hb0A := hb09.trans (hbA.mono hb09.size)
  obtain ⟨z1, z2, z3, r1, r2⟩ := HZ.out
  have hC : ∀ W', Below wA.heap.size wA W' → W'.cell? ⟨w.heap.size, 0, none⟩ = some (.slice A1 n1 c1) ∧ W'.cell? ⟨w.heap.size, 1, none⟩ = some (.slice A2 n2 c2) ∧
      W'.cell? ⟨w7.heap.size, 0, none⟩ = some (.slice A5 n5 c5) ∧ W'.cell? ⟨w7.heap.size, 1, none⟩ = some (.slice A6 n6 c6) ∧ W'.cell? ⟨w9.heap.size, 0, none⟩ = some (.slice A7 n7 c7) ∧ W'.cell? ⟨w9.heap.size, 1, none⟩ = some (.slice A8 n8 c8) := fun W' hW' =>
    ⟨(z2.below hW' rfl).cells.1, (z2.below hW' rfl).cells.2, (z1.below hW' rfl).cells.1, (z1.below hW' rfl).cells.2, (z3.below hW' rfl).cells.1, (z3.below hW' rfl).cells.2⟩
  have HC := hide hC
  have H1 := hide (show ∀ W', Below wA.heap.size wA W' → Calls Tryd.prog 25 #[.agg #[.slice A1 n1 c1, .slice A2 n2 c2]] W' fun e w' => e = .returned (.bool T.rightB) ∧ Below wA.heap.size wA w' from fun W' hW' =>
    (trieRight_any _ _ _ _ _ _ T W' (z2.below hW' rfl).at_).mono fun e w' ⟨he, hb⟩ => ⟨he, hW'.trans (hb.mono hW'.size)⟩)
  have H2 := hide (show ∀ W', Below wA.heap.size wA W' → Calls Tryd.prog 26 #[.agg #[.slice A1 n1 c1, .slice A2 n2 c2]] W' fun e w' => e = .returned (.bool T.rightB) ∧ Below wA.heap.size wA w' from fun W' hW' =>
    (refRight_any _ _ _ _ _ _ T W' (z2.below hW' rfl).at_).mono fun e w' ⟨he, hb⟩ => ⟨he, hW'.trans (hb.mono hW'.size)⟩)
  have H3 := hide (show ∀ W', Below wA.heap.size wA W' → Calls Tryd.prog 17 #[.agg #[.slice A1 n1 c1, .slice A2 n2 c2], .int .i64 r] W' fun e w' => e = .returned (.int .i64 (T.value r)) ∧ Below wA.heap.size wA w' from fun W' hW' =>
    (trieValue_any _ _ _ _ _ _ T r W' (z2.below hW' rfl).at_).mono fun e w' ⟨he, hb⟩ => ⟨he, hW'.trans (hb.mono hW'.size)⟩)
  have H4 := hide (show ∀ W', Below wA.heap.size wA W' → Calls Tryd.prog 27 #[.agg #[.slice A1 n1 c1, .slice A2 n2 c2], .int .i64 r] W' fun e w' => e = .returned (.int .i64 (T.value r)) ∧ Below wA.heap.size wA w' from fun W' hW' =>
    (refValue_any _ _ _ _ _ _ T r W' (z2.below hW' rfl).at_).mono fun e w' ⟨he, hb⟩ => ⟨he, hW'.trans (hb.mono hW'.size)⟩)
  have H5 := hide (show ∀ W', Below wA.heap.size wA W' → Calls Tryd.prog 28 #[.slice A3 n3 c3, .slice A4 n4 c4] W' fun e w' => e = .returned (.bool true) ∧ Below wA.heap.size wA w' from fun W' hW' =>
    (rgs_any _ _ _ _ _ _ R R W' ((r1.below hW').more hW'.size) ((r2.below hW').more hW'.size)).mono fun e w' ⟨he, q, hb⟩ => ⟨by rw [he, decide_eq_true rfl], by rw [hb]; exact below_drewN hW' _⟩)
  have H6 := hide (show ∀ W', Below wA.heap.size wA W' → Calls Tryd.prog 29 #[.agg #[.slice A5 n5 c5, .slice A6 n6 c6], .agg #[.slice A7 n7 c7, .slice A8 n8 c8]] W' fun e w' => e = .returned (.bool true) ∧ Below wA.heap.size wA w' from fun W' hW' =>
    (refSame_any _ _ _ _ _ _ _ _ _ _ _ _ L L W' (z1.below hW' rfl).at_ (z3.below hW' rfl).at_).mono fun e w' ⟨he, hb⟩ => ⟨by rw [he, decide_eq_true rfl], hW'.trans (hb.mono hW'.size)⟩)
  have H7 := hide (show ∀ W', Below wA.heap.size wA W' → Calls Tryd.prog 19 #[.agg #[.slice A1 n1 c1, .slice A2 n2 c2], .agg #[.slice A5 n5 c5, .slice A6 n6 c6]] W' fun e w' => e = .returned (.bool (decide (T = L))) ∧ Below wA.heap.size wA w' from fun W' hW' =>
    (sameTr_any _ _ _ _ _ _ _ _ _ _ _ _ T L W' (z2.below hW' rfl).at_ (z1.below hW' rfl).at_).mono fun e w' ⟨he, hb⟩ => ⟨he, hW'.trans (hb.mono hW'.size)⟩)
  have H8 := hide (show ∀ W', Below wA.heap.size wA W' → Calls Tryd.prog 29 #[.agg #[.slice A1 n1 c1, .slice A2 n2 c2], .agg #[.slice A5 n5 c5, .slice A6 n6 c6]] W' fun e w' => e = .returned (.bool (decide (T = L))) ∧ Below wA.heap.size wA w' from fun W' hW' =>
    (refSame_any _ _ _ _ _ _ _ _ _ _ _ _ T L W' (z2.below hW' rfl).at_ (z1.below hW' rfl).at_).mono fun e w' ⟨he, hb⟩ => ⟨he, hW'.trans (hb.mono hW'.size)⟩)
  clear hC z1 z2 z3 r1 r2 HZ
  generalize decide (T = L) = bTL at *
  generalize T.rightB = bT at *
  generalize T.value r = vT at *
  refine wp_region_below (by kernel_rfl) (by kernel_rfl) ?_
  refine q_step (v := ?_) rfl (fun W_ hW_ => ?_) ?_; rotate_left; (obtain ⟨e1, e2, e3, e4, e5, e6⟩ := HC.out W_ hW_; go_simp; first | rfl | exact ⟨rfl, rfl⟩); go_frame
  refine q_step (v := ?_) rfl (fun W_ hW_ => ?_) ?_; rotate_left; (obtain ⟨e1, e2, e3, e4, e5, e6⟩ := HC.out W_ hW_; go_simp; first | rfl | exact ⟨rfl, rfl⟩); go_frame
  refine q_step (v := ?_) rfl (fun W_ hW_ => ?_) ?_; rotate_left; (obtain ⟨e1, e2, e3, e4, e5, e6⟩ := HC.out W_ hW_; go_simp; first | rfl | exact ⟨rfl, rfl⟩); go_frame
  refine q_call (v := .bool bT) 25 #[.agg #[.slice A1 n1 c1, .slice A2 n2 c2]] rfl (fun W_ => by go_simp) (fun W_ hW_ => H1.out W_ hW_) ?_
  go_frame
  refine q_step (v := ?_) rfl (fun W_ hW_ => ?_) ?_; rotate_left; (obtain ⟨e1, e2, e3, e4, e5, e6⟩ := HC.out W_ hW_; go_simp; first | rfl | exact ⟨rfl, rfl⟩); go_frame
  refine q_call (v := .bool bT) 26 #[.agg #[.slice A1 n1 c1, .slice A2 n2 c2]] rfl (fun W_ => by go_simp) (fun W_ hW_ => H2.out W_ hW_) ?_
  go_frame
  refine q_step (v := .bool true) rfl (fun W_ hW_ => by go_simp) ?_
  go_frame
  refine q_step (v := ?_) rfl (fun W_ hW_ => ?_) ?_; rotate_left; (obtain ⟨e1, e2, e3, e4, e5, e6⟩ := HC.out W_ hW_; go_simp; first | rfl | exact ⟨rfl, rfl⟩); go_frame
  refine q_step (v := ?_) rfl (fun W_ hW_ => ?_) ?_; rotate_left; (obtain ⟨e1, e2, e3, e4, e5, e6⟩ := HC.out W_ hW_; go_simp; first | rfl | exact ⟨rfl, rfl⟩); go_frame
  refine q_step (v := ?_) rfl (fun W_ hW_ => ?_) ?_; rotate_left; (obtain ⟨e1, e2, e3, e4, e5, e6⟩ := HC.out W_ hW_; go_simp; first | rfl | exact ⟨rfl, rfl⟩); go_frame
  refine q_step (v := ?_) rfl (fun W_ hW_ => ?_) ?_; rotate_left; (obtain ⟨e1, e2, e3, e4, e5, e6⟩ := HC.out W_ hW_; go_simp; first | rfl | exact ⟨rfl, rfl⟩); go_frame
  refine q_call (v := .int .i64 (vT)) 17 #[.agg #[.slice A1 n1 c1, .slice A2 n2 c2], .int .i64 r] rfl (fun W_ => by go_simp) (fun W_ hW_ => H3.out W_ hW_) ?_
  go_frame
  refine q_step (v := ?_) rfl (fun W_ hW_ => ?_) ?_; rotate_left; (obtain ⟨e1, e2, e3, e4, e5, e6⟩ := HC.out W_ hW_; go_simp; first | rfl | exact ⟨rfl, rfl⟩); go_frame
  refine q_step (v := ?_) rfl (fun W_ hW_ => ?_) ?_; rotate_left; (obtain ⟨e1, e2, e3, e4, e5, e6⟩ := HC.out W_ hW_; go_simp; first | rfl | exact ⟨rfl, rfl⟩); go_frame
  refine q_call (v := .int .i64 (vT)) 27 #[.agg #[.slice A1 n1 c1, .slice A2 n2 c2], .int .i64 r] rfl (fun W_ => by go_simp) (fun W_ hW_ => H4.out W_ hW_) ?_
  go_frame
  refine q_step (v := .bool true) rfl (fun W_ hW_ => by go_simp) ?_
  go_frame
  refine q_step (v := ?_) rfl (fun W_ hW_ => ?_) ?_; rotate_left; (obtain ⟨e1, e2, e3, e4, e5, e6⟩ := HC.out W_ hW_; go_simp; first | rfl | exact ⟨rfl, rfl⟩); go_frame
  refine q_step (v := ?_) rfl (fun W_ hW_ => ?_) ?_; rotate_left; (obtain ⟨e1, e2, e3, e4, e5, e6⟩ := HC.out W_ hW_; go_simp; first | rfl | exact ⟨rfl, rfl⟩); go_frame
  refine q_step (v := ?_) rfl (fun W_ hW_ => ?_) ?_; rotate_left; (obtain ⟨e1, e2, e3, e4, e5, e6⟩ := HC.out W_ hW_; go_simp; first | rfl | exact ⟨rfl, rfl⟩); go_frame
  refine q_step (v := ?_) rfl (fun W_ hW_ => ?_) ?_; rotate_left; (obtain ⟨e1, e2, e3, e4, e5, e6⟩ := HC.out W_ hW_; go_simp; first | rfl | exact ⟨rfl, rfl⟩); go_frame
  refine q_call (v := .bool true) 28 #[.slice A3 n3 c3, .slice A4 n4 c4] rfl (fun W_ => by go_simp) (fun W_ hW_ => H5.out W_ hW_) ?_
  go_frame
  refine q_step (v := ?_) rfl (fun W_ hW_ => ?_) ?_; rotate_left; (obtain ⟨e1, e2, e3, e4, e5, e6⟩ := HC.out W_ hW_; go_simp; first | rfl | exact ⟨rfl, rfl⟩); go_frame
  refine q_step (v := ?_) rfl (fun W_ hW_ => ?_) ?_; rotate_left; (obtain ⟨e1, e2, e3, e4, e5, e6⟩ := HC.out W_ hW_; go_simp; first | rfl | exact ⟨rfl, rfl⟩); go_frame
  refine q_step (v := ?_) rfl (fun W_ hW_ => ?_) ?_; rotate_left; (obtain ⟨e1, e2, e3, e4, e5, e6⟩ := HC.out W_ hW_; go_simp; first | rfl | exact ⟨rfl, rfl⟩); go_frame
  refine q_step (v := ?_) rfl (fun W_ hW_ => ?_) ?_; rotate_left; (obtain ⟨e1, e2, e3, e4, e5, e6⟩ := HC.out W_ hW_; go_simp; first | rfl | exact ⟨rfl, rfl⟩); go_frame
  refine q_step (v := .bool true) rfl (fun W_ hW_ => by go_simp) ?_
  go_frame
  refine q_step (v := ?_) rfl (fun W_ hW_ => ?_) ?_; rotate_left; (obtain ⟨e1, e2, e3, e4, e5, e6⟩ := HC.out W_ hW_; go_simp; first | rfl | exact ⟨rfl, rfl⟩); go_frame
  refine q_step (v := ?_) rfl (fun W_ hW_ => ?_) ?_; rotate_left; (obtain ⟨e1, e2, e3, e4, e5, e6⟩ := HC.out W_ hW_; go_simp; first | rfl | exact ⟨rfl, rfl⟩); go_frame
  refine q_step (v := ?_) rfl (fun W_ hW_ => ?_) ?_; rotate_left; (obtain ⟨e1, e2, e3, e4, e5, e6⟩ := HC.out W_ hW_; go_simp; first | rfl | exact ⟨rfl, rfl⟩); go_frame
  refine q_step (v := ?_) rfl (fun W_ hW_ => ?_) ?_; rotate_left; (obtain ⟨e1, e2, e3, e4, e5, e6⟩ := HC.out W_ hW_; go_simp; first | rfl | exact ⟨rfl, rfl⟩); go_frame
  refine q_call (v := .bool true) 29 #[.agg #[.slice A5 n5 c5, .slice A6 n6 c6], .agg #[.slice A7 n7 c7, .slice A8 n8 c8]] rfl (fun W_ => by go_simp) (fun W_ hW_ => H6.out W_ hW_) ?_
  go_frame
  refine q_step (v := ?_) rfl (fun W_ hW_ => ?_) ?_; rotate_left; (obtain ⟨e1, e2, e3, e4, e5, e6⟩ := HC.out W_ hW_; go_simp; first | rfl | exact ⟨rfl, rfl⟩); go_frame
  refine q_step (v := ?_) rfl (fun W_ hW_ => ?_) ?_; rotate_left; (obtain ⟨e1, e2, e3, e4, e5, e6⟩ := HC.out W_ hW_; go_simp; first | rfl | exact ⟨rfl, rfl⟩); go_frame
  refine q_step (v := ?_) rfl (fun W_ hW_ => ?_) ?_; rotate_left; (obtain ⟨e1, e2, e3, e4, e5, e6⟩ := HC.out W_ hW_; go_simp; first | rfl | exact ⟨rfl, rfl⟩); go_frame
  refine q_step (v := ?_) rfl (fun W_ hW_ => ?_) ?_; rotate_left; (obtain ⟨e1, e2, e3, e4, e5, e6⟩ := HC.out W_ hW_; go_simp; first | rfl | exact ⟨rfl, rfl⟩); go_frame
  refine q_step (v := .bool true) rfl (fun W_ hW_ => by go_simp) ?_
  go_frame
  refine q_step (v := ?_) rfl (fun W_ hW_ => ?_) ?_; rotate_left; (obtain ⟨e1, e2, e3, e4, e5, e6⟩ := HC.out W_ hW_; go_simp; first | rfl | exact ⟨rfl, rfl⟩); go_frame
  refine q_step (v := ?_) rfl (fun W_ hW_ => ?_) ?_; rotate_left; (obtain ⟨e1, e2, e3, e4, e5, e6⟩ := HC.out W_ hW_; go_simp; first | rfl | exact ⟨rfl, rfl⟩); go_frame
  refine q_step (v := ?_) rfl (fun W_ hW_ => ?_) ?_; rotate_left; (obtain ⟨e1, e2, e3, e4, e5, e6⟩ := HC.out W_ hW_; go_simp; first | rfl | exact ⟨rfl, rfl⟩); go_frame
  refine q_step (v := ?_) rfl (fun W_ hW_ => ?_) ?_; rotate_left; (obtain ⟨e1, e2, e3, e4, e5, e6⟩ := HC.out W_ hW_; go_simp; first | rfl | exact ⟨rfl, rfl⟩); go_frame
  refine q_call (v := .bool (bTL)) 19 #[.agg #[.slice A1 n1 c1, .slice A2 n2 c2], .agg #[.slice A5 n5 c5, .slice A6 n6 c6]] rfl (fun W_ => by go_simp) (fun W_ hW_ => H7.out W_ hW_) ?_
  go_frame
  refine q_step (v := ?_) rfl (fun W_ hW_ => ?_) ?_; rotate_left; (obtain ⟨e1, e2, e3, e4, e5, e6⟩ := HC.out W_ hW_; go_simp; first | rfl | exact ⟨rfl, rfl⟩); go_frame
  refine q_step (v := ?_) rfl (fun W_ hW_ => ?_) ?_; rotate_left; (obtain ⟨e1, e2, e3, e4, e5, e6⟩ := HC.out W_ hW_; go_simp; first | rfl | exact ⟨rfl, rfl⟩); go_frame
  refine q_call (v := .bool (bTL)) 29 #[.agg #[.slice A1 n1 c1, .slice A2 n2 c2], .agg #[.slice A5 n5 c5, .slice A6 n6 c6]] rfl (fun W_ => by go_simp) (fun W_ hW_ => H8.out W_ hW_) ?_
  go_frame
  refine q_step (v := .bool true) rfl (fun W_ hW_ => by go_simp) ?_
  go_frame
  refine q_step (v := ?_) rfl (fun W_ hW_ => ?_) ?_; rotate_left; (obtain ⟨e1, e2, e3, e4, e5, e6⟩ := HC.out W_ hW_; go_simp; first | rfl | exact ⟨rfl, rfl⟩); go_frame
  refine q_step (v := ?_) rfl (fun W_ hW_ => ?_) ?_; rotate_left; (obtain ⟨e1, e2, e3, e4, e5, e6⟩ := HC.out W_ hW_; go_simp; first | rfl | exact ⟨rfl, rfl⟩); go_frame
  refine wpQuiet_nil (fun W' hW' => ?_)
  go_wp2_with fail
  go_ret
  exact ⟨rfl, hb0A.trans (hW'.mono hb0A.size)⟩
end Go.Proofs.YtibndkkbmgbogaaDoor
