/- The walk of the law PackMakes; the reference's Size. Conditions: the packages' variables hold what they hold; the slices read as lists, and lie within their capacities; the text is a text. -/
import Derived.Test.YtibndkkbmgbogaaDoorPShown
import Derived.Test.YtibndkkbmgbogaaDoorPRefP
import Derived.Test.YtibndkkbmgbogaaDoorPRunsR
import Derived.Test.YtibndkkbmgbogaaDoorTable
import Derived.Test.YtibndkkbmgbogaaDoorTwoLeast
import Derived.Deep.CutRange
import Derived.Deep.Cut
import Derived.Outline
namespace Go.Proofs.YtibndkkbmgbogaaDoor
open Go Go.RowKit

theorem refSize_any (A A' : Option Addr) (n c n' c' : Nat) (T : Tr) (w : World) (ht : TrAt w w.heap.size A n A' n' T) :
    Calls Tryd.prog 40 #[.agg #[.slice A n c, .slice A' n' c']] w (Freed w (.tuple #[.int .i64 ((packedB T).1.length : Nat), .int .i64 (packedB T).2])) := by
  have hb1 : Below w.heap.size w (w.alloc (.cells #[.slice A n c, .slice A' n' c'] 27)) := (Below.refl _ _).alloc (Nat.le_refl _) _
  have HC := hide (refPack_any A A' n c n' c' T _ (ht.alloc (Nat.le_refl _) (.cells #[.slice A n c, .slice A' n' c'] 27)))
  clear ht
  have hsz : (⟨(packedB T).1.toArray⟩ : ByteArray).size = (packedB T).1.length := by show (packedB T).1.toArray.size = _; simp
  generalize packedB T = p at *
  obtain ⟨L, k⟩ := p
  simp only at hsz HC ⊢
  have HZ := hide hsz
  clear hsz
  generalize (⟨L.toArray⟩ : ByteArray) = s at *
  go_enter Tryd.func40, Tryd.ntmps40
  go_wp2_with fail
  refine HC.out.mono ?_
  rintro e w1 ⟨rfl, hb2⟩
  have hb3 := hb1.trans (hb2.mono (by simp))
  go_wp2
  go_ret2
  refine ⟨?_, hb3⟩
  rw [← HZ.out]
  rfl

set_option maxRecDepth 100000 in
set_option maxHeartbeats 4000000 in
theorem packMakes_any (A A' : Option Addr) (n c n' c' : Nat) (T0 : Tr) (s : ByteArray) (A2 : Option Addr) (n2 c2 : Nat) (l : List Int) (B : Nat) (z : Value) (w : World) (hE : PEnv w B z) (hB : B ≤ w.heap.size)
    (hc : n ≤ c) (hix : Rds w w.heap.size 1 A n (intCells T0.ix)) (hbl : RowsC w w.heap.size A' n' T0.bl) (hs : s.size ≤ 9223372036854775807) (hc2 : n2 ≤ c2) (hr2 : Rds w w.heap.size 1 A2 n2 (intCells l)) :
    Calls Tryd.prog 11 #[.agg #[.slice A n c, .slice A' n' c'], .string s, .slice A2 n2 c2] w (Freed w (.bool true)) := by
  have hcut1 := fun w => cut_any s w hs
  have hs' : (s.extract 0 (min s.size 600)).size ≤ 600 := by simp; omega
  generalize s.extract 0 (min s.size 600) = b at *
  have hsm := fun w => sum_any b w (by omega)
  have hrs := fun w => refSum_any b w (by omega)
  generalize sumB b.data.toList % 65536 = m at *
  have hrN := hr2.int_take 300
  have hmx := hr2.2.1
  obtain ⟨L, hL⟩ : ∃ L, L = l.take 300 := ⟨_, rfl⟩
  rw [← hL] at hrN
  have hlen : L.length ≤ 300 := by rw [hL, List.length_take]; omega
  have hA : 0 < n2 → ∃ b o, A2 = some ⟨b, o, none⟩ := fun h => by obtain ⟨b, o, e, _⟩ := hr2.2.2 h; exact ⟨b, o, e⟩
  clear hL hr2 hs hs'
  go_enter Tryd.func11, Tryd.ntmps11
  have hb0 : Below w.heap.size w (w.alloc (.cells #[.slice A n c, .slice A' n' c'] 27)) := (Below.refl _ _).alloc (Nat.le_refl _) _
  have kB := Blk.new w 27 #[.slice A n c, .slice A' n' c']
  have hh := fun w' (hb : Below w.heap.size w w') => And.intro (hE.below (hb.mono hB)) (And.intro ((hrN.below hb).more hb.size) (And.intro (hix.below hb) (hbl.below hb)))
  have HH := hide hh
  have HC1 := hide hcut1
  have HSM := hide hsm
  have HRS := hide hrs
  clear hh hE hrN hix hbl hcut1 hsm hrs
  go_wp2_with fail
  obtain ⟨w1, hw1⟩ : ∃ w1 : World, w1 = w.alloc (.cells #[.slice A n c, .slice A' n' c'] 27) := ⟨_, rfl⟩
  rw [← hw1] at hb0 kB ⊢
  clear hw1
  refine (packShown_any B z w1 (HH.out w1 hb0).1 (by have := hb0.size; omega)).mono ?_
  rintro e w4 ⟨rfl, hb2⟩
  have hb04 := hb0.trans (hb2.mono hb0.size)
  have KB4 := hide (kB.below hb2 kB.lt)
  obtain ⟨p0, p1⟩ := And.intro (KB4.out.cell 0) (KB4.out.cell 1)
  have kBl := KB4.out.lt
  simp only [List.getElem?_toArray, List.getElem?_cons_zero, List.getElem?_cons_succ] at p0 p1
  clear kB hb2 hb0
  go_wp2_with fail
  refine (table_any A A' n c n' c' w.heap.size T0 w4 hb04.size (HH.out w4 hb04).2.2.1 hc (HH.out w4 hb04).2.2.2).mono ?_
  rintro e w5 ⟨A3, n3, c3, A4, n4, c4, rfl, ht, h3c, h4c, hb5, hkeep⟩
  generalize tableB T0 = T at *
  have hb05 := hb04.trans (hb5.mono hb04.size)
  have kB5 : Blk w5 w.heap.size 27 _ := KB4.out.below hb5 KB4.out.lt
  have m1 := grownBy_setCell w5 w.heap.size 0 (.slice A3 n3 c3)
  have m2 := grownBy_setCell (w5.setCell ⟨w.heap.size, 0, none⟩ (.slice A3 n3 c3)) w.heap.size 1 (.slice A4 n4 c4)
  have kB6 := (kB5.set_ 0 (.slice A3 n3 c3)).set_ 1 (.slice A4 n4 c4)
  have hb06 : Below w.heap.size w ((w5.setCell ⟨w.heap.size, 0, none⟩ (.slice A3 n3 c3)).setCell ⟨w.heap.size, 1, none⟩ (.slice A4 n4 c4)) := (hb05.grown m1 hb05.size (fun k e => by cases e; exact Nat.le_refl _)).grown m2 (by simp; exact hb05.size) (fun k e => by cases e; exact Nat.le_refl _)
  obtain ⟨w6, hw6⟩ : ∃ w6 : World, w6 = (w5.setCell ⟨w.heap.size, 0, none⟩ (.slice A3 n3 c3)).setCell ⟨w.heap.size, 1, none⟩ (.slice A4 n4 c4) := ⟨_, rfl⟩
  have hgw : w5.grownBy w6 (some w.heap.size) := by rw [hw6]; exact ⟨rfl, rfl, rfl, by simp, fun k hk hne => (m2.block k (by simpa using hk) hne).trans (m1.block k hk hne)⟩
  have ht6 := hkeep w.heap.size w6 (Nat.le_refl _) (KB4.out.lt) hgw
  have k3 := kB5.cell 0
  have k4 := kB5.cell 1
  have kf3 := kB5.frozen 0
  have kf4 := kB5.frozen 1
  have kl3 := kB5.lt
  simp only [List.getElem?_toArray, List.getElem?_cons_zero, List.getElem?_cons_succ] at k3 k4
  have HVT : Hid (TrVar w6 w.heap.size A3 n3 c3 A4 n4 c4 T) := hide ⟨by rw [hw6]; exact kB6, ht6⟩
  rw [← hw6] at hb06
  clear ht hkeep ht6 KB4 kB6 m1 m2 hgw p0 p1 hb5 hb05 hb04 kB5
  have hB6 := hb06.size
  have hpk := fun w' ht' hE' hB' => packPack_any A3 A4 n3 c3 n4 c4 B T z w' ht' hE' hB'
  have hrp := fun w' ht' => refPack_any A3 A4 n3 c3 n4 c4 T w' ht'
  have hsz := fun w' ht' hE' hB' => size_any A3 A4 n3 c3 n4 c4 B T z w' ht' hE' hB'
  have hrz := fun w' ht' => refSize_any A3 A4 n3 c3 n4 c4 T w' ht'
  generalize packedB T = p at *
  obtain ⟨q, f⟩ := p
  simp only at hpk hrp hsz hrz
  generalize q.length = ql at *
  generalize (⟨q.toArray⟩ : ByteArray) = qs at *
  have HPK := hide hpk
  have HRP := hide hrp
  have HSZ := hide hsz
  have HRZ := hide hrz
  clear hpk hrp hsz hrz
  go_upto_region 3 with fail
  rw [← hw6]
  clear hw6 k3 k4 kf3 kf4 kl3
  go_cut [2] from 19 to 23 (fun s2 wx => s2 = .slice A2 (min n2 300) c2 ∧ wx = w6)
  case first =>
    rcases Nat.lt_or_ge 300 n2 with hn | hn
    · have e : min n2 300 = 300 := by omega
      obtain ⟨b, o, rfl⟩ := hA (by omega)
      go_wp2_with fail
      go_meet
      exact ⟨by rw [e], rfl⟩
    · have e : min n2 300 = n2 := by omega
      rcases Nat.eq_zero_or_pos n2 with h0 | h0
      · subst h0
        go_wp2_with fail
        go_meet
        exact ⟨rfl, rfl⟩
      · obtain ⟨b, o, rfl⟩ := hA h0
        go_wp2_with fail
        go_meet
        exact ⟨by rw [e], rfl⟩
  case rest =>
    obtain ⟨rfl, rfl⟩ := hcut
    have hV := HVT.out
    have HB := hb06
    clear HVT hb06
    obtain ⟨x0, x1⟩ := hV.cells
    have xl := hV.lt
    have HX := hide hV
    clear hV
    go_wp2_with fail
    have hV := HX.out
    refine (HPK.out wc hV.at_ (HH.out wc HB).1 (by omega)).mono ?_
    rintro e w7 ⟨rfl, hb⟩
    have HB7 := HB.trans (hb.mono HB.size)
    have V7 := HX.out.below hb rfl
    clear HX x0 x1 xl hb hV HB
    obtain ⟨x0, x1⟩ := V7.cells
    have xl := V7.lt
    have HX := hide V7
    clear V7
    go_wp2_with fail
    have V7 := HX.out
    refine (HRP.out w7 V7.at_).mono ?_
    rintro e w8 ⟨rfl, hb⟩
    have HB8 := HB7.trans (hb.mono HB7.size)
    have V8 := HX.out.below hb rfl
    clear HX x0 x1 xl hb V7 HB7
    obtain ⟨x0, x1⟩ := V8.cells
    have xl := V8.lt
    have HX := hide V8
    clear V8
    go_wp2_with fail
    have V8 := HX.out
    refine (HSZ.out w8 V8.at_ (HH.out w8 HB8).1 (by have := HB8.size; omega)).mono ?_
    rintro e w9 ⟨rfl, hb⟩
    have HB9 := HB8.trans (hb.mono HB8.size)
    have V9 := HX.out.below hb rfl
    clear HX x0 x1 xl hb V8 HB8
    obtain ⟨x0, x1⟩ := V9.cells
    have xl := V9.lt
    have HX := hide V9
    clear V9
    go_wp2_with fail
    have V9 := HX.out
    refine (HRZ.out w9 V9.at_).mono ?_
    rintro e w10 ⟨rfl, hb⟩
    have HB10 := HB9.trans (hb.mono HB9.size)
    have V10 := HX.out.below hb rfl
    clear HX x0 x1 xl hb V9 HB9
    clear V10 HPK HRP HSZ HRZ
    go_wp2_with fail
    refine (HC1.out w10).mono ?_
    rintro e _ ⟨rfl, rfl⟩
    go_wp2_with fail
    refine (HSM.out w10).mono ?_
    rintro e w11 ⟨rfl, hb⟩
    have HB11 := HB10.trans (hb.mono HB10.size)
    clear hb HB10
    go_wp2_with fail
    refine (HC1.out w11).mono ?_
    rintro e _ ⟨rfl, rfl⟩
    go_wp2_with fail
    refine (HRS.out w11).mono ?_
    rintro e _ ⟨rfl, rfl⟩
    go_wp2_with fail
    refine (packRunsFn_any A2 (min n2 300) c2 L w11 (HH.out w11 HB11).2.1 (by omega)).mono ?_
    rintro e w12 ⟨A5, n5, c5, rfl, hr5, _, hb⟩
    have HB12 := HB11.trans (hb.mono HB11.size)
    have H5 := hide hr5
    clear hb HB11 hr5
    go_wp2_with fail
    refine (refRuns_any A2 (min n2 300) c2 L w12 (HH.out w12 HB12).2.1 (by omega)).mono ?_
    rintro e w13 ⟨A6, n6, c6, rfl, hr6, _, hb⟩
    have HB13 := HB12.trans (hb.mono HB12.size)
    have hq := lawRuns_any A5 A6 n5 c5 n6 c6 (runsOf L) (runsOf L) w13 ((H5.out.below hb).more hb.size) hr6
    rw [decide_eq_true rfl] at hq
    have HQ := hide hq
    clear hb HB12 hr6 H5 hq
    go_wp2_with fail
    refine HQ.out.mono ?_
    rintro e w14 ⟨rfl, q14, rfl⟩
    go_wp2
    go_ret
    exact ⟨rfl, below_drewN HB13 q14⟩
end Go.Proofs.YtibndkkbmgbogaaDoor
