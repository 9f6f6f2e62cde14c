/- The walk of the law PackLoads. Conditions: the packages' variables hold what they hold; the text is a text. -/
import Derived.Test.YtibndkkbmgbogaaDoorPShown
import Derived.Test.YtibndkkbmgbogaaDoorRefLd
import Derived.Test.YtibndkkbmgbogaaDoorTwoLeast
import Derived.Outline
namespace Go.Proofs.YtibndkkbmgbogaaDoor
open Go Go.RowKit

set_option maxRecDepth 100000 in
set_option maxHeartbeats 4000000 in
theorem packLoads_any (s : ByteArray) (B : Nat) (z : Value) (w : World) (hE : PEnv w B z) (hB : B ≤ w.heap.size) (hs : s.size ≤ 9223372036854775807) :
    Calls Tryd.prog 7 #[.string s] w (Freed w (.bool true)) := by
  have h0 := packShown_any B z w hE hB
  have hcut1 := fun w => cut_any s w hs
  have hs' : (s.extract 0 (min s.size 600)).size ≤ 600 := by simp; omega
  clear hs
  generalize s.extract 0 (min s.size 600) = b at *
  have hrs := fun w => refSum_any b w (by omega)
  have hm6 : sumB b.data.toList % 65536 < 65536 := Nat.mod_lt _ (by omega)
  generalize sumB b.data.toList % 65536 = m at *
  have hl1 := fun w hE hB => packLoad_any b B z w hE hB (by omega)
  have hr1 := fun w => refLoad_any b w (by omega)
  rw [refLoad_eq] at hr1
  generalize loadB b = p1 at *
  obtain ⟨T, k1⟩ := p1
  simp only at hl1 hr1
  have h1 : (m : Int).tdiv 256 = ((m / 256 : Nat) : Int) := by rw [Int.tdiv_eq_ediv_of_nonneg (by omega)]; omega
  have h2 : (m : Int).tmod 256 = ((m % 256 : Nat) : Int) := by rw [Int.tmod_eq_emod_of_nonneg (by omega)]; omega
  have hcv := fun (W' : World) => show (convert 45 9 (.slice (some ⟨W'.heap.size, 0, none⟩) 2 2)).run Tryd.prog (W'.alloc (.cells #[.int .u8 ((m / 256 : Nat) : Int), .int .u8 ((m % 256 : Nat) : Int)] 5)) = .ok (.string ⟨(twoB m).toArray⟩) (W'.alloc (.cells #[.int .u8 ((m / 256 : Nat) : Int), .int .u8 ((m % 256 : Nat) : Int)] 5)) from
    run_convert_bytes_back (P := Tryd.prog) _ 45 9 5 ⟨W'.heap.size, 0, none⟩ 2 (twoB m) Tryd.underlying45 Tryd.underlying5 Tryd.underlying9 (fun j hj => by
      have hb := byteCells_two (n := m) hm6
      have h3 := World.news_of_block (w := W'.alloc (.cells #[.int .u8 ((m / 256 : Nat) : Int), .int .u8 ((m % 256 : Nat) : Int)] 5)) (cs := #[.int .u8 ((m / 256 : Nat) : Int), .int .u8 ((m % 256 : Nat) : Int)]) (t := 5) (fr := (0, 0)) (heap_alloc_new W' _) j (.int .u8 ((twoB m)[j].toNat : Int))
      refine h3 ?_
      have h4 : (byteCells (twoB m))[j]? = some (.int .u8 ((twoB m)[j].toNat : Int)) := by simp [byteCells, byteV, hj]
      rw [hb] at h4
      exact h4)
  simp only [show ((m / 256 : Nat) : Int) = (m : Int) / 256 by omega, show ((m % 256 : Nat) : Int) = (m : Int) % 256 by omega] at hcv
  have hts : (⟨(twoB m).toArray⟩ : ByteArray).size = 2 := rfl
  generalize (⟨(twoB m).toArray⟩ : ByteArray) = tb at *
  have hxs : (b ++ tb).size ≤ 602 := by rw [ByteArray.size_append]; omega
  have hadd : b.size + tb.size ≤ 602 := by omega
  have hl2 := fun w hE hB => packLoad_any (b ++ tb) B z w hE hB (by omega)
  have hr2 := fun w => refLoad_any (b ++ tb) w (by omega)
  rw [refLoad_eq] at hr2
  generalize loadB (b ++ tb) = p2 at *
  obtain ⟨U, k2⟩ := p2
  simp only at hl2 hr2
  have HL1 := hide hl1
  have HR1 := hide hr1
  have HL2 := hide hl2
  have HR2 := hide hr2
  have HE := hide hE
  have HTS := hide hts
  have HRS := hide hrs
  have HC1 := hide hcut1
  clear hl1 hr1 hl2 hr2 hE hts hrs hcut1
  go_enter Tryd.func7, Tryd.ntmps7
  go_wp2_with fail
  refine h0.mono ?_
  rintro e w1 ⟨rfl, hb1⟩
  clear h0
  go_wp2_with fail
  refine (HC1.out w1).mono ?_
  rintro e _ ⟨rfl, rfl⟩
  go_wp2_with fail
  refine (HRS.out w1).mono ?_
  rintro e _ ⟨rfl, rfl⟩
  go_wp2_with fail
  clear hcv h1 h2
  obtain ⟨w2, hw2⟩ : ∃ w2 : World, w2 = w1.alloc (.cells #[.int .u8 ((m : Int) / 256), .int .u8 ((m : Int) % 256)] 5) := ⟨_, rfl⟩
  have hb2 : Below w.heap.size w w2 := by rw [hw2]; exact hb1.alloc hb1.size _
  rw [← hw2]
  clear hw2 hb1 HC1 HRS
  refine (HL1.out w2 (HE.out.below (hb2.mono hB)) (by have := hb2.size; omega)).mono ?_
  rintro e v1 ⟨A1, n1, c1, D1, m1, d1, rfl, ht1, _, _, hb⟩
  have B1 := hb2.trans (hb.mono hb2.size)
  have V1x := TrVar.new ht1 c1 d1
  have hbA : Below v1.heap.size v1 (v1.alloc (.cells #[.slice A1 n1 c1, .slice D1 m1 d1] 27)) := (Below.refl _ _).alloc (Nat.le_refl _) _
  have C1 := B1.trans (hbA.mono B1.size)
  clear hb hbA B1 ht1 hb2
  have H1n1 := hide V1x
  clear V1x
  go_wp2_with fail
  obtain ⟨w3, hw⟩ : ∃ W : World, W = v1.alloc (.cells #[.slice A1 n1 c1, .slice D1 m1 d1] 27) := ⟨_, rfl⟩
  rw [← hw] at H1n1 C1 ⊢
  clear hw
  have U1n1 := H1n1.out
  clear H1n1
  refine (HR1.out w3).mono ?_
  rintro e v2 ⟨A2, n2, c2, D2, m2, d2, rfl, ht2, _, _, hb⟩
  have B2 := C1.trans (hb.mono C1.size)
  have U1n1b := U1n1.below hb rfl
  have V2x := TrVar.new ht2 c2 d2
  have hbA : Below v2.heap.size v2 (v2.alloc (.cells #[.slice A2 n2 c2, .slice D2 m2 d2] 27)) := (Below.refl _ _).alloc (Nat.le_refl _) _
  have C2 := B2.trans (hbA.mono B2.size)
  have U1n1c := U1n1b.below hbA rfl
  clear hb hbA B2 ht2 C1 U1n1 U1n1b
  have H1n2 := hide U1n1c
  have H2n2 := hide V2x
  clear U1n1c V2x
  go_wp2_with fail
  obtain ⟨w4, hw⟩ : ∃ W : World, W = v2.alloc (.cells #[.slice A2 n2 c2, .slice D2 m2 d2] 27) := ⟨_, rfl⟩
  rw [← hw] at H1n2 H2n2 C2 ⊢
  clear hw
  have U1n2 := H1n2.out
  have U2n2 := H2n2.out
  clear H1n2 H2n2
  refine (HL2.out w4 (HE.out.below (C2.mono hB)) (by have := C2.size; omega)).mono ?_
  rintro e v3 ⟨A3, n3, c3, D3, m3, d3, rfl, ht3, _, _, hb⟩
  have B3 := C2.trans (hb.mono C2.size)
  have U1n2b := U1n2.below hb rfl
  have U2n2b := U2n2.below hb rfl
  have V3x := TrVar.new ht3 c3 d3
  have hbA : Below v3.heap.size v3 (v3.alloc (.cells #[.slice A3 n3 c3, .slice D3 m3 d3] 27)) := (Below.refl _ _).alloc (Nat.le_refl _) _
  have C3 := B3.trans (hbA.mono B3.size)
  have U1n2c := U1n2b.below hbA rfl
  have U2n2c := U2n2b.below hbA rfl
  clear hb hbA B3 ht3 C2 U1n2 U1n2b U2n2 U2n2b
  have H1n3 := hide U1n2c
  have H2n3 := hide U2n2c
  have H3n3 := hide V3x
  clear U1n2c U2n2c V3x
  go_wp2_with fail
  obtain ⟨w5, hw⟩ : ∃ W : World, W = v3.alloc (.cells #[.slice A3 n3 c3, .slice D3 m3 d3] 27) := ⟨_, rfl⟩
  rw [← hw] at H1n3 H2n3 H3n3 C3 ⊢
  clear hw
  have U1n3 := H1n3.out
  have U2n3 := H2n3.out
  have U3n3 := H3n3.out
  clear H1n3 H2n3 H3n3
  refine (HR2.out w5).mono ?_
  rintro e v4 ⟨A4, n4, c4, D4, m4, d4, rfl, ht4, _, _, hb⟩
  have B4 := C3.trans (hb.mono C3.size)
  have U1n3b := U1n3.below hb rfl
  have U2n3b := U2n3.below hb rfl
  have U3n3b := U3n3.below hb rfl
  have V4x := TrVar.new ht4 c4 d4
  have hbA : Below v4.heap.size v4 (v4.alloc (.cells #[.slice A4 n4 c4, .slice D4 m4 d4] 27)) := (Below.refl _ _).alloc (Nat.le_refl _) _
  have C4 := B4.trans (hbA.mono B4.size)
  have U1n3c := U1n3b.below hbA rfl
  have U2n3c := U2n3b.below hbA rfl
  have U3n3c := U3n3b.below hbA rfl
  clear hb hbA B4 ht4 C3 U1n3 U1n3b U2n3 U2n3b U3n3 U3n3b
  have H1n4 := hide U1n3c
  have H2n4 := hide U2n3c
  have H3n4 := hide U3n3c
  have H4n4 := hide V4x
  clear U1n3c U2n3c U3n3c V4x
  obtain ⟨x00, x01⟩ := H1n4.out.cells
  have xl0 := H1n4.out.lt
  obtain ⟨x10, x11⟩ := H2n4.out.cells
  have xl1 := H2n4.out.lt
  obtain ⟨x20, x21⟩ := H3n4.out.cells
  have xl2 := H3n4.out.lt
  obtain ⟨x30, x31⟩ := H4n4.out.cells
  have xl3 := H4n4.out.lt
  go_wp2_with fail
  obtain ⟨w6, hw⟩ : ∃ W : World, W = v4.alloc (.cells #[.slice A4 n4 c4, .slice D4 m4 d4] 27) := ⟨_, rfl⟩
  rw [← hw] at H1n4 H2n4 H3n4 H4n4 C4 x00 x01 xl0 x10 x11 xl1 x20 x21 xl2 x30 x31 xl3 ⊢
  clear hw
  have U1n4 := H1n4.out
  have U2n4 := H2n4.out
  have U3n4 := H3n4.out
  have U4n4 := H4n4.out
  clear H1n4 H2n4 H3n4 H4n4
  have hq1 := refSame_any A1 D1 A2 D2 n1 c1 m1 d1 n2 c2 m2 d2 T T w6 U1n4.at_ U2n4.at_
  rw [decide_eq_true (rfl : T = T)] at hq1
  have HQ1 := hide hq1
  have G3 := hide U3n4
  have G4 := hide U4n4
  clear hq1 U1n4 U2n4 U3n4 U4n4
  refine HQ1.out.mono ?_
  rintro e w7 ⟨rfl, hb⟩
  have C5 := C4.trans (hb.mono C4.size)
  have Z3 := G3.out.below hb rfl
  have Z4 := G4.out.below hb rfl
  have hq2 := refSame_any A3 D3 A4 D4 n3 c3 m3 d3 n4 c4 m4 d4 U U w7 Z3.at_ Z4.at_
  rw [decide_eq_true (rfl : U = U)] at hq2
  have HQ2 := hide hq2
  clear x00 x01 xl0 x10 x11 xl1 x20 x21 xl2 x30 x31 xl3
  obtain ⟨x20, x21⟩ := Z3.cells
  have xl2 := Z3.lt
  obtain ⟨x30, x31⟩ := Z4.cells
  have xl3 := Z4.lt
  clear hq2 Z3 Z4 G3 G4 HQ1 hb C4
  go_wp2_with fail
  refine HQ2.out.mono ?_
  rintro e w8 ⟨rfl, hb⟩
  go_wp2
  go_ret
  exact ⟨rfl, C5.trans (hb.mono C5.size)⟩
end Go.Proofs.YtibndkkbmgbogaaDoor
