/- The walks of the law's back and of the law PackBack. Conditions: the packages' variables hold what they hold; the slices read as lists, and lie within their capacities. -/
import Derived.Test.YtibndkkbmgbogaaDoorPShown
import Derived.Test.YtibndkkbmgbogaaDoorPLoadL
import Derived.Test.YtibndkkbmgbogaaDoorPBound
import Derived.Test.YtibndkkbmgbogaaDoorTwoLeast
import Derived.Test.YtibndkkbmgbogaaDoorTable
import Derived.Outline
namespace Go.Proofs.YtibndkkbmgbogaaDoor
open Go Go.RowKit

set_option maxRecDepth 100000 in
set_option maxHeartbeats 2000000 in
theorem back_any (A A' : Option Addr) (n c n' c' B : Nat) (T : Tr) (z : Value) (w : World) (ht : TrAt w w.heap.size A n A' n' T) (hE : PEnv w B z) (hB : B ≤ w.heap.size) (hT : T.rightB = true) (h300 : T.bl.length ≤ 300) :
    Calls Tryd.prog 43 #[.agg #[.slice A n c, .slice A' n' c']] w (Freed w (.bool true)) := by
  have hpb : packedB T = (packB T, 0) := by
    unfold packedB
    rw [if_pos hT, if_pos h300]
  have hl := load_pack T hT h300
  have hlen := packB_len T
  have hlen2 := len_all T hT h300
  have hp := fun w ht hE hB => packPack_any A A' n c n' c' B T z w ht hE hB
  have hsz := fun w ht hE hB => size_any A A' n c n' c' B T z w ht hE hB
  have hld := fun w hE hB => packLoad_any ⟨(packB T).toArray⟩ B z w hE hB (by rw [size_list]; simp only; omega)
  rw [hpb] at hp hsz
  rw [hl] at hld
  have hs : (⟨(packB T).toArray⟩ : ByteArray).size = (packB T).length := by rw [size_list]
  simp only at hsz
  rw [← hs] at hsz
  have hs2 : (⟨(packB T).toArray⟩ : ByteArray).size ≤ 1000000 := by omega
  clear hl hlen hlen2 hpb hs hT h300
  generalize (⟨(packB T).toArray⟩ : ByteArray) = s at *
  have HP := hide hp
  have HS := hide hsz
  have HL := hide hld
  have HE := hide hE
  clear hp hsz hld hE
  have v1 := TrVar.new ht c c'
  have hb1 : Below w.heap.size w (w.alloc (.cells #[.slice A n c, .slice A' n' c'] 27)) := (Below.refl _ _).alloc (Nat.le_refl _) _
  clear ht
  go_enter Tryd.func43, Tryd.ntmps43
  go_wp2_with fail
  obtain ⟨w1, hw1⟩ : ∃ w1 : World, w1 = w.alloc (.cells #[.slice A n c, .slice A' n' c'] 27) := ⟨_, rfl⟩
  rw [← hw1] at v1 hb1 ⊢
  clear hw1
  refine (HP.out w1 v1.at_ (HE.out.below (hb1.mono hB)) (by have := hb1.size; omega)).mono ?_
  rintro e w2 ⟨rfl, hb2⟩
  have hb02 := hb1.trans (hb2.mono hb1.size)
  have v2 := v1.below hb2 rfl
  clear v1 hb1 hb2
  have HV2 := hide v2
  obtain ⟨x0, x1⟩ := v2.cells
  have xl := v2.lt
  clear v2
  go_wp2_with fail
  refine (HL.out w2 (HE.out.below (hb02.mono hB)) (by have := hb02.size; omega)).mono ?_
  rintro e w3 ⟨A3, n3, c3, A4, n4, c4, rfl, hu, _, _, hb3⟩
  have hb03 := hb02.trans (hb3.mono hb02.size)
  have v3 := HV2.out.below hb3 rfl
  have u3 := TrVar.new hu c3 c4
  have hb4 : Below w3.heap.size w3 (w3.alloc (.cells #[.slice A3 n3 c3, .slice A4 n4 c4] 27)) := (Below.refl _ _).alloc (Nat.le_refl _) _
  have v4 := v3.below hb4 rfl
  obtain ⟨x0, x1⟩ := v3.cells
  have xl := v3.lt
  have HV := hide (And.intro v4 u3)
  clear HV2 hb02 hb3 v3 u3 v4 hu x0 x1 xl
  obtain ⟨x0, x1⟩ := HV.out.1.cells
  have xl := HV.out.1.lt
  obtain ⟨y0, y1⟩ := HV.out.2.cells
  have hb04 := hb03.trans (hb4.mono hb03.size)
  clear hb03 hb4
  go_wp2_with fail
  obtain ⟨w4, hw4⟩ : ∃ w4 : World, w4 = w3.alloc (.cells #[.slice A3 n3 c3, .slice A4 n4 c4] 27) := ⟨_, rfl⟩
  rw [← hw4] at HV hb04 x0 x1 xl y0 y1 ⊢
  clear hw4
  refine (HS.out w4 HV.out.1.at_ (HE.out.below (hb04.mono hB)) (by have := hb04.size; omega)).mono ?_
  rintro e w5 ⟨rfl, hb5⟩
  have hb05 := hb04.trans (hb5.mono hb04.size)
  have v5 := HV.out.1.below hb5 rfl
  have u5 := HV.out.2.below hb5 rfl
  clear x0 x1 xl y0 y1 hb04 hb5 HV
  have hsm := sameTr_any A A' A3 A4 n c n' c' n3 c3 n4 c4 T T w5 v5.at_ u5.at_
  rw [decide_eq_true (rfl : T = T)] at hsm
  obtain ⟨x0, x1⟩ := v5.cells
  have xl := v5.lt
  obtain ⟨y0, y1⟩ := u5.cells
  have yl := u5.lt
  clear v5 u5
  go_wp2_with fail
  refine hsm.mono ?_
  rintro e w6 ⟨rfl, hb6⟩
  go_wp2
  go_ret
  exact ⟨rfl, hb05.trans (hb6.mono hb05.size)⟩

set_option maxRecDepth 100000 in
set_option maxHeartbeats 4000000 in
theorem packBack_any {a0 a1 : Addr} (A0 : Option Addr) (n0 c0 : Nat) (l : List Rg) (A A' : Option Addr) (n c n' c' : Nat) (T0 : Tr) (B : Nat) (z : Value) (w : World) (hE : PEnv w B z) (hB : B ≤ w.heap.size) (hE2 : Errs w w.heap.size a0 a1)
    (hc0 : n0 ≤ c0) (hr0 : Rds w w.heap.size 3 A0 n0 (rgCells l)) (hc : n ≤ c) (hix : Rds w w.heap.size 1 A n (intCells T0.ix)) (hbl : RowsC w w.heap.size A' n' T0.bl) :
    Calls Tryd.prog 13 #[.slice A0 n0 c0, .agg #[.slice A n c, .slice A' n' c']] w (Freed w (.bool true)) := by
  go_enter Tryd.func13, Tryd.ntmps13
  have hb0 : Below w.heap.size w (w.alloc (.cells #[.slice A n c, .slice A' n' c'] 27)) := (Below.refl _ _).alloc (Nat.le_refl _) _
  have kB := Blk.new w 27 #[.slice A n c, .slice A' n' c']
  have hh := fun w' (hb : Below w.heap.size w w') => And.intro (hE.below (hb.mono hB)) (And.intro ((hE2.below hb).more hb.size) (And.intro ((hr0.below hb).more hb.size) (And.intro (hix.below hb) (hbl.below hb))))
  have HH := hide hh
  have hm0 := hr0.2.1
  have hA0 : 0 < n0 → ∃ b o, A0 = some ⟨b, o, none⟩ := fun h => by obtain ⟨b, o, e, _⟩ := hr0.2.2 h; exact ⟨b, o, e⟩
  clear hh hE hE2 hr0 hix hbl
  go_wp2_with fail
  obtain ⟨w1, hw1⟩ : ∃ w1 : World, w1 = w.alloc (.cells #[.slice A n c, .slice A' n' c'] 27) := ⟨_, rfl⟩
  rw [← hw1] at hb0 kB ⊢
  clear hw1
  refine (packShown_any B z w1 (HH.out w1 hb0).1 (by have := hb0.size; omega)).mono ?_
  rintro e w2 ⟨rfl, hb2⟩
  have hb02 := hb0.trans (hb2.mono hb0.size)
  have kB2 := kB.below hb2 kB.lt
  clear kB hb2 hb0
  go_wp2_with fail
  refine (few_any A0 n0 c0 w2 hc0 hm0 hA0).mono ?_
  rintro e _ ⟨rfl, rfl⟩
  go_wp2_with fail
  refine (build_keep A0 (min n0 20) c0 (l.take 20) w2 (HH.out w2 hb02).2.1 (by omega) ((HH.out w2 hb02).2.2.1.take 20)).mono ?_
  rintro e w3 ⟨A1, n1, c1, A2, n2, c2, rfl, ht, hc1, hc2, hb3, hkp⟩
  have hb03 := hb02.trans (hb3.mono hb02.size)
  have kB3 := kB2.below hb3 kB2.lt
  have kBl := kB3.lt
  generalize hbt : builtB (l.take 20) = bt at *
  obtain ⟨U, k1⟩ := bt
  simp only at ht hkp ⊢
  have HBT := hide hbt
  have HKP := hide (fun w' => hkp w.heap.size w' kB2.lt)
  have u3 := TrVar.new ht c1 c2
  have hb4 : Below w3.heap.size w3 (w3.alloc (.cells #[.slice A1 n1 c1, .slice A2 n2 c2] 27)) := (Below.refl _ _).alloc (Nat.le_refl _) _
  have kB4 := kB3.alloc (.cells #[.slice A1 n1 c1, .slice A2 n2 c2] 27)
  have KB4 := hide kB4
  have HU := hide u3
  have p0 := kB3.cell 0
  have p1 := kB3.cell 1
  simp only [List.getElem?_toArray, List.getElem?_cons_zero, List.getElem?_cons_succ] at p0 p1
  clear ht kB4 kB3 kB2 hbt u3 hb3 hb02 hkp
  go_wp2_with fail
  obtain ⟨w4, hw4⟩ : ∃ w4 : World, w4 = w3.alloc (.cells #[.slice A1 n1 c1, .slice A2 n2 c2] 27) := ⟨_, rfl⟩
  rw [← hw4] at HU hb4 KB4 ⊢
  clear hw4
  have hb04 := hb03.trans (hb4.mono hb03.size)
  refine (table_any A A' n c n' c' w.heap.size T0 w4 hb04.size (HH.out w4 hb04).2.2.2.1 hc (HH.out w4 hb04).2.2.2.2).mono ?_
  rintro e w5 ⟨A3, n3, c3, A4, n4, c4, rfl, ht, h3c, h4c, hb5, hkeep⟩
  have h30 : (tableB T0).bl.length ≤ 30 := by unfold tableB; simp; omega
  generalize tableB T0 = T at *
  have hb05 := hb04.trans (hb5.mono hb04.size)
  have hb35 := hb4.trans (hb5.mono hb4.size)
  have kB5 : Blk w5 w.heap.size 27 _ := KB4.out.below hb5 KB4.out.lt
  have u5 := HU.out.below hb5 rfl
  have hgu : w.heap.size ≠ w3.heap.size := by have := kBl; omega
  have m1 := grownBy_setCell w5 w.heap.size 0 (.slice A3 n3 c3)
  have m2 := grownBy_setCell (w5.setCell ⟨w.heap.size, 0, none⟩ (.slice A3 n3 c3)) w.heap.size 1 (.slice A4 n4 c4)
  have kB6 := (kB5.set_ 0 (.slice A3 n3 c3)).set_ 1 (.slice A4 n4 c4)
  have hb06 : Below w.heap.size w ((w5.setCell ⟨w.heap.size, 0, none⟩ (.slice A3 n3 c3)).setCell ⟨w.heap.size, 1, none⟩ (.slice A4 n4 c4)) := (hb05.grown m1 hb05.size (fun k e => by cases e; exact Nat.le_refl _)).grown m2 (by simp; exact hb05.size) (fun k e => by cases e; exact Nat.le_refl _)
  obtain ⟨w6, hw6⟩ : ∃ w6 : World, w6 = (w5.setCell ⟨w.heap.size, 0, none⟩ (.slice A3 n3 c3)).setCell ⟨w.heap.size, 1, none⟩ (.slice A4 n4 c4) := ⟨_, rfl⟩
  have hgw : w5.grownBy w6 (some w.heap.size) := by rw [hw6]; exact ⟨rfl, rfl, rfl, by simp, fun k hk hne => (m2.block k (by simpa using hk) hne).trans (m1.block k hk hne)⟩
  have hgw3 : w3.grownBy w6 (some w.heap.size) := ⟨hgw.os.trans hb35.os, hgw.tape.trans hb35.tape, hgw.output.trans hb35.output, Nat.le_trans hb35.size hgw.size, fun k hk hne => (hgw.block k (Nat.lt_of_lt_of_le hk hb35.size) hne).trans (hb35.block k hk)⟩
  have ht6 := hkeep w.heap.size w6 (Nat.le_refl _) (KB4.out.lt) hgw
  have hu6 := HKP.out w6 hgw3
  have hub : Blk w6 w3.heap.size 27 #[.slice A1 n1 c1, .slice A2 n2 c2] := (u5.blk).grown hgw (fun e => hgu (Option.some.inj e).symm)
  obtain ⟨z0, z1⟩ := u5.cells
  have zl := u5.lt
  have hgu' := hgu.symm
  have k3 := kB5.cell 0
  have k4 := kB5.cell 1
  have kf3 := kB5.frozen 0
  have kf4 := kB5.frozen 1
  have kl3 := kB5.lt
  simp only [List.getElem?_toArray, List.getElem?_cons_zero, List.getElem?_cons_succ] at k3 k4
  have HVT : Hid (TrVar w6 w.heap.size A3 n3 c3 A4 n4 c4 T) := hide ⟨by rw [hw6]; exact kB6, ht6⟩
  have HVU : Hid (TrVar w6 w3.heap.size A1 n1 c1 A2 n2 c2 U) := hide ⟨hub, hu6⟩
  rw [← hw6] at hb06
  clear ht hkeep ht6 hu6 hub u5 HU KB4 kB6 m1 m2 hgw hgw3 p0 p1 HKP hb35 hb03 hb4 hb5 hb05 hb04 kB5
  have hB6 := hb06.size
  have hr1 := fun (h : T.rightB = true) w' ht' hE' hB' => back_any A3 A4 n3 c3 n4 c4 B T z w' ht' hE' hB' h (by omega)
  have hrt := fun w' ht' => trieRight_any A3 A4 n3 c3 n4 c4 T w' ht'
  have HR1 := hide hr1
  clear hr1 h30
  cases hrl : rightB (l.take 20) with
  | true =>
    have hbq := HBT.out
    rw [built_of hrl] at hbq
    rw [Prod.mk.injEq] at hbq
    obtain ⟨hU, rfl⟩ := hbq
    have hUR := hide (show U.rightB = true by rw [← hU]; exact trOf_right hrl)
    have hU3 := hide (show U.bl.length ≤ 300 by
      rw [← hU]
      have := trOf_few hrl
      have h2 : (l.take 20).length ≤ 20 := by rw [List.length_take]; omega
      omega)
    clear hU HBT hrl
    go_wp2_with fail
    rw [← hw6]
    clear hw6 k3 k4 kf3 kf4 kl3 z0 z1 zl
    refine (back_any A1 A2 n1 c1 n2 c2 B U z w6 HVU.out.at_ (HH.out w6 hb06).1 (by omega) hUR.out hU3.out).mono ?_
    rintro e w7 ⟨rfl, hb7⟩
    have HB7 := hb06.trans (hb7.mono hb06.size)
    have V7 := HVT.out.below hb7 rfl
    clear hb06 hb7 hUR hU3 HVT HVU
    obtain ⟨x0, x1⟩ := V7.cells
    have xl := V7.lt
    go_wp2_with fail
    refine (hrt w7 V7.at_).mono ?_
    rintro e w8 ⟨rfl, hb8⟩
    have hb08 := HB7.trans (hb8.mono HB7.size)
    have v8 := V7.below hb8 rfl
    have HV8 := hide v8
    clear x0 x1 xl
    obtain ⟨x0, x1⟩ := v8.cells
    have xl := v8.lt
    clear v8 hrt
    cases hTR : T.rightB with
    | true =>
      have HTR := hide hTR
      clear hTR
      go_wp2_with fail
      refine (HR1.out HTR.out w8 HV8.out.at_ (HH.out w8 hb08).1 (by have := hb08.size; omega)).mono ?_
      rintro e w9 ⟨rfl, hb9⟩
      go_wp2
      go_ret
      exact ⟨rfl, hb08.trans (hb9.mono hb08.size)⟩
    | false =>
      go_wp2
      go_ret
      exact ⟨rfl, hb08⟩
  | false =>
    have hbq := HBT.out
    rw [built_neg hrl] at hbq
    rw [Prod.mk.injEq] at hbq
    obtain ⟨_, rfl⟩ := hbq
    clear HBT hrl
    have V7 := HVT.out
    have HB7 := hb06
    go_wp2_with fail
    rw [← hw6]
    clear hw6 k3 k4 kf3 kf4 kl3 z0 z1 zl
    refine (hrt w6 V7.at_).mono ?_
    rintro e w8 ⟨rfl, hb8⟩
    have hb08 := HB7.trans (hb8.mono HB7.size)
    have v8 := V7.below hb8 rfl
    have HV8 := hide v8
    obtain ⟨x0, x1⟩ := v8.cells
    have xl := v8.lt
    clear v8 hrt
    cases hTR : T.rightB with
    | true =>
      have HTR := hide hTR
      clear hTR
      go_wp2_with fail
      refine (HR1.out HTR.out w8 HV8.out.at_ (HH.out w8 hb08).1 (by have := hb08.size; omega)).mono ?_
      rintro e w9 ⟨rfl, hb9⟩
      go_wp2
      go_ret
      exact ⟨rfl, hb08.trans (hb9.mono hb08.size)⟩
    | false =>
      go_wp2
      go_ret
      exact ⟨rfl, hb08⟩
end Go.Proofs.YtibndkkbmgbogaaDoor
