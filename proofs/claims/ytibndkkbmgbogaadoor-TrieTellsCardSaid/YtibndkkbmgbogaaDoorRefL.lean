/- The reference's Least. Conditions: the trie's slices read as lists. -/
import Derived.Test.YtibndkkbmgbogaaDoorProg
import Derived.Test.YtibndkkbmgbogaaDoorBase
import Derived.Test.YtibndkkbmgbogaaDoorPut
import Derived.Test.YtibndkkbmgbogaaDoorRefR
import Derived.Test.YtibndkkbmgbogaaDoorLawT
import Derived.StillTailTactics
namespace Go.Proofs.YtibndkkbmgbogaaDoor
open Go Go.RowKit

set_option maxRecDepth 100000 in
set_option maxHeartbeats 2000000 in
theorem refLeast_any (A A' : Option Addr) (n c n' c' : Nat) (T : Tr) (w : World) (ht : TrAt w w.heap.size A n A' n' T) :
    Calls Tryd.prog 24 #[.agg #[.slice A n c, .slice A' n' c']] w (Out w (leastB T).1 (leastB T).2) := by
  have hW := ht.alloc (Nat.le_refl _) (.cells #[.slice A n c, .slice A' n' c'] 27)
  have hW2 := hW.alloc (Nat.le_refl _) (.cells #[.slice none 0 0, .slice none 0 0] 27)
  have hb2 : Below w.heap.size w ((w.alloc (.cells #[.slice A n c, .slice A' n' c'] 27)).alloc (.cells #[.slice none 0 0, .slice none 0 0] 27)) := ((Below.refl _ _).alloc (Nat.le_refl _) _).alloc (by simp) _
  have kB := (Blk.new w 27 #[.slice A n c, .slice A' n' c']).alloc (.cells #[.slice none 0 0, .slice none 0 0] 27)
  have kR := Blk.new (w.alloc (.cells #[.slice A n c, .slice A' n' c'] 27)) 27 #[.slice none 0 0, .slice none 0 0]
  rw [World.size_alloc] at kR
  cases hR : T.rightB
  · have HB := hide (show (leastB T).1 = ⟨[], []⟩ ∧ (leastB T).2 = 50 by unfold leastB; rw [if_neg (by simp [hR])]; exact ⟨rfl, rfl⟩)
    go_enter Tryd.func24, Tryd.ntmps24
    go_wp2_with fail
    refine (refRight_any A A' n c n' c' T _ hW2).mono ?_
    rintro e w1 ⟨he, hb1⟩
    rw [hR] at he
    subst he
    have kR1 : Blk w1 (w.heap.size + 1) 27 _ := (hb1.block _ (by simp)).trans kR
    have r0 := kR1.cell 0
    have r1 := kR1.cell 1
    have rf0 := kR1.frozen 0
    have rf1 := kR1.frozen 1
    have rl := kR1.lt
    simp only [List.getElem?_toArray, List.getElem?_cons_zero, List.getElem?_cons_succ] at r0 r1
    go_wp2_with fail
    have kE := (kR1.set_ 0 (.slice none 0 0)).set_ 1 (.slice none 0 0)
    refine bodyPost_ret (results_cell_row_tmp rfl _ _ (w.heap.size + 1) 27 _ _ _ rfl kE Tryd.underlying27 rfl (by kernel_rfl)) rfl ?_
    rw [HB.out.1, HB.out.2]
    refine ⟨none, 0, 0, none, 0, 0, rfl, ⟨⟨rfl, by omega, fun h => by omega⟩, [], ⟨rfl, by omega, fun h => by omega⟩, rfl, fun i h => by cases h⟩, Nat.le_refl _, Nat.le_refl _, ?_⟩
    exact ((hb2.trans (hb1.mono (by simp; omega))).setCell (p := ⟨w.heap.size + 1, 0, none⟩) (by show w.heap.size ≤ w.heap.size + 1; omega) _).setCell (p := ⟨w.heap.size + 1, 1, none⟩) (by show w.heap.size ≤ w.heap.size + 1; omega) _
  · obtain ⟨hl, hix⟩ := Tr.right_ix hR
    have HL := hide hl
    have HIX := hide hix
    clear hl hix
    go_enter Tryd.func24, Tryd.ntmps24
    go_wp2_with fail
    refine (refRight_any A A' n c n' c' T _ hW2).mono ?_
    rintro e w1 ⟨he, hb1⟩
    rw [hR] at he
    subst he
    have kR1 : Blk w1 (w.heap.size + 1) 27 _ := (hb1.block _ (by simp)).trans kR
    have kB1 : Blk w1 w.heap.size 27 _ := (hb1.block _ (by simp; omega)).trans kB
    have bl := kB1.lt
    have rl := kR1.lt
    go_wp2_with fail
    obtain ⟨W0, hW0⟩ : ∃ W0 : World, W0 = w1.alloc (.cells #[.slice none 0 0, .slice none 0 0] 27) := ⟨_, rfl⟩
    have hsz : w1.heap.size + 1 ≤ W0.heap.size := by rw [hW0]; simp
    have hbW : Below w1.heap.size w1 W0 := by rw [hW0]; exact (Below.refl _ _).alloc (Nat.le_refl _) _
    have kU0 : Blk W0 w1.heap.size 27 #[.slice none 0 0, .slice none 0 0] := by rw [hW0]; exact Blk.new _ _ _
    have hb0W : Below w.heap.size w W0 := hb2.trans ((hb1.mono (by simp; omega)).trans (hbW.mono (by omega)))
    have kR0 : Blk W0 (w.heap.size + 1) 27 #[.slice none 0 0, .slice none 0 0] := (hbW.block _ rl).trans kR1
    have kB0 : Blk W0 w.heap.size 27 #[.slice A n c, .slice A' n' c'] := (hbW.block _ bl).trans kB1
    rw [← hW0]
    clear hW0
    have HN := hide ht.ix.int_len
    have hnn : n = 4352 := ht.ix.int_len.symm.trans HL.out
    have hn5 : 4352 ≤ n := by omega
    clear hnn
    have HT := hide ht
    obtain ⟨rowsT, hRT⟩ : ∃ rowsT, rowsT = T.ix.map (fun m => T.bl.getD m.toNat []) := ⟨_, rfl⟩
    have hRl : rowsT.length = 4352 := by rw [hRT, List.length_map]; exact HL.out
    have HRT := hide hRT
    have HRL := hide hRl
    clear hRT hRl ht hW hW2 kB kR hb2 hb1 kR1 kB1
    go_loopw [5] (fun i wr => ∃ (k : Nat) (vi vb : Value) (U : Tr), k ≤ 4352 ∧ i = .int .i64 k ∧ U = addAll ⟨[], []⟩ (rowsT.take k) ∧ Ow wr W0.heap.size vi vb U ∧ U.ix.length ≤ k ∧ U.bl.length ≤ k ∧ Blk wr w1.heap.size 27 #[vi, vb] ∧ Kept W0.heap.size w1.heap.size w1.heap.size W0 wr) (fun i _ => 4352 - (intOf i).toNat)
    case atStart => exact ⟨0, _, _, _, Nat.zero_le _, rfl, by simp [addAll], Ow.nil _ _, Nat.le_refl _, Nat.le_refl _, kU0, ⟨rfl, rfl, rfl, Nat.le_refl _, fun _ _ _ _ => rfl⟩⟩
    case round =>
      obtain ⟨k, vi, vb, U, hk, rfl, hU, hO, hu1, hu2, hkU, hK⟩ := hrel
      have HU := hide hU
      have HO1 := hide hO
      clear hU hO
      have hbr : Below w.heap.size w wr := hb0W.trans (hK.below (by omega) (by omega) (by omega))
      have hsr := hK.size
      by_cases hlt : k < 4352
      · have hkl : k < T.ix.length := by rw [HL.out]; exact hlt
        obtain ⟨b, o, hA, hbl, c0⟩ := (HT.out.below hbr).ix.int hkl
        subst hA
        obtain ⟨m, hm, hml⟩ := HIX.out k hkl
        rw [hm] at c0
        obtain ⟨b', o', A2, n2, c2, hA', hbl', c1, hrow⟩ := (HT.out.below hbr).bl.row hml
        subst hA'
        have hn2 : n2 = 256 := by rw [← hrow.int_len]; exact (Tr.right_bl hR m hml).1
        subst hn2
        have hrow' := hrow.more hbr.size
        obtain ⟨b2, o2, hA2, hbl2, hcc⟩ := hrow.2.2 (by omega)
        subst hA2
        have kBr : Blk wr w.heap.size 27 _ := (hK.block _ (by omega) (by omega) (by omega)).trans kB0
        have b0 := kBr.cell 0
        have b1 := kBr.cell 1
        have u0 := hkU.cell 0
        have u1 := hkU.cell 1
        have uf0 := hkU.frozen 0
        have uf1 := hkU.frozen 1
        simp only [List.getElem?_toArray, List.getElem?_cons_zero, List.getElem?_cons_succ] at b0 b1 u0 u1
        have hn' : n' = T.bl.length := HT.out.bl.len.symm
        have hmn : m < n' := by omega
        clear hn'
        have hlen2 : (T.bl[m]).length = 256 := (Tr.right_bl hR m hml).1
        have HX := hide (show T.bl[m] = T.bl.getD m [] from (getD_get hml []).symm)
        generalize T.bl[m] = x at *
        have HLEN := hide hlen2
        have HM := hide hm
        have HKU := hide hkU
        have hne : vi.ownBlock ≠ some b2 := fun e => by have := (HO1.out.ix.lt _ e).1; omega
        have HNE := hide hne
        clear hlen2 hm hrow hcc hkU hne
        have hkn : k < n := by omega
        go_wp2_with fail
        go_still_tail 10, (by kernel_rfl)
        change wpList _ _ _ _ _ wr.drew
        go_wp2_with fail
        refine (put_any W0.heap.size vi vb U x b2 o2 c2 wr.drew (HO1.out.grow ⟨rfl, rfl, rfl, Nat.le_refl _, fun _ _ _ => rfl⟩) hsr HLEN.out (show Rds wr.drew wr.drew.heap.size 1 _ _ _ from hrow') HNE.out (by omega) (by omega)).mono ?_
        rintro e w2 ⟨vi2, vb2, rfl, hO2, hb3⟩
        have hv1 : (U.add x).ix.length ≤ k + 1 := by unfold Tr.add; split <;> simp <;> omega
        have hv2 : (U.add x).bl.length ≤ k + 1 := by unfold Tr.add; split <;> simp <;> omega
        obtain ⟨A3, n3, c3, A4, n4, c4, rfl, rfl, h3c, h4c, _⟩ := hO2.rows (by omega) (by omega)
        have k2 : Blk w2 w1.heap.size 27 #[vi, vb] := (hb3.block _ (by omega)).trans HKU.out
        have s0 := k2.cell 0
        have s1 := k2.cell 1
        have sf0 := k2.frozen 0
        have sf1 := k2.frozen 1
        have sl := k2.lt
        simp only [List.getElem?_toArray, List.getElem?_cons_zero, List.getElem?_cons_succ] at s0 s1
        have HO2 := hide hO2
        have HK2 := hide (hK.trans ((Kept.of_below (drewN_below _ _ 1)).trans (Kept.of_below hb3 : Kept W0.heap.size w1.heap.size w1.heap.size wr.drew w2)))
        clear u0 u1 uf0 uf1 b0 b1 c0 c1 hO2
        go_wp2
        go_roundw
        case rel =>
          have m1 := HO2.out.store k2 0 (.slice A3 n3 c3)
          have k3 := k2.set_ 0 (.slice A3 n3 c3)
          have m2 := m1.store k3 1 (.slice A4 n4 c4)
          have k4 := k3.set_ 1 (.slice A4 n4 c4)
          refine ⟨k + 1, .slice A3 n3 c3, .slice A4 n4 c4, U.add x, by omega, by go_num, ?_, m2, hv1, hv2, k4, ?_⟩
          · rw [HU.out, ← addAll_snoc]
            congr 1
            have hkr : k < rowsT.length := by rw [HRL.out]; exact hlt
            rw [List.take_succ_eq_append_getElem hkr]
            congr 2
            have : rowsT[k] = T.bl.getD T.ix[k].toNat [] := by simp only [HRT.out, List.getElem_map]
            rw [this, HM.out, Int.toNat_natCast, HX.out]
          · have hs2 := HK2.out.size
            exact HK2.out.trans ((Kept.grown (grownBy_setCell w2 w1.heap.size 0 (.slice A3 n3 c3)) hs2 (fun k e => by cases e; exact .inr (.inl rfl))).trans (Kept.grown (grownBy_setCell (w2.setCell ⟨w1.heap.size, 0, none⟩ (.slice A3 n3 c3)) w1.heap.size 1 (.slice A4 n4 c4)) (by simp; exact hs2) (fun k e => by cases e; exact .inr (.inl rfl))))
        case measure => simp [intOf]; omega
      · obtain rfl : k = 4352 := by omega
        obtain ⟨A1, n1, c1, A2, n2, c2, rfl, rfl, h1c, h2c, htt⟩ := HO1.out.rows (by omega) (by omega)
        have kRr : Blk wr (w.heap.size + 1) 27 _ := (hK.block _ (by omega) (by omega) (by omega)).trans kR0
        have s0 := kRr.frozen 0
        have s1 := kRr.frozen 1
        have t0 := kRr.cell 0
        have t1 := kRr.cell 1
        have tl := kRr.lt
        have u0 := hkU.cell 0
        have u1 := hkU.cell 1
        have ul := hkU.lt
        simp only [List.getElem?_toArray, List.getElem?_cons_zero, List.getElem?_cons_succ] at t0 t1 u0 u1
        go_wp2
        have hW : addAll ⟨[], []⟩ rowsT = U := by
          rw [HU.out, List.take_of_length_le (by rw [HRL.out]; exact Nat.le_refl _)]
        have hlb : leastB T = (U, 0) := by
          unfold leastB
          rw [if_pos hR, ← HRT.out, hW]
        rw [hlb]
        have m1 := HO1.out.store kRr 0 (.slice A1 n1 c1)
        have k3 := kRr.set_ 0 (.slice A1 n1 c1)
        have m2 := m1.store k3 1 (.slice A2 n2 c2)
        have k4 := k3.set_ 1 (.slice A2 n2 c2)
        refine bodyPost_ret (results_cell_row_tmp rfl _ _ (w.heap.size + 1) 27 _ _ _ rfl k4 Tryd.underlying27 rfl (by kernel_rfl)) rfl ?_
        obtain ⟨A3, n3, c3, A4, n4, c4, e3, e4, h3c, h4c, ht'⟩ := m2.rows (by omega) (by omega)
        injection e3 with e3a e3b e3c
        injection e4 with e4a e4b e4c
        subst e3a e3b e3c e4a e4b e4c
        refine ⟨A1, n1, c1, A2, n2, c2, rfl, ht', h1c, h2c, ?_⟩
        exact (hbr.setCell (p := ⟨w.heap.size + 1, 0, none⟩) (by show w.heap.size ≤ w.heap.size + 1; omega) _).setCell (p := ⟨w.heap.size + 1, 1, none⟩) (by show w.heap.size ≤ w.heap.size + 1; omega) _
end Go.Proofs.YtibndkkbmgbogaaDoor
