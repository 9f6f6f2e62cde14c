/- The least trie of a trie: the program's trie.Least; which tries are the same: trie.Same, span.Same. Conditions: the tries' slices read as lists; the package's two error variables hold two different errors. -/
import Derived.Test.YtibndkkbmgbogaaDoorProg
import Derived.Test.YtibndkkbmgbogaaDoorBase
import Derived.Test.YtibndkkbmgbogaaDoorEq
import Derived.Test.YtibndkkbmgbogaaDoorRight
import Derived.Test.YtibndkkbmgbogaaDoorTold
import Derived.Test.YtibndkkbmgbogaaDoorAdd
import Derived.Test.YtibndkkbmgbogaaDoorBuild
import Derived.Test.YtibndkkbmgbogaaDoorLawA
import Derived.Deep.MidRow
import Derived.Outline
namespace Go.Proofs.YtibndkkbmgbogaaDoor
open Go Go.RowKit

set_option maxHeartbeats 800000 in
/-- slices.EqualFunc of two lists of lists by slices.Equal -/
theorem equalRows_any (A A' : Option Addr) (n c n' c' : Nat) (l m : List (List Int)) (w : World) (hr : Rows w w.heap.size A n l) (hr' : Rows w w.heap.size A' n' m) :
    Calls Tryd.prog 50 #[.slice A n c, .slice A' n' c', .func (.func 49) #[] #[]] w (Quiet w (.bool (decide (l = m)))) := by
  have hl := hr.len
  have hl' := hr'.len
  have hm := hr.max
  subst hl; subst hl'
  by_cases hlen : l.length = m.length
  · have hne : (((l.length : Nat) : Int) != (m.length : Int)) = false := by simp [hlen]
    have HL := hide hlen
    clear hlen
    go_enter Tryd.func50, Tryd.ntmps50
    go_wp2
    go_loopw [17] (fun i wr => ∃ (k : Nat), k ≤ l.length ∧ i = .int .i64 k ∧ decide (l = m) = decide (l.drop k = m.drop k) ∧ ∃ q, wr = w.drewN q) (fun i _ => l.length - (intOf i).toNat)
    case atStart => exact ⟨0, Nat.zero_le _, rfl, rfl, 0, rfl⟩
    case round =>
      obtain ⟨k, hk, rfl, hg, q, rfl⟩ := hrel
      have HG := hide hg
      clear hg
      by_cases hlt : k < l.length
      · have hlt' : k < m.length := by have := HL.out; omega
        obtain ⟨b, o, A2, n2, c2, rfl, hbl, c0, hrow⟩ := hr.row hlt
        obtain ⟨b', o', A2', n2', c2', rfl, hbl', c0', hrow'⟩ := hr'.row hlt'
        have HD := hide (dec_drop HG.out (drop_cons hlt) (drop_cons hlt'))
        generalize l[k] = x at hrow HD
        generalize m[k] = y at hrow' HD
        by_cases hxy : x = y
        · have HE := hide (HD.out.1 hxy)
          clear HD
          have HXY := hide hxy
          have hd : decide (x = y) = true := decide_eq_true hxy
          clear hxy
          have HDD := hide hd
          clear hd
          go_wp2_with fail
          refine (equalInts_any A2 A2' n2 c2 n2' c2' x y _ (hrow.drewN _) (hrow'.drewN _)).mono ?_
          rintro e w1 ⟨rfl, q1, rfl⟩
          rw [HDD.out, World.drewN_drewN]
          go_wp2
          go_roundw
          case rel => exact ⟨k + 1, by omega, by go_num, HE.out, _, rfl⟩
          case measure => simp [intOf]; omega
        · have HE := hide (HD.out.2 hxy)
          clear HD
          have hd : decide (x = y) = false := decide_eq_false hxy
          clear hxy
          have HDD := hide hd
          clear hd
          go_wp2_with fail
          refine (equalInts_any A2 A2' n2 c2 n2' c2' x y _ (hrow.drewN _) (hrow'.drewN _)).mono ?_
          rintro e w1 ⟨rfl, q1, rfl⟩
          rw [HDD.out, World.drewN_drewN]
          go_wp2
          go_ret
          exact ⟨ret_bool HE.out.symm, _, rfl⟩
      · obtain rfl : k = l.length := by omega
        have HD := hide (dec_end HG.out rfl HL.out)
        go_wp2
        go_ret
        exact ⟨ret_bool HD.out.symm, _, rfl⟩
  · have hne : (((l.length : Nat) : Int) != (m.length : Int)) = true := by simp; omega
    have hlm : decide (l = m) = false := by simp; intro e; exact hlen (by rw [e])
    have HL := hide hlm
    clear hlm
    go_enter Tryd.func50, Tryd.ntmps50
    go_wp2
    go_ret
    exact ⟨ret_bool HL.out.symm, 0, rfl⟩

set_option maxHeartbeats 800000 in
theorem sameTr_any (A A' B B' : Option Addr) (n c n' c' m d m' d' : Nat) (T U : Tr) (w : World) (ht : TrAt w w.heap.size A n A' n' T) (hu : TrAt w w.heap.size B m B' m' U) :
    Calls Tryd.prog 19 #[.agg #[.slice A n c, .slice A' n' c'], .agg #[.slice B m d, .slice B' m' d']] w fun e w' => e = .returned (.bool (decide (T = U))) ∧ Below w.heap.size w w' := by
  have ht1 := (ht.alloc (Nat.le_refl _) (.cells #[.slice A n c, .slice A' n' c'] 27)).alloc (Nat.le_refl _) (.cells #[.slice B m d, .slice B' m' d'] 27)
  have hu1 := (hu.alloc (Nat.le_refl _) (.cells #[.slice A n c, .slice A' n' c'] 27)).alloc (Nat.le_refl _) (.cells #[.slice B m d, .slice B' m' d'] 27)
  have hb := ((Below.refl w.heap.size w).alloc (Nat.le_refl _) (.cells #[.slice A n c, .slice A' n' c'] 27)).alloc (by simp) (.cells #[.slice B m d, .slice B' m' d'] 27)
  obtain ⟨T1, T2⟩ := T
  obtain ⟨U1, U2⟩ := U
  by_cases h1 : T1 = U1
  · have HD1 := hide (decide_eq_true h1)
    have HE := hide (show decide ((⟨T1, T2⟩ : Tr) = ⟨U1, U2⟩) = decide (T2 = U2) by simp [h1])
    clear h1
    go_enter Tryd.func19, Tryd.ntmps19
    go_wp2_with fail
    refine (equalInts_any A B n c m d T1 U1 _ ht1.ix hu1.ix).mono ?_
    rintro e w1 ⟨rfl, q, rfl⟩
    rw [HD1.out]
    go_wp2_with fail
    refine (equalRows_any A' B' n' c' m' d' T2 U2 _ (ht1.bl.drewN q) (hu1.bl.drewN q)).mono ?_
    rintro e w1 ⟨rfl, q1, rfl⟩
    go_wp2
    go_ret
    exact ⟨ret_bool HE.out.symm, below_drewN hb _⟩
  · have HD1 := hide (decide_eq_false h1)
    have HE := hide (show decide ((⟨T1, T2⟩ : Tr) = ⟨U1, U2⟩) = false by simp [h1])
    clear h1
    go_enter Tryd.func19, Tryd.ntmps19
    go_wp2_with fail
    refine (equalInts_any A B n c m d T1 U1 _ ht1.ix hu1.ix).mono ?_
    rintro e w1 ⟨rfl, q, rfl⟩
    rw [HD1.out]
    go_wp2
    go_ret
    exact ⟨ret_bool HE.out.symm, below_drewN hb _⟩

set_option maxHeartbeats 400000 in
theorem sameRgs_any (A A' : Option Addr) (n c n' c' : Nat) (l m : List Rg) (w : World) (hr : Rds w w.heap.size 3 A n (rgCells l)) (hr' : Rds w w.heap.size 3 A' n' (rgCells m)) :
    Calls Tryd.prog 20 #[.slice A n c, .slice A' n' c'] w (Quiet w (.bool (decide (l = m)))) := by
  go_enter Tryd.func20, Tryd.ntmps20
  go_wp2_with fail
  refine (equalRgs_any A A' n c n' c' l m _ hr hr').mono ?_
  rintro e w1 ⟨rfl, q, rfl⟩
  go_wp2
  go_ret
  exact ⟨rfl, _, rfl⟩

set_option maxRecDepth 100000 in
set_option maxHeartbeats 2000000 in
theorem least_any {a0 a1 : Addr} (A A' : Option Addr) (n c n' c' : Nat) (T : Tr) (w : World) (hE : Errs w w.heap.size a0 a1) (ht : TrAt w w.heap.size A n A' n' T) :
    Calls Tryd.prog 23 #[.agg #[.slice A n c, .slice A' n' c']] w (Out w (leastB T).1 (leastB T).2) := by
  have hW := ht.alloc (Nat.le_refl _) (.cells #[.slice A n c, .slice A' n' c'] 27)
  have hW2 := hW.alloc (Nat.le_refl _) (.cells #[.slice none 0 0, .slice none 0 0] 27)
  have hb2 : Below w.heap.size w ((w.alloc (.cells #[.slice A n c, .slice A' n' c'] 27)).alloc (.cells #[.slice none 0 0, .slice none 0 0] 27)) := ((Below.refl _ _).alloc (Nat.le_refl _) _).alloc (by simp) _
  have kB := (Blk.new w 27 #[.slice A n c, .slice A' n' c']).alloc (.cells #[.slice none 0 0, .slice none 0 0] 27)
  have kR := Blk.new (w.alloc (.cells #[.slice A n c, .slice A' n' c'] 27)) 27 #[.slice none 0 0, .slice none 0 0]
  rw [World.size_alloc] at kR
  cases hR : T.rightB
  · have HB := hide (show (leastB T).1 = ⟨[], []⟩ ∧ (leastB T).2 = 50 by unfold leastB; rw [if_neg (by simp [hR])]; exact ⟨rfl, rfl⟩)
    go_enter Tryd.func23, Tryd.ntmps23
    go_wp2_with fail
    refine (trieRight_any A A' n c n' c' T _ hW2).mono ?_
    rintro e w1 ⟨he, hb1⟩
    rw [hR] at he
    subst he
    have hE1 := (hE.below hb2).below (hb1.mono (by simp; omega))
    have kR1 : Blk w1 (w.heap.size + 1) 27 _ := (hb1.block _ (by simp)).trans kR
    have q0 := hE1.c1
    have r0 := kR1.cell 0
    have r1 := kR1.cell 1
    have rf0 := kR1.frozen 0
    have rf1 := kR1.frozen 1
    have rl := kR1.lt
    simp only [List.getElem?_toArray, List.getElem?_cons_zero, List.getElem?_cons_succ] at r0 r1
    go_wp2_with fail
    refine (toldTrie_any w1 hE1).mono ?_
    rintro e w2 ⟨rfl, rfl⟩
    go_wp2_with fail
    have kE := (kR1.set_ 0 (.slice none 0 0)).set_ 1 (.slice none 0 0)
    refine bodyPost_ret (results_cell_row_tmp rfl _ _ (w.heap.size + 1) 27 _ _ _ rfl kE Tryd.underlying27 rfl (by kernel_rfl)) rfl ?_
    rw [HB.out.1, HB.out.2]
    refine ⟨none, 0, 0, none, 0, 0, rfl, ⟨⟨rfl, by omega, fun h => by omega⟩, [], ⟨rfl, by omega, fun h => by omega⟩, rfl, fun i h => by cases h⟩, Nat.le_refl _, Nat.le_refl _, ?_⟩
    exact ((hb2.trans (hb1.mono (by simp; omega))).setCell (p := ⟨w.heap.size + 1, 0, none⟩) (by show w.heap.size ≤ w.heap.size + 1; omega) _).setCell (p := ⟨w.heap.size + 1, 1, none⟩) (by show w.heap.size ≤ w.heap.size + 1; omega) _
  · have hmm := @run_makeMap Tryd.prog
    obtain ⟨hl, hix⟩ := Tr.right_ix hR
    have HL := hide hl
    have HIX := hide hix
    clear hl hix
    go_enter Tryd.func23, Tryd.ntmps23
    go_wp2_with fail
    refine (trieRight_any A A' n c n' c' T _ hW2).mono ?_
    rintro e w1 ⟨he, hb1⟩
    rw [hR] at he
    subst he
    have kR1 : Blk w1 (w.heap.size + 1) 27 _ := (hb1.block _ (by simp)).trans kR
    have kB1 : Blk w1 w.heap.size 27 _ := (hb1.block _ (by simp; omega)).trans kB
    have b0 := kB1.cell 0
    have bl := kB1.lt
    have rl := kR1.lt
    simp only [List.getElem?_toArray, List.getElem?_cons_zero] at b0
    go_wp2_with fail
    obtain ⟨W0, hW0⟩ : ∃ W0 : World, W0 = (w1.alloc (.map #[] 0)).alloc (.cells #[.slice none 0 0, .slice none 0 0, .map (some w1.heap.size)] 69) := ⟨_, rfl⟩
    have hsz : W0.heap.size = w1.heap.size + 2 := by rw [hW0]; simp
    have hbW : Below w1.heap.size w1 W0 := by rw [hW0]; exact ((Below.refl _ _).alloc (Nat.le_refl _) _).alloc (by simp) _
    have k0 : W0.heap[w1.heap.size]? = some (.map #[] 0) := by
      rw [hW0]
      exact (Below.heap_alloc _ _ _ (by simp)).trans (World.alloc_heap_new w1 _)
    have k1 : Blk W0 (w1.heap.size + 1) 69 #[.slice none 0 0, .slice none 0 0, .map (some w1.heap.size)] := by
      rw [hW0]
      have := Blk.new (w1.alloc (.map #[] 0)) 69 #[.slice none 0 0, .slice none 0 0, .map (some w1.heap.size)]
      rwa [World.size_alloc] at this
    have hb0W : Below w.heap.size w W0 := hb2.trans ((hb1.mono (by simp; omega)).trans (hbW.mono (by omega)))
    have kR0 : Blk W0 (w.heap.size + 1) 27 #[.slice none 0 0, .slice none 0 0] := (hbW.block _ rl).trans kR1
    have kB0 : Blk W0 w.heap.size 27 #[.slice A n c, .slice A' n' c'] := (hbW.block _ bl).trans kB1
    have hB0 : Bld W0 W0.heap.size (w1.heap.size + 1) w1.heap.size (.slice none 0 0) (.slice none 0 0) ⟨[], []⟩ [] :=
      ⟨k1, k0, World.ownsRow_nil _ _ _ _, ⟨[], World.ownsRow_nil _ _ _ _, rfl, fun i h => by cases h⟩, fun b hb => by cases hb⟩
    rw [← hW0]
    clear hW0
    have HN := hide ht.ix.int_len
    have hnn : n = T.ix.length := ht.ix.int_len.symm
    have hn5 : n ≤ 5000 := by rw [hnn, HL.out]; omega
    clear hnn
    have HT := hide ht
    obtain ⟨rowsT, hRT⟩ : ∃ rowsT, rowsT = T.ix.map (fun m => T.bl.getD m.toNat []) := ⟨_, rfl⟩
    have hRl : rowsT.length = n := by rw [hRT, List.length_map]; exact HN.out
    have HRT := hide hRT
    have HRL := hide hRl
    clear hRT hRl ht hW hW2 kB kR b0 hb2 hb1 kR1 kB1
    go_loopw [19] (fun i wr => ∃ (k : Nat) (vi vb : Value) (U : Tr), k ≤ n ∧ i = .int .i64 k ∧ U = addAll ⟨[], []⟩ (rowsT.take k) ∧ Bld wr W0.heap.size (w1.heap.size + 1) w1.heap.size vi vb U U.bl ∧ U.ix.length ≤ k ∧ U.bl.length ≤ k ∧ Kept W0.heap.size (w1.heap.size + 1) w1.heap.size W0 wr) (fun i _ => n - (intOf i).toNat)
    case atStart => exact ⟨0, _, _, _, Nat.zero_le _, rfl, by simp [addAll], hB0, Nat.le_refl _, Nat.le_refl _, ⟨rfl, rfl, rfl, Nat.le_refl _, fun _ _ _ _ => rfl⟩⟩
    case round =>
      obtain ⟨k, vi, vb, U, hk, rfl, hU, hB, hu1, hu2, hK⟩ := hrel
      have HU := hide hU
      have HB1 := hide hB
      clear hU hB
      have hbr : Below w.heap.size w wr := hb0W.trans (hK.below (by omega) (by omega) (by omega))
      have hsr := hK.size
      by_cases hlt : k < n
      · have hkl : k < T.ix.length := by rw [HN.out]; exact hlt
        obtain ⟨b, o, hA, hbl, c0⟩ := (HT.out.below hbr).ix.int hkl
        subst hA
        obtain ⟨m, hm, hml⟩ := HIX.out k hkl
        rw [hm] at c0
        obtain ⟨b', o', A2, n2, c2, hA', hbl', c1, hrow⟩ := (HT.out.below hbr).bl.row hml
        subst hA'
        have hn2 : n2 = 256 := by rw [← hrow.int_len]; exact (Tr.right_bl hR m hml).1
        subst hn2
        obtain ⟨b2, o2, hA2, hbl2, hcc⟩ := hrow.2.2 (by omega)
        subst hA2
        have kBr : Blk wr w.heap.size 27 _ := (hK.block _ (by omega) (by omega) (by omega)).trans kB0
        have b1 := kBr.cell 1
        simp only [List.getElem?_toArray, List.getElem?_cons_zero, List.getElem?_cons_succ] at b1
        have hn' : n' = T.bl.length := HT.out.bl.len.symm
        have hmn : m < n' := by omega
        clear hn'
        have hlen2 : (T.bl[m]).length = 256 := (Tr.right_bl hR m hml).1
        have HX := hide (show T.bl[m] = T.bl.getD m [] from (getD_get hml []).symm)
        generalize T.bl[m] = x at *
        have HSZ := hide (show (Tryd.prog.info? 75).map (·.size) = some (intCells x).length by rw [intCells_length, hlen2]; kernel_rfl)
        have HCC := hide hcc
        have HLEN := hide hlen2
        have HM := hide hm
        clear hlen2 hm hrow hcc
        have harr : ∀ W : World, (Instr.arrayAt 75 (.slice (some ⟨b2, o2, none⟩) 256 c2)).run Tryd.prog W = .ok (.pointer (some ⟨b2, o2, none⟩)) W := fun W => by kernel_rfl
        go_wp2_with (refine wpList_load_mid rfl 75 (.tmp 29) rfl b2 o2 rfl (intCells x) _ (fun j v hv => HCC.out j v hv) Tryd.underlying75 rfl HSZ.out ?_)
        refine (add_any _ _ _ _ _ U x wr HLEN.out HB1.out hsr (by omega) (by omega)).mono ?_
        rintro e w2 ⟨rfl, ⟨vi2, vb2, hB2⟩, hK2, _⟩
        clear harr
        go_wp2
        go_roundw
        case rel =>
          refine ⟨k + 1, vi2, vb2, U.add x, by omega, by go_num, ?_, hB2, ?_, ?_, hK.trans hK2⟩
          · rw [HU.out, ← addAll_snoc]
            congr 1
            have hkr : k < rowsT.length := by rw [HRL.out]; exact hlt
            rw [List.take_succ_eq_append_getElem hkr]
            congr 2
            have : rowsT[k] = T.bl.getD T.ix[k].toNat [] := by simp only [HRT.out, List.getElem_map]
            rw [this, HM.out, Int.toNat_natCast, HX.out]
          · unfold Tr.add; split <;> simp <;> omega
          · unfold Tr.add; split <;> simp <;> omega
        case measure => simp [intOf]; omega
      · obtain rfl : k = n := by omega
        have hq1 := HB1.out
        obtain ⟨A1, n1, c1, A2, n2, c2, rfl, rfl, h1c, h2c, htt⟩ := hq1.tr (by omega) (by omega)
        have r0 := hq1.blk.cell 0
        have r1 := hq1.blk.cell 1
        simp only [List.getElem?_toArray, List.getElem?_cons_zero, List.getElem?_cons_succ] at r0 r1
        have kRr : Blk wr (w.heap.size + 1) 27 _ := (hK.block _ (by omega) (by omega) (by omega)).trans kR0
        have s0 := kRr.frozen 0
        have s1 := kRr.frozen 1
        have t0 := kRr.cell 0
        have t1 := kRr.cell 1
        have tl := kRr.lt
        simp only [List.getElem?_toArray, List.getElem?_cons_zero, List.getElem?_cons_succ] at t0 t1
        have gl := hq1.blk.lt
        go_wp2
        have HG := grownBy_setCell wr (w.heap.size + 1) 0 (.slice A1 n1 c1)
        have HG2 := grownBy_setCell (wr.setCell ⟨w.heap.size + 1, 0, none⟩ (.slice A1 n1 c1)) (w.heap.size + 1) 1 (.slice A2 n2 c2)
        have kE := (kRr.set_ 0 (.slice A1 n1 c1)).set_ 1 (.slice A2 n2 c2)
        have qf := (hq1.turn2 HG (fun r e => by cases e; omega)).turn2 HG2 (fun r e => by cases e; omega)
        have hW : addAll ⟨[], []⟩ rowsT = U := by
          rw [HU.out, List.take_of_length_le (by rw [HRL.out]; exact Nat.le_refl _)]
        have hlb : leastB T = (U, 0) := by
          unfold leastB
          rw [if_pos hR, ← HRT.out, hW]
        rw [hlb]
        refine bodyPost_ret (results_cell_row_tmp rfl _ _ (w.heap.size + 1) 27 _ _ _ rfl kE Tryd.underlying27 rfl (by kernel_rfl)) rfl ?_
        obtain ⟨A3, n3, c3, A4, n4, c4, e3, e4, h3c, h4c, ht'⟩ := qf.tr (by omega) (by omega)
        injection e3 with e3a e3b e3c
        injection e4 with e4a e4b e4c
        subst e3a e3b e3c e4a e4b e4c
        refine ⟨A1, n1, c1, A2, n2, c2, rfl, ht', h1c, h2c, ?_⟩
        exact (hbr.grown HG hbr.size (fun k e => by cases e; omega)).grown HG2 (by simp; exact hbr.size) (fun k e => by cases e; omega)
end Go.Proofs.YtibndkkbmgbogaaDoor
