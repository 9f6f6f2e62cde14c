/- The reference's Ranges. Conditions: the trie's slices read as lists. -/
import Derived.Test.YtibndkkbmgbogaaDoorProg
import Derived.Test.YtibndkkbmgbogaaDoorBase
import Derived.Test.YtibndkkbmgbogaaDoorRefR
import Derived.Test.YtibndkkbmgbogaaDoorRanges
import Derived.Test.YtibndkkbmgbogaaDoorLawT
import Derived.Deep.AppendLies
import Derived.Outline
namespace Go.Proofs.YtibndkkbmgbogaaDoor
open Go Go.RowKit

/-- the first k numbers -/
def nums (T : Tr) (k : Nat) : List Rg := (List.range k).foldl (fun o (p : Nat) => rgStep o (p : Int) (T.vals p)) []
theorem nums_succ (T : Tr) (k : Nat) : nums T (k + 1) = rgStep (nums T k) (k : Int) (T.vals k) := by simp [nums, List.range_succ]
theorem nums_cols (T : Tr) (i : Nat) : ∀ j, j ≤ 256 → nums T (i * 256 + j) = colsTo (T.row i) ((i : Int) * 256) (nums T (i * 256)) j
  | 0, _ => by rw [Nat.add_zero]; simp [colsTo]
  | j + 1, hj => by
    rw [← Nat.add_assoc, nums_succ, nums_cols T i j (by omega), colsTo_succ, vals_row T i j (by omega)]
    have e : ((i * 256 + j : Nat) : Int) = (i : Int) * 256 + j := by omega
    rw [e]
theorem nums_rows (T : Tr) : ∀ i, nums T (i * 256) = rowsTo T i
  | 0 => by simp [nums, rowsTo]
  | i + 1 => by
    rw [rowsTo_succ, ← nums_rows T i, ← nums_cols T i 256 (Nat.le_refl _), show (i + 1) * 256 = i * 256 + 256 by omega]
theorem nums_all (T : Tr) : nums T 1114112 = rowsTo T 4352 := by
  have := nums_rows T 4352
  rwa [show 4352 * 256 = 1114112 from by omega] at this
theorem nums_inv {T : Tr} (h : T.rightB = true) : ∀ k : Nat, k ≤ 1114112 → RInv T.vals (nums T k) k
  | 0, _ => RInv.nil T.vals
  | k + 1, hk => by
    have ih := nums_inv h k (by omega)
    have ho := vals_ok h (k / 256) (k % 256) (by omega) (by omega)
    have e : ((k / 256 : Nat) : Int) * 256 + ((k % 256 : Nat) : Int) = (k : Int) := by omega
    rw [e] at ho
    rw [nums_succ]
    exact ih.step (by omega) ho.1 ho.2

set_option maxRecDepth 100000 in
set_option maxHeartbeats 2000000 in
theorem refRanges_any (A A' : Option Addr) (n c n' c' : Nat) (T : Tr) (w : World) (ht : TrAt w w.heap.size A n A' n' T) :
    Calls Tryd.prog 22 #[.agg #[.slice A n c, .slice A' n' c']] w (OutL w (rangesB T).1 (rangesB T).2) := by
  have hW := ht.alloc (Nat.le_refl _) (.cells #[.slice A n c, .slice A' n' c'] 27)
  have hb0 : Below w.heap.size w (w.alloc (.cells #[.slice A n c, .slice A' n' c'] 27)) := (Below.refl _ _).alloc (Nat.le_refl _) _
  obtain ⟨i0, hi, hz0, hz1, hz2⟩ := info_parts info62
  cases hR : T.rightB
  · have HB := hide (show (rangesB T).1 = [] ∧ (rangesB T).2 = 50 by unfold rangesB; rw [if_neg (by simp [hR])]; exact ⟨rfl, rfl⟩)
    go_enter Tryd.func22, Tryd.ntmps22
    go_wp2_with (go_at_call 26; refine (refRight_any _ _ _ _ _ _ T _ hW).mono ?_; rintro e w1 ⟨he, hb1⟩; rw [hR] at he; subst he)
    go_ret2
    rw [HB.out.1, HB.out.2]
    exact ⟨none, 0, 0, rfl, ⟨rfl, by omega, fun h => by omega⟩, Nat.le_refl _, hb0.trans (hb1.mono (by simp))⟩
  · obtain ⟨hl, hix⟩ := Tr.right_ix hR
    obtain rfl := ht.ix.int_len
    have HX := hide hix
    have HL := hide hl
    clear hix hl
    go_enter Tryd.func22, Tryd.ntmps22
    go_wp2_with (go_at_call 26; refine (refRight_any _ _ _ _ _ _ T _ hW).mono ?_; rintro e w1 ⟨he, hb1⟩; rw [hR] at he; subst he)
    have kB : Blk w1 w.heap.size 27 #[.slice A T.ix.length c, .slice A' n' c'] := (hb1.block w.heap.size (by simp)).trans (Blk.new w 27 #[.slice A T.ix.length c, .slice A' n' c'])
    have hb01 : Below w.heap.size w w1 := hb0.trans (hb1.mono (by simp))
    have ht1 : TrAt w1 w1.heap.size A T.ix.length A' n' T := (hW.below hb1).more hb1.size
    clear hb1 hW
    have hs1 : w.heap.size < w1.heap.size := kB.lt
    have HT1 := hide ht1
    have HI := hide (nums_inv hR)
    have HVR := hide (fun k (hk : k < 1114112) => vals_ok hR (k / 256) (k % 256) (by omega) (by omega))
    clear ht1
    go_loopw [4, 5] (fun s i wr => ∃ (k : Nat) (out : List Rg), k ≤ 1114112 ∧ i = .int .i64 k ∧ out = nums T k ∧ wr.ownsRow w1.heap.size 62 3 s out.length (rgCells out) ∧ out.length ≤ k ∧ Below w1.heap.size w1 wr) (fun _ i _ => 1114112 - (intOf i).toNat)
    case atStart => exact ⟨0, [], Nat.zero_le _, rfl, rfl, World.ownsRow_nil _ _ _ _, Nat.le_refl _, Below.refl _ _⟩
    case round =>
      obtain ⟨k, out, hk, rfl, hout, ho, hol, hbw⟩ := hrel
      have HO := hide ho
      have hsz := hbw.size
      by_cases hlt : k < 1114112
      · have hinv := HI.out k hk
        rw [← hout] at hinv
        have hsucc := nums_succ T k
        rw [← hout] at hsucc
        have hil : k / 256 < T.ix.length := by rw [HL.out]; omega
        obtain ⟨m, hm, hml⟩ := HX.out (k / 256) hil
        have htr := HT1.out.below hbw
        obtain ⟨b, o, hA, hbl, c0⟩ := htr.ix.int hil
        obtain ⟨b', o', A2, n2, c2, hA', hbl', c1, hr2⟩ := htr.bl.row hml
        have hl2 := hr2.int_len
        have hlen := (Tr.right_bl hR m hml).1
        obtain ⟨b2, o2, hA2, hbl2, c3⟩ := hr2.int (k := k % 256) (by omega)
        subst hA hA' hA2
        rw [hm] at c0
        have hval : T.vals (k : Int) = T.bl[m][k % 256] := by
          unfold Tr.vals Tr.at_
          rw [Int.toNat_natCast, getD_get hil, hm, Int.toNat_natCast, getD_get hml, getD_get (by omega)]
        have hvr := HVR.out k hlt
        have e9 : ((k / 256 : Nat) : Int) * 256 + ((k % 256 : Nat) : Int) = (k : Int) := by omega
        rw [e9, hval] at hvr
        rw [hval] at hsucc
        generalize T.bl[m][k % 256] = v at c3 hsucc hvr
        have kBr : Blk wr w.heap.size 27 _ := (hbw.block _ hs1).trans kB
        have p0 := kBr.cell 0
        have p1 := kBr.cell 1
        have pl := kBr.lt
        simp only [List.getElem?_toArray, List.getElem?_cons_zero, List.getElem?_cons_succ] at p0 p1
        have hnl : m < n' := by have := htr.bl.len; omega
        have hn2 : k % 256 < n2 := by omega
        have HSU := hide hsucc
        have HINV := hide hinv
        clear hsucc hinv hm hl2 hlen hval e9 hr2 htr hout ho
        have hv0 := hvr.1
        have hv1 := hvr.2
        clear hvr
        have hfin : ∀ (v' : Value) (w2 : World), w2.ownsRow w1.heap.size 62 3 v' (rgStep out (k : Int) v).length (rgCells (rgStep out (k : Int) v)) → Below w1.heap.size wr w2 →
            (∃ (k_1 : Nat) (out_1 : List Rg), k_1 ≤ 1114112 ∧ Value.int .i64 ((k : Int) + 1) = Value.int .i64 k_1 ∧ out_1 = nums T k_1 ∧ w2.ownsRow w1.heap.size 62 3 v' out_1.length (rgCells out_1) ∧ out_1.length ≤ k_1 ∧ Below w1.heap.size w1 w2) := fun v' w2 h1 h2 => by
          have := rgStep_len out (k : Int) v
          exact ⟨k + 1, rgStep out (k : Int) v, by omega, by simp, HSU.out.symm, h1, by omega, hbw.trans h2⟩
        have HF := hide hfin
        clear hfin
        by_cases hz : v = 0
        · subst hz
          have hst : rgStep out (k : Int) 0 = out := rgStep_zero (fun y hy => (HINV.out.ok y hy).2.2.1) _
          have HST := hide hst
          clear hst
          obtain ⟨Ao, co, rfl⟩ : ∃ Ao co, u4 = .slice Ao out.length co := by
            rcases HO.out.2 with ⟨rfl, h0⟩ | ⟨g, cap, cur, rfl, _⟩
            · exact ⟨none, 0, by rw [h0]⟩
            · exact ⟨_, _, rfl⟩
          go_wp2_with fail
          go_quiet (fail)
          go_wp2
          go_roundw
          case rel => exact HF.out _ _ (by rw [HST.out]; exact HO.out) (below_drewN (Below.refl _ _) _)
          case measure => simp [intOf]; omega
        · have hz1' : (v == 0) = false := by simpa using hz
          have hst : ∀ h, rgStep out (k : Int) v = out ++ [⟨k, k, v⟩] := fun h => rgStep_app h (by omega)
          have HAPP := hide hst
          clear hst
          have hpos : 0 < v := by omega
          have HN := fun W2 : World => hide (show ∀ j' u, [Value.int .i64 (k : Int), Value.int .i64 (k : Int), Value.int .i64 v][j']? = some u → (W2.alloc (.cells #[.int .i64 (k : Int), .int .i64 (k : Int), .int .i64 v] 62)).cell? ((⟨W2.heap.size, 0, none⟩ : Addr).add j') = some u from World.news_of_block (cs := #[.int .i64 (k : Int), .int .i64 (k : Int), .int .i64 v]) (t := 62) (fr := (0, 0)) (heap_alloc_new W2 _))
          by_cases hout : out.length = 0
          · obtain rfl : out = [] := List.length_eq_zero_iff.1 hout
            obtain ⟨Ao, co, rfl⟩ : ∃ Ao co, u4 = .slice Ao 0 co := by
              rcases HO.out.2 with ⟨rfl, h0⟩ | ⟨g, cap, cur, rfl, _⟩
              · exact ⟨none, 0, rfl⟩
              · exact ⟨_, _, rfl⟩
            clear hout
            go_wp2_with fail
            go_quiet (fail)
            obtain ⟨W2, hW2⟩ : ∃ W2 : World, W2 = wr.drewN nq := ⟨_, rfl⟩
            have hb2 : Below w1.heap.size wr W2 := by rw [hW2]; exact below_drewN (Below.refl _ _) _
            have hs2 := hb2.size
            have HOW := hide (show W2.ownsRow w1.heap.size 62 3 (.slice Ao 0 co) 0 (rgCells []) by rw [hW2]; exact HO.out)
            rw [← hW2]
            clear hW2
            go_wp2_with (at_builtin; go_must (refine wpList_append_own_at _ rfl (.tmp 31) (.tmp 36) 22 rfl w1.heap.size 62 i0 _ 3 24 Tryd.underlying22 hi hz0 hz1 hz2 rfl (by decide) (.slice Ao 0 co) 0 (rgCells []) rfl (HOW.out.alloc _) ⟨W2.heap.size, 0, none⟩ 1 1 [.int .i64 (k : Int), .int .i64 (k : Int), .int .i64 v] rfl rfl (HN W2).out (one3 _ _ _) (by unfold maxLen; omega) (by omega) (by simp; omega) ?_); intro v' w2 hown2 hgrow2 _ _; have HOWN := hide hown2; have HGR := hide hgrow2; clear hown2 hgrow2)
            go_roundw
            case rel =>
              refine HF.out _ _ ?_ (hb2.trans (((Below.refl _ _).alloc (by omega) _).grown HGR.out (by simp; omega) (fun k' e => (HOW.out.lt k' e).1)))
              rw [HAPP.out (fun y hy => (by cases hy)), rgCells_snoc]
              exact HOWN.out
            case measure => simp [intOf]; omega
          · obtain ⟨q, hq⟩ : ∃ q, out.length = q + 1 := ⟨out.length - 1, by omega⟩
            obtain ⟨g, cap, rfl⟩ := own_some HO.out (by omega)
            have hqo : q < out.length := by omega
            obtain ⟨_, g1, g2⟩ := rgCells_get out q hqo
            have hadd : ∀ i, (⟨g, 0, none⟩ : Addr).add i = ⟨g, i, none⟩ := fun i => by unfold Addr.add; split <;> simp_all
            have d1 := HO.out.cells (g := g) rfl _ _ g1
            have d2 := HO.out.cells (g := g) rfl _ _ g2
            rw [hadd, Nat.mul_comm] at d1 d2
            have dl := (HO.out.lt g rfl).2
            have hy : ∀ y, out.getLast? = some y → y = out[q] := fun y hy => by rw [last_get hq] at hy; injection hy with hy; exact hy.symm
            have hyq : out[q]? = some out[q] := List.getElem?_eq_getElem hqo
            have hto := HINV.out.to _ (List.getElem_mem hqo)
            have hok := HINV.out.ok _ (List.getElem_mem hqo)
            have hto0 : 0 ≤ out[q].to := by omega
            have HSet := hide (rgStep_set (p := (k : Int)) (v := v) hq)
            clear g1 g2 hadd hok hout
            generalize out[q] = y at d1 d2 hy HSet hyq hto hto0
            have HY := hide hy
            have HYQ := hide hyq
            have HQ := hide hq
            have HOq := hide (show wr.ownsRow w1.heap.size 62 3 (.slice (some ⟨g, 0, none⟩) (q + 1) cap) (q + 1) (rgCells out) by have := HO.out; rw [hq] at this; exact this)
            have hlq : q + 1 ≤ 1114112 := by omega
            rw [hq]
            clear hy hyq hq
            by_cases heq : y.to = (k : Int) - 1
            · have hb1 : (y.to == (k : Int) - 1) = true := by simpa using heq
              have hyt : 0 ≤ (k : Int) - 1 := by omega
              have HEQ := hide heq
              clear heq
              by_cases hvl : y.vl = v
              · have hb3 : (y.vl == v) = true := by simpa using hvl
                have HVL := hide hvl
                have ef := HOq.out.frozenAt (q * 3 + 1)
                clear hvl
                go_wp2_with fail
                go_quiet (fail)
                go_wp2
                go_roundw
                case rel =>
                  refine HF.out _ _ ?_ ((below_drewN (Below.refl _ _) _).setCell (p := ⟨g, q * 3 + 1, none⟩) (HO.out.lt g rfl).1 _)
                  rw [HSet.out ⟨by rw [HEQ.out]; omega, HVL.out.symm⟩, List.length_set, ← rgCells_setTo HYQ.out, HQ.out]
                  exact (World.ownsRow.stored (w := wr.drewN nq) HOq.out (q * 3 + 1) _).1
                case measure => simp [intOf]; omega
              · have hb3 : (y.vl == v) = false := by simpa using hvl
                have HVL := hide hvl
                clear hvl
                go_wp2_with fail
                go_quiet (fail)
                obtain ⟨W2, hW2⟩ : ∃ W2 : World, W2 = wr.drewN nq := ⟨_, rfl⟩
                have hb2 : Below w1.heap.size wr W2 := by rw [hW2]; exact below_drewN (Below.refl _ _) _
                have hs2 := hb2.size
                have HOW := hide (show W2.ownsRow w1.heap.size 62 3 (.slice (some ⟨g, 0, none⟩) (q + 1) cap) (q + 1) (rgCells out) by rw [hW2]; exact HOq.out)
                have d1' : W2.cell? ⟨g, q * 3 + 1, none⟩ = some (.int .i64 y.to) := by rw [hW2]; exact d1
                have d2' : W2.cell? ⟨g, q * 3 + 2, none⟩ = some (.int .i64 y.vl) := by rw [hW2]; exact d2
                rw [← hW2]
                clear hW2 d1 d2
                go_wp2_with (at_builtin; go_must (refine wpList_append_own_at _ rfl (.tmp 31) (.tmp 36) 22 rfl w1.heap.size 62 i0 _ 3 24 Tryd.underlying22 hi hz0 hz1 hz2 rfl (by decide) (.slice (some ⟨g, 0, none⟩) (q + 1) cap) (q + 1) (rgCells out) rfl (HOW.out.alloc _) ⟨W2.heap.size, 0, none⟩ 1 1 [.int .i64 (k : Int), .int .i64 (k : Int), .int .i64 v] rfl rfl (HN W2).out (one3 _ _ _) (by unfold maxLen; omega) (by omega) (by simp; omega) ?_); intro v' w2 hown2 hgrow2 _ _; have HOWN := hide hown2; have HGR := hide hgrow2; clear hown2 hgrow2)
                go_roundw
                case rel =>
                  refine HF.out _ _ ?_ (hb2.trans (((Below.refl _ _).alloc (by omega) _).grown HGR.out (by simp; omega) (fun k' e => (HOW.out.lt k' e).1)))
                  rw [HAPP.out (fun z hz => by rw [HY.out z hz]; rintro ⟨e1, e2⟩; exact HVL.out e2.symm), rgCells_snoc, List.length_append, HQ.out]
                  exact HOWN.out
                case measure => simp [intOf]; omega
            · have hb1 : (y.to == (k : Int) - 1) = false := by simpa using heq
              have HEQ := hide heq
              clear heq
              go_wp2_with fail
              go_quiet (fail)
              obtain ⟨W2, hW2⟩ : ∃ W2 : World, W2 = wr.drewN nq := ⟨_, rfl⟩
              have hb2 : Below w1.heap.size wr W2 := by rw [hW2]; exact below_drewN (Below.refl _ _) _
              have hs2 := hb2.size
              have HOW := hide (show W2.ownsRow w1.heap.size 62 3 (.slice (some ⟨g, 0, none⟩) (q + 1) cap) (q + 1) (rgCells out) by rw [hW2]; exact HOq.out)
              have d1' : W2.cell? ⟨g, q * 3 + 1, none⟩ = some (.int .i64 y.to) := by rw [hW2]; exact d1
              have d2' : W2.cell? ⟨g, q * 3 + 2, none⟩ = some (.int .i64 y.vl) := by rw [hW2]; exact d2
              rw [← hW2]
              clear hW2 d1 d2
              go_wp2_with (at_builtin; go_must (refine wpList_append_own_at _ rfl (.tmp 31) (.tmp 36) 22 rfl w1.heap.size 62 i0 _ 3 24 Tryd.underlying22 hi hz0 hz1 hz2 rfl (by decide) (.slice (some ⟨g, 0, none⟩) (q + 1) cap) (q + 1) (rgCells out) rfl (HOW.out.alloc _) ⟨W2.heap.size, 0, none⟩ 1 1 [.int .i64 (k : Int), .int .i64 (k : Int), .int .i64 v] rfl rfl (HN W2).out (one3 _ _ _) (by unfold maxLen; omega) (by omega) (by simp; omega) ?_); intro v' w2 hown2 hgrow2 _ _; have HOWN := hide hown2; have HGR := hide hgrow2; clear hown2 hgrow2)
              go_roundw
              case rel =>
                refine HF.out _ _ ?_ (hb2.trans (((Below.refl _ _).alloc (by omega) _).grown HGR.out (by simp; omega) (fun k' e => (HOW.out.lt k' e).1)))
                rw [HAPP.out (fun z hz => by rw [HY.out z hz]; rintro ⟨e1, e2⟩; exact HEQ.out (by omega)), rgCells_snoc, List.length_append, HQ.out]
                exact HOWN.out
              case measure => simp [intOf]; omega
      · obtain rfl : k = 1114112 := by omega
        obtain ⟨Ao, co, rfl⟩ : ∃ Ao co, u4 = .slice Ao out.length co := by
          rcases HO.out.2 with ⟨rfl, h0⟩ | ⟨g, cap, cur, rfl, _⟩
          · exact ⟨none, 0, by rw [h0]⟩
          · exact ⟨_, _, rfl⟩
        have hr1 : (rangesB T).1 = (if 600 < out.length then [] else out) ∧ (rangesB T).2 = (if 600 < out.length then 22 else 0) := by
          unfold rangesB
          rw [if_pos hR, hout, nums_all]
          generalize rowsTo T 4352 = L
          by_cases h : 600 < L.length <;> simp [h]
        have HRB := hide hr1
        clear hr1 hout
        by_cases h6 : 600 < out.length
        · go_wp2
          go_ret2
          rw [HRB.out.1, HRB.out.2, if_pos h6, if_pos h6]
          exact ⟨none, 0, 0, rfl, ⟨rfl, by omega, fun h => by omega⟩, Nat.le_refl _, hb01.trans (hbw.mono (Nat.le_of_lt hs1))⟩
        · go_wp2
          go_ret2
          rw [HRB.out.1, HRB.out.2, if_neg h6, if_neg h6]
          obtain ⟨A5, c5, e5, h5, h5r⟩ := own_rds HO.out (Nat.le_refl _) (by omega)
          injection e5 with e5a e5b e5c
          subst e5a e5c
          exact ⟨_, _, _, rfl, h5r, h5, hb01.trans (hbw.mono (Nat.le_of_lt hs1))⟩
end Go.Proofs.YtibndkkbmgbogaaDoor
