/- The reference's Load. Conditions: the text is no longer than a hundred thousand bytes. -/
import Derived.Test.YtibndkkbmgbogaaDoorPRefP
import Derived.Test.YtibndkkbmgbogaaDoorPLoadL
import Derived.Test.YtibndkkbmgbogaaDoorQuiet
import Derived.Deep.LoopGhost
import Derived.Deep.CutBlock
import Derived.Deep.DeepCutAuto
import Derived.Laws.ResultCell
import Derived.Outline
namespace Go.Proofs.YtibndkkbmgbogaaDoor
open Go Go.RowKit
attribute [local irreducible] wpQuiet

theorem drop_two {l : List UInt8} {i : Nat} (h : i + 2 ≤ l.length) : l.drop i = l[i] :: l[i + 1] :: l.drop (i + 2) := by
  rw [List.drop_eq_getElem_cons (by omega), List.drop_eq_getElem_cons (by omega)]
theorem dBlock_more {l : List UInt8} {i : Nat} {b : List Int} (h : i + 2 ≤ l.length) (hb : b.length < 256) : dBlock (l.drop i) b = dBlock (l.drop (i + 2)) (b ++ List.replicate (l[i].toNat + 1) (l[i + 1].toNat : Int)) := by
  rw [drop_two h, dBlock, if_pos hb]
theorem dBlock_end {l : List UInt8} {i : Nat} {b : List Int} (h : ¬ (b.length < 256 ∧ i + 2 ≤ l.length)) : dBlock (l.drop i) b = (b, l.drop i) := by
  by_cases h2 : i + 2 ≤ l.length
  · rw [drop_two h2, dBlock, if_neg (fun e => h ⟨e, h2⟩)]
  · have : (l.drop i).length < 2 := by rw [List.length_drop]; omega
    generalize l.drop i = r at this ⊢
    match r, this with
    | [], _ => rfl
    | [_], _ => rfl
theorem dIx_more {l : List UInt8} {i : Nat} {b : List Int} (h : i + 4 ≤ l.length) (hb : b.length < 4352) : dIx (l.drop i) b = dIx (l.drop (i + 4)) (b ++ List.replicate (min (l[i].toNat * 256 + l[i + 1].toNat + 1) 4353) ((l[i + 2].toNat * 256 + l[i + 3].toNat : Nat) : Int)) := by
  rw [drop_two (by omega), drop_two (i := i + 2) (by omega), dIx, if_pos hb]
theorem dIx_end {l : List UInt8} {i : Nat} {b : List Int} (h : ¬ (b.length < 4352 ∧ i + 4 ≤ l.length)) : dIx (l.drop i) b = b := by
  by_cases h2 : i + 4 ≤ l.length
  · rw [drop_two (by omega), drop_two (i := i + 2) (by omega), dIx, if_neg (fun e => h ⟨e, h2⟩)]
  · have : (l.drop i).length < 4 := by rw [List.length_drop]; omega
    generalize l.drop i = r at this ⊢
    match r, this with
    | [], _ => rfl
    | [_], _ => rfl
    | [_, _], _ => rfl
    | [_, _, _], _ => rfl
theorem kp_step {w1 wx wy : World} {b : Nat} {row : Option Nat} (h : w1.grownBy wx (some b)) (g : wx.grownBy wy row) (hr : ∀ k, row = some k → w1.heap.size ≤ k ∨ k = b) : w1.grownBy wy (some b) :=
  ⟨g.os.trans h.os, g.tape.trans h.tape, g.output.trans h.output, Nat.le_trans h.size g.size, fun k hk hne => (g.block k (Nat.lt_of_lt_of_le hk h.size) (fun e => by
    rcases hr k e.symm with h1 | h1
    · omega
    · exact hne (by rw [h1]))).trans (h.block k hk hne)⟩

theorem toList_inj {a b : ByteArray} (h : a.toList = b.data.toList) : a = b := bytes_of (by rw [← ByteArray.toList_eq]; exact h)
theorem out_nil {w W : World} (k : Int) (hb : Below w.heap.size w W) : Out w (noTr k).1 (noTr k).2 (.returned (.tuple #[.agg #[.slice none 0 0, .slice none 0 0], .int .i64 k])) W :=
  ⟨none, 0, 0, none, 0, 0, rfl, (LoT.tr (n0 := w.heap.size) (c := 0) (c' := 0) ⟨World.ownsRow_nil _ _ _ _, Lo.nil _ _, Nat.zero_le _, Nat.zero_le _, fun b hb => by cases hb⟩), Nat.le_refl _, Nat.le_refl _, hb⟩

set_option maxRecDepth 100000 in
set_option maxHeartbeats 4000000 in
theorem refLoad_any (s : ByteArray) (w : World) (hs : s.size ≤ 100000) : Calls Tryd.prog 34 #[.string s] w (Out w (refLoadB s).1 (refLoadB s).2) := by
  obtain ⟨i3, hi3, hz30, hz31, hz32⟩ := info_parts info3
  obtain ⟨i0, hi, hz0, hz1, hzb⟩ := info_parts info24
  go_enter Tryd.func34, Tryd.ntmps34
  have k0 := Blk.new w 27 #[.slice none 0 0, .slice none 0 0]
  have hbn : Below w.heap.size w (w.alloc (.cells #[.slice none 0 0, .slice none 0 0] 27)) := (Below.refl _ _).alloc (Nat.le_refl _) _
  by_cases h7 : s.size < 7
  · have h7' : (s.size : Int) < 7 := by omega
    have hr : refLoadB s = noTr 60 := by unfold refLoadB; rw [if_pos (Or.inl h7)]
    go_wp2_with fail
    refine bodyPost_ret (results_cell_row_tmp rfl _ _ w.heap.size 27 _ _ _ rfl k0 Tryd.underlying27 rfl (by kernel_rfl)) rfl ?_
    try rw [hr]
    exact out_nil _ hbn
  have h7' : ¬ (s.size : Int) < 7 := by omega
  by_cases hm : s.extract 0 3 = ⟨#[86, 84, 49]⟩
  rotate_left
  · have hr : refLoadB s = noTr 60 := by unfold refLoadB; rw [if_pos (Or.inr hm)]
    have hml : ((s.extract 0 3).toList == [86, 84, 49]) = false := by
      rw [beq_eq_false_iff_ne]
      intro e
      exact hm (toList_inj e)
    clear hm
    go_wp2_with fail
    refine bodyPost_ret (results_cell_row_tmp rfl _ _ w.heap.size 27 _ _ _ rfl k0 Tryd.underlying27 rfl (by kernel_rfl)) rfl ?_
    try rw [hr]
    exact out_nil _ hbn
  have hr : refLoadB s = if sumB (s.data.toList.take (s.data.toList.length - 2)) % 65536 ≠ numB s.data.toList (s.data.toList.length - 2) then noTr 61
      else if packedB (decB s.data.toList) = (s.data.toList, 0) then (decB s.data.toList, 0) else noTr 60 := by
    unfold refLoadB
    rw [if_neg (by rintro (e | e); exact h7 e; exact e hm)]
  have hml : ((s.extract 0 3).toList == [86, 84, 49]) = true := by rw [hm, ByteArray.toList_eq]; rfl
  clear hm
  obtain ⟨k, hk⟩ : ∃ k, k = s.size - 2 := ⟨_, rfl⟩
  have hk1 : k < s.size := by omega
  have hk2 : k + 1 < s.size := by omega
  have HK2 := hide (show (s.size : Int) - 2 = (k : Int) by omega)
  have b1 : (k : Int) ≤ (s.size : Int) := by omega
  have hsl : s.data.toList.length = s.size := (size_list s).symm
  have hex := ext_list s 0 k
  rw [List.drop_zero, Nat.sub_zero] at hex
  obtain ⟨c, hc⟩ : ∃ c : Int, c = 256 * ((s[k]'hk1).toNat : Int) + ((s[k + 1]'hk2).toNat : Int) := ⟨_, rfl⟩
  obtain ⟨m, hmm⟩ : ∃ m : Nat, m = sumB (s.extract 0 k).data.toList % 65536 := ⟨_, rfl⟩
  have hcn : c = (numB s.data.toList k : Nat) := by
    rw [hc]
    unfold numB
    rw [getD_get (by omega), getD_get (by omega)]
    have e1 : s[k]'hk1 = s.data.toList[k]'(by omega) := rfl
    have e2 : s[k + 1]'hk2 = s.data.toList[k + 1]'(by omega) := rfl
    rw [e1, e2]
    omega
  rw [hsl, ← hk, ← hex, ← hmm] at hr
  have hm6 : m < 65536 := by omega
  have hc6 : 0 ≤ c ∧ c < 65536 := by have := (s[k]'hk1).toNat_lt; have := (s[k + 1]'hk2).toNat_lt; omega
  have HR := hide hr
  have HCN := hide hcn
  clear hr hcn hex
  have hnum := fun W' => number_any s k W' (by omega) (by omega)
  rw [← hc] at hnum
  have hsum := fun W' => refSum_any (s.extract 0 k) W' (by simp; omega)
  rw [← hmm] at hsum
  have HNUM := hide hnum
  have HSUM := hide hsum
  clear hc hmm hk hnum hsum hsl
  go_wp2_with fail
  obtain ⟨w1, hw1⟩ : ∃ w1 : World, w1 = w.alloc (.cells #[.slice none 0 0, .slice none 0 0] 27) := ⟨_, rfl⟩
  obtain ⟨b2, hb2⟩ : ∃ b2 : Nat, b2 = w.heap.size := ⟨_, rfl⟩
  rw [← hw1, ← hb2] at k0 hbn ⊢
  have hbw : b2 ≤ w.heap.size := by omega
  have HB2 := hide hb2
  clear hw1 hb2
  by_cases hne : c = (m : Int)
  rotate_left
  · have hbe : (c != (m : Int)) = true := by simpa using hne
    have hr2 : refLoadB s = noTr 61 := by rw [HR.out, if_pos]; intro e; exact hne (by rw [HCN.out, e])
    clear hne
    have H1 := hide (show ∀ W', Below w1.heap.size w1 W' → Calls Tryd.prog 62 #[.string s, .int .i64 k] W' fun e w' => e = .returned (.int .i64 c) ∧ Below w1.heap.size w1 w' from fun W' hW' => (HNUM.out W').mono fun e w' ⟨he, hb⟩ => ⟨he, hW'.trans (hb.mono hW'.size)⟩)
    have H2 := hide (show ∀ W', Below w1.heap.size w1 W' → Calls Tryd.prog 32 #[.string (s.extract 0 k)] W' fun e w' => e = .returned (.int .i64 (m : Int)) ∧ Below w1.heap.size w1 w' from fun W' hW' => (HSUM.out W').mono fun e w' ⟨he, hb⟩ => ⟨he, hb ▸ hW'⟩)
    refine wp_region_below (by kernel_rfl) (by kernel_rfl) ?_
    refine q_step (v := .string s) rfl (fun W_ hW_ => by go_simp; first | done | rfl | exact IntWalk.i64_in _ (by omega) | (rw [HK2.out]; exact IntWalk.i64_in _ (by omega))) ?_
    go_frame
    refine q_step (v := .string s) rfl (fun W_ hW_ => by go_simp; first | done | rfl | exact IntWalk.i64_in _ (by omega) | (rw [HK2.out]; exact IntWalk.i64_in _ (by omega))) ?_
    go_frame
    refine q_step (v := .int .i64 (s.size : Int)) rfl (fun W_ hW_ => by go_simp; first | done | rfl | exact IntWalk.i64_in _ (by omega) | (rw [HK2.out]; exact IntWalk.i64_in _ (by omega))) ?_
    go_frame
    refine q_step (v := .int .i64 (k : Int)) rfl (fun W_ hW_ => by go_simp; first | done | rfl | exact IntWalk.i64_in _ (by omega) | (rw [HK2.out]; exact IntWalk.i64_in _ (by omega))) ?_
    go_frame
    refine q_call (v := .int .i64 c) 62 #[.string s, .int .i64 k] rfl (fun W_ => by go_simp) (fun W_ hW_ => H1.out W_ hW_) ?_
    go_frame
    refine q_step (v := .string s) rfl (fun W_ hW_ => by go_simp; first | done | rfl | exact IntWalk.i64_in _ (by omega) | (rw [HK2.out]; exact IntWalk.i64_in _ (by omega))) ?_
    go_frame
    refine q_step (v := .string s) rfl (fun W_ hW_ => by go_simp; first | done | rfl | exact IntWalk.i64_in _ (by omega) | (rw [HK2.out]; exact IntWalk.i64_in _ (by omega))) ?_
    go_frame
    refine q_step (v := .int .i64 (s.size : Int)) rfl (fun W_ hW_ => by go_simp; first | done | rfl | exact IntWalk.i64_in _ (by omega) | (rw [HK2.out]; exact IntWalk.i64_in _ (by omega))) ?_
    go_frame
    refine q_step (v := .int .i64 (k : Int)) rfl (fun W_ hW_ => by go_simp; first | done | rfl | exact IntWalk.i64_in _ (by omega) | (rw [HK2.out]; exact IntWalk.i64_in _ (by omega))) ?_
    go_frame
    refine q_step (v := .string (s.extract 0 k)) rfl (fun W_ hW_ => by go_simp; first | done | rfl | exact IntWalk.i64_in _ (by omega) | (rw [HK2.out]; exact IntWalk.i64_in _ (by omega))) ?_
    go_frame
    refine q_call (v := .int .i64 (m : Int)) 32 #[.string (s.extract 0 k)] rfl (fun W_ => by go_simp) (fun W_ hW_ => H2.out W_ hW_) ?_
    go_frame
    refine q_step (v := .bool true) rfl (fun W_ hW_ => by go_simp) ?_
    go_frame
    refine wpQuiet_nil (fun W' hW' => ?_)
    have kk := k0.below hW' k0.lt
    obtain ⟨x0, x1⟩ := And.intro (kk.cell 0) (kk.cell 1)
    obtain ⟨f0, f1⟩ := And.intro (kk.frozen 0) (kk.frozen 1)
    have xl := kk.lt
    simp only [List.getElem?_toArray, List.getElem?_cons_zero, List.getElem?_cons_succ] at x0 x1
    go_wp2_with fail
    have kE := (kk.set_ 0 (.slice none 0 0)).set_ 1 (.slice none 0 0)
    refine bodyPost_ret (results_cell_row_tmp rfl _ _ b2 27 _ _ _ rfl kE Tryd.underlying27 rfl (by kernel_rfl)) rfl ?_
    try rw [hr2]
    have m1 := grownBy_setCell W' b2 0 (.slice none 0 0)
    have m2 := grownBy_setCell (W'.setCell ⟨b2, 0, none⟩ (.slice none 0 0)) b2 1 (.slice none 0 0)
    have hB : Below b2 w W' := hbn.trans (hW'.mono (Nat.le_trans hbw hbn.size))
    have hBs := Nat.le_trans hbw hB.size
    have hB2 := (hB.grown m1 hBs (fun k e => by cases e; exact Nat.le_refl _)).grown m2 (by simp; exact hBs) (fun k e => by cases e; exact Nat.le_refl _)
    exact out_nil _ (hB2.mono (by have := HB2.out; omega))
  have hbe : (c != (m : Int)) = false := by simpa using hne
  have hr2 : refLoadB s = if packedB (decB s.data.toList) = (s.data.toList, 0) then (decB s.data.toList, 0) else noTr 60 := by rw [HR.out, if_neg]; intro e; exact e (by have := HCN.out; omega)
  have HR2 := hide hr2
  clear hne hr2 HR
  have H1 := hide (show ∀ W', Below w1.heap.size w1 W' → Calls Tryd.prog 62 #[.string s, .int .i64 k] W' fun e w' => e = .returned (.int .i64 c) ∧ Below w1.heap.size w1 w' from fun W' hW' => (HNUM.out W').mono fun e w' ⟨he, hb⟩ => ⟨he, hW'.trans (hb.mono hW'.size)⟩)
  have H2 := hide (show ∀ W', Below w1.heap.size w1 W' → Calls Tryd.prog 32 #[.string (s.extract 0 k)] W' fun e w' => e = .returned (.int .i64 (m : Int)) ∧ Below w1.heap.size w1 w' from fun W' hW' => (HSUM.out W').mono fun e w' ⟨he, hb⟩ => ⟨he, hb ▸ hW'⟩)
  refine wp_region_below (by kernel_rfl) (by kernel_rfl) ?_
  refine q_step (v := .string s) rfl (fun W_ hW_ => by go_simp; first | done | rfl | exact IntWalk.i64_in _ (by omega) | (rw [HK2.out]; exact IntWalk.i64_in _ (by omega))) ?_
  go_frame
  refine q_step (v := .string s) rfl (fun W_ hW_ => by go_simp; first | done | rfl | exact IntWalk.i64_in _ (by omega) | (rw [HK2.out]; exact IntWalk.i64_in _ (by omega))) ?_
  go_frame
  refine q_step (v := .int .i64 (s.size : Int)) rfl (fun W_ hW_ => by go_simp; first | done | rfl | exact IntWalk.i64_in _ (by omega) | (rw [HK2.out]; exact IntWalk.i64_in _ (by omega))) ?_
  go_frame
  refine q_step (v := .int .i64 (k : Int)) rfl (fun W_ hW_ => by go_simp; first | done | rfl | exact IntWalk.i64_in _ (by omega) | (rw [HK2.out]; exact IntWalk.i64_in _ (by omega))) ?_
  go_frame
  refine q_call (v := .int .i64 c) 62 #[.string s, .int .i64 k] rfl (fun W_ => by go_simp) (fun W_ hW_ => H1.out W_ hW_) ?_
  go_frame
  refine q_step (v := .string s) rfl (fun W_ hW_ => by go_simp; first | done | rfl | exact IntWalk.i64_in _ (by omega) | (rw [HK2.out]; exact IntWalk.i64_in _ (by omega))) ?_
  go_frame
  refine q_step (v := .string s) rfl (fun W_ hW_ => by go_simp; first | done | rfl | exact IntWalk.i64_in _ (by omega) | (rw [HK2.out]; exact IntWalk.i64_in _ (by omega))) ?_
  go_frame
  refine q_step (v := .int .i64 (s.size : Int)) rfl (fun W_ hW_ => by go_simp; first | done | rfl | exact IntWalk.i64_in _ (by omega) | (rw [HK2.out]; exact IntWalk.i64_in _ (by omega))) ?_
  go_frame
  refine q_step (v := .int .i64 (k : Int)) rfl (fun W_ hW_ => by go_simp; first | done | rfl | exact IntWalk.i64_in _ (by omega) | (rw [HK2.out]; exact IntWalk.i64_in _ (by omega))) ?_
  go_frame
  refine q_step (v := .string (s.extract 0 k)) rfl (fun W_ hW_ => by go_simp; first | done | rfl | exact IntWalk.i64_in _ (by omega) | (rw [HK2.out]; exact IntWalk.i64_in _ (by omega))) ?_
  go_frame
  refine q_call (v := .int .i64 (m : Int)) 32 #[.string (s.extract 0 k)] rfl (fun W_ => by go_simp) (fun W_ hW_ => H2.out W_ hW_) ?_
  go_frame
  refine q_step (v := .bool false) rfl (fun W_ hW_ => by go_simp) ?_
  go_frame
  refine wpQuiet_nil (fun w2 hW2 => ?_)
  have k2 := k0.below hW2 k0.lt
  have q2 : Below b2 w w2 := hbn.trans (hW2.mono (Nat.le_trans hbw hbn.size))
  clear H1 H2 k0 hbn hW2 HNUM HSUM
  go_wp2_with fail
  obtain ⟨w3, hw3⟩ : ∃ w3 : World, w3 = w2.alloc (.cells #[.slice none 0 0, .slice none 0 0] 27) := ⟨_, rfl⟩
  obtain ⟨b4, hb4⟩ : ∃ b4 : Nat, b4 = w2.heap.size := ⟨_, rfl⟩
  have k43 : Blk w3 b4 27 #[.slice none 0 0, .slice none 0 0] := by rw [hw3, hb4]; exact Blk.new _ _ _
  have k23 : Blk w3 b2 27 #[.slice none 0 0, .slice none 0 0] := by rw [hw3]; exact k2.alloc _
  have q3 : Below b2 w w3 := by rw [hw3]; exact q2.alloc (Nat.le_trans hbw q2.size) _
  have hb24 : b2 < b4 := by rw [hb4]; exact k2.lt
  rw [← hw3, ← hb4]
  clear hw3 hb4 k2 q2
  have h3 : 3 < s.size := by omega
  have h4 : 3 + 1 < s.size := by omega
  obtain ⟨n, hn⟩ : ∃ n : Nat, n = 256 * (s[3]'h3).toNat + (s[3 + 1]'h4).toNat := ⟨_, rfl⟩
  have hnum := number_any s 3 w3 (by omega) (by omega)
  have hsl : s.data.toList.length = s.size := (size_list s).symm
  have hnn : numB s.data.toList 3 = n := by
    rw [hn]
    unfold numB
    rw [getD_get (by omega), getD_get (by omega)]
    have e1 : s[3]'h3 = s.data.toList[3]'(by omega) := rfl
    have e2 : s[3 + 1]'h4 = s.data.toList[3 + 1]'(by omega) := rfl
    rw [e1, e2]
    omega
  rw [show (256 : Int) * ((s[3]'h3).toNat : Int) + ((s[3 + 1]'h4).toNat : Int) = (n : Int) by omega] at hnum
  have hn6 : n < 65536 := by have := (s[3]'h3).toNat_lt; have := (s[3 + 1]'h4).toNat_lt; omega
  have hgi : ∀ (i : Nat) (h : i < s.size) (hl : i < s.data.toList.length), s[i]'h = s.data.toList[i]'hl := fun i h hl => rfl
  have HGI := hide hgi
  clear hgi
  have hdec : decB s.data.toList = ⟨dIx (dBlocks (min n 300) [] (s.data.toList.drop 5)).2 [], (dBlocks (min n 300) [] (s.data.toList.drop 5)).1⟩ := by unfold decB; rw [hnn]
  have HDEC := hide hdec
  clear hn hnn hdec
  refine hnum.mono ?_
  rintro e w4 ⟨rfl, hb⟩
  have k4 := k43.below hb k43.lt
  have k2 := k23.below hb k23.lt
  have q4 : Below b2 w w4 := q3.trans (hb.mono (Nat.le_trans hbw q3.size))
  clear hnum k43 k23 q3 hb
  have HSL := hide hsl
  clear hsl
  generalize hlg : s.data.toList = l at *
  have HLG := hide hlg
  clear hlg
  obtain ⟨m, hm⟩ : ∃ m, m = min n 300 := ⟨_, rfl⟩
  rw [← hm] at HDEC
  have hm1 : m ≤ n := by omega
  have hm2 : m ≤ 300 := by omega
  have hm3 : ∀ k, k < m ↔ (k < n ∧ k < 300) := fun k => by omega
  have HM3 := hide hm3
  clear hm hm3
  go_upto_block 0 with fail
  go_cut [6] (fun s6 wx => ∃ (i : Nat) (bl : List (List Int)) (vb : Value), s6 = .int .i64 i ∧ i ≤ s.size ∧ dBlocks m [] (l.drop 5) = (bl, l.drop i) ∧ bl.length ≤ 300 ∧ (∀ b ∈ bl, b.length ≤ 511) ∧ Lo wx b2 vb bl ∧ Blk wx b4 27 #[.slice none 0 0, vb] ∧ Blk wx b2 27 #[.slice none 0 0, .slice none 0 0] ∧ Below b2 w wx)
  case first =>
    go_wp2_with fail
    go_loopg [6, 7] m (fun g s6 s7 wx => ∃ (i k : Nat) (bl : List (List Int)) (vb : Value), g = m - k ∧ k ≤ m ∧ s6 = .int .i64 i ∧ s7 = .int .i64 k ∧ i ≤ s.size ∧ dBlocks m [] (l.drop 5) = dBlocks (m - k) bl (l.drop i) ∧ bl.length = k ∧ (∀ b ∈ bl, b.length ≤ 511) ∧ Lo wx b2 vb bl ∧ Blk wx b4 27 #[.slice none 0 0, vb] ∧ Blk wx b2 27 #[.slice none 0 0, .slice none 0 0] ∧ Below b2 w wx)
    case atStart => exact ⟨5, 0, [], .slice none 0 0, rfl, Nat.zero_le _, rfl, rfl, by omega, rfl, rfl, fun b hb => (by cases hb), Lo.nil _ _, k4, k2, q4⟩
    case round =>
      clear k4 k2 q4
      obtain ⟨i, k, bl, vb, rfl, hk, rfl, rfl, hi', hd, hbl, hb5, hlo, k4, k2, q4⟩ := hrel
      have HD := hide hd
      have HLO := hide hlo
      have HK4 := hide k4
      have HKB := hide k2
      have HBL := hide hbl
      have HB5 := hide hb5
      clear hd hlo k4 k2 hbl hb5
      obtain ⟨W, hW⟩ : ∃ W : World, W = wr := ⟨_, rfl⟩
      obtain ⟨n1, hn1⟩ : ∃ n1, n1 = wr.heap.size := ⟨_, rfl⟩
      have b0 : Below n1 W wr := by rw [hW, hn1]; exact Below.refl _ _
      have HW := hide hW
      have HN1 := hide hn1
      have hnw : n1 ≤ W.heap.size := by rw [hW]; omega
      clear hW hn1
      by_cases hkm : k < m
      · obtain ⟨c1, c2⟩ := (HM3.out k).1 hkm
        have d1 : decide ((k : Int) < (n : Int)) = true := decide_eq_true (by omega)
        have d2 : decide ((k : Int) < (300 : Int)) = true := decide_eq_true (by omega)
        clear c1 c2
        go_upto_block 2 with fail
        go_cut [6, 8] (fun s6 s8 wx => ∃ (i2 : Nat) (x : List Int), s6 = .int .i64 i2 ∧ i2 ≤ s.size ∧ dBlock (l.drop i) [] = (x, l.drop i2) ∧ x.length ≤ 511 ∧ wx.ownsRow n1 3 1 s8 x.length (intCells x) ∧ Below n1 W wx)
        case first =>
          go_wp2_with fail
          go_loopg [6, 8] (s.size - i) (fun g s6 s8 wx => ∃ (i2 : Nat) (x : List Int), g = s.size - i2 ∧ i2 ≤ s.size ∧ s6 = .int .i64 i2 ∧ dBlock (l.drop i) [] = dBlock (l.drop i2) x ∧ x.length ≤ 511 ∧ wx.ownsRow n1 3 1 s8 x.length (intCells x) ∧ Below n1 W wx)
          case atStart => exact ⟨i, [], rfl, hi', rfl, rfl, Nat.zero_le _, World.ownsRow_nil _ _ _ _, b0⟩
          case round =>
            obtain ⟨i2, x, rfl, hi2, rfl, hd, hx5, ho, hbw2⟩ := hrel
            have HD2 := hide hd
            have HO := hide ho
            clear hd ho b0
            by_cases hx : x.length < 256
            · have e1 : decide ((x.length : Int) < (256 : Int)) = true := decide_eq_true (by omega)
              obtain ⟨Ax, cx, ex, hcx, _⟩ := own_rds HO.out (Nat.le_refl _) (by omega)
              subst ex
              by_cases hi3p : i2 + 2 ≤ s.size
              · have e2 : decide ((i2 : Int) + 2 ≤ (s.size : Int)) = true := decide_eq_true (by omega)
                have h20 : i2 < s.size := by omega
                have h21 : i2 + 1 < s.size := by omega
                obtain ⟨i3p, hi3e⟩ : ∃ i3p, i3p = i2 + 1 := ⟨_, rfl⟩
                have h22 : i3p < s.size := by omega
                obtain ⟨cc, hcc⟩ : ∃ cc : Nat, cc = (s[i2]'h20).toNat := ⟨_, rfl⟩
                obtain ⟨y, hy⟩ : ∃ y : Nat, y = (s[i3p]'h22).toNat := ⟨_, rfl⟩
                have hcc6 : cc < 256 := by rw [hcc]; exact (s[i2]'h20).toNat_lt
                have hy6 : y < 256 := by rw [hy]; exact (s[i3p]'h22).toNat_lt
                have HST := hide (show dBlock (l.drop i2) x = dBlock (l.drop (i2 + 2)) (x ++ List.replicate (cc + 1) (y : Int)) by
                  have hl2 : i2 + 2 ≤ l.length := by have := HSL.out; omega
                  rw [dBlock_more hl2 hx, hcc, hy, HGI.out i2 h20 (by omega), HGI.out i3p h22 (by omega)]
                  subst hi3e
                  rfl)
                have gx : s[i2]'h20 = s[i2] := rfl
                have HI3 := hide (show (i2 : Int) + 1 = (i3p : Int) by omega)
                have HCC := hide hcc
                have HY := hide hy
                have hx255 : x.length ≤ 255 := by omega
                clear hcc hy hi3e gx h21 hx
                go_wp2_with fail
                go_loopg [8, 9] (cc + 1) (fun g s8 s9 wx => ∃ (j : Nat), g = cc + 1 - j ∧ j ≤ cc + 1 ∧ s9 = .int .i64 j ∧ wx.ownsRow n1 3 1 s8 (x.length + j) (intCells (x ++ List.replicate j (y : Int))) ∧ Below n1 W wx)
                case atStart => exact ⟨0, rfl, Nat.zero_le _, rfl, by simpa using HO.out, hbw2⟩
                case round =>
                  obtain ⟨j, rfl, hj, rfl, ho, hbw3⟩ := hrel
                  have HO3 := hide ho
                  clear ho hbw2 HO
                  by_cases hjc : j ≤ cc
                  · have e3 : (j : Int) ≤ ((s[i2]'h20).toNat : Int) := by rw [← HCC.out]; omega
                    have e4 := (s[i2]'h20).toNat_lt
                    have e5 := HI3.out
                    have e6 := (s[i3p]'h22).toNat_lt
                    have hyy : (s[i3p]'h22).toNat = y := HY.out.symm
                    have hsz3 := hbw3.size
                    have hx' : x.length ≤ 511 := hx5
                    go_wp2_with (at_builtin; go_must (refine wpList_append_own_at _ rfl (.tmp 66) (.tmp 72) 24 rfl n1 3 i3 _ 1 8 Tryd.underlying24 hi3 hz30 hz31 hz32 rfl (by decide) u8 (x.length + j) (intCells (x ++ List.replicate j (y : Int))) rfl (World.ownsRow.alloc HO3.out _) ⟨wr.heap.size, 0, none⟩ 1 1 [.int .i64 (y : Int)] rfl rfl (cell_one_new _ _ _) (by simp [Value.oneCell']) (by unfold maxLen; omega) (by omega) (by simp; omega) ?_); intro v' w9 hown9 hgrow9 _ _; have HOWN := hide hown9; have HGR := hide hgrow9; clear hown9 hgrow9)
                    go_roundg (cc + 1 - (j + 1))
                    case measure => omega
                    case rel =>
                      refine ⟨j + 1, rfl, by omega, by simp, ?_, ?_⟩
                      · rw [List.replicate_succ', ← List.append_assoc]
                        have := HOWN.out
                        simpa [intCells, Nat.add_assoc] using this
                      · exact hbw3.trans (((Below.refl n1 wr).alloc (by omega) _).grown HGR.out (by simp; omega) (fun k' e => (HO3.out.lt k' e).1))
                  · have e3 : ¬ ((j : Int) ≤ ((s[i2]'h20).toNat : Int)) := by rw [← HCC.out]; omega
                    have e4 := (s[i2]'h20).toNat_lt
                    obtain rfl : j = cc + 1 := by omega
                    have hi3p' : i2 + 2 ≤ s.size := hi3p
                    go_wp2_with fail
                    go_roundg (s.size - (i2 + 2))
                    case measure => omega
                    case rel =>
                      refine ⟨i2 + 2, x ++ List.replicate (cc + 1) (y : Int), rfl, by omega, by simp, ?_, ?_, ?_, hbw3⟩
                      · rw [HD2.out, HST.out]
                      · simp only [List.length_append, List.length_replicate]; omega
                      · have := HO3.out
                        simpa using this
              · have e2 : decide ((i2 : Int) + 2 ≤ (s.size : Int)) = false := decide_eq_false (by omega)
                go_wp2_with fail
                go_meet
                exact ⟨i2, x, rfl, hi2, by rw [HD2.out, dBlock_end (fun e => hi3p (by have := HSL.out; omega))], hx5, HO.out, hbw2⟩
            · have e1 : decide ((x.length : Int) < (256 : Int)) = false := decide_eq_false (by omega)
              obtain ⟨Ax, cx, ex, hcx, _⟩ := own_rds HO.out (Nat.le_refl _) (by omega)
              subst ex
              go_wp2_with fail
              go_meet
              exact ⟨i2, x, rfl, hi2, by rw [HD2.out, dBlock_end (fun e => hx e.1)], hx5, HO.out, hbw2⟩
        case rest =>
          obtain ⟨i2, x, rfl, hi2, hdx, hx5, ho, hbw2⟩ := hcut
          have hWr : wr.grownBy wc none := by
            have := HW.out
            subst this
            have h1 := HN1.out
            exact grown_of_below (by rw [← h1]; exact hbw2) none
          have lo2 := HLO.out.turn hWr (fun g e => by cases e)
          have k42 := HK4.out.grown hWr (by simp)
          have k22 := HKB.out.grown hWr (by simp)
          have q42 : Below b2 w wc := q4.grown hWr (Nat.le_trans hbw q4.size) (fun k e => by cases e)
          obtain ⟨ss, os, hsl, hrows⟩ := lo2
          have hbl3 : bl.length ≤ 300 := by have := HBL.out; omega
          obtain ⟨Ax, cx, ex, hcx, _⟩ := own_rds ho (Nat.le_refl _) (by omega)
          subst ex
          have hox := own_more ho (show b2 ≤ n1 by have := HN1.out; have := q4.size; omega)
          have HOS := hide os
          have HOX := hide hox
          have HRW := hide hrows
          have HK42 := hide k42
          have HK22 := hide k22
          have HDX := hide hdx
          have hszc := Nat.le_trans hbw q42.size
          obtain ⟨x0, x1⟩ := And.intro (k42.cell 0) (k42.cell 1)
          obtain ⟨f0, f1⟩ := And.intro (k42.frozen 0) (k42.frozen 1)
          have xl := k42.lt
          simp only [List.getElem?_toArray, List.getElem?_cons_zero, List.getElem?_cons_succ] at x0 x1
          have HNB := hide (own_ne (os.alloc (.cells #[.slice Ax x.length cx] 24)) (k42.alloc (.cells #[.slice Ax x.length cx] 24)) (by decide))
          have HNB2 := hide (own_ne (os.alloc (.cells #[.slice Ax x.length cx] 24)) (k22.alloc (.cells #[.slice Ax x.length cx] 24)) (by decide))
          clear hWr os ho hox hrows k42 k22 hdx hbw2 b0
          go_wp2_with (at_builtin; go_must (refine wpList_append_lies _ rfl (.tmp 77) (.tmp 79) 25 rfl b2 24 i0 (.slice none 0 0) 1 24 Tryd.underlying25 hi hz0 hz1 hzb rfl (by decide) vb bl.length (ss.map sv) rfl (HOS.out.alloc _) ⟨wc.heap.size, 0, none⟩ 1 1 [.slice Ax x.length cx] rfl rfl (cell_one_new _ _ _) (by simp [Value.oneCell']) (by omega) (by unfold maxLen; omega) (by omega) (by simp; omega) _ rfl ?_); intro g' cap' w9 hown9 hgrow9 _ _; have HOWN := hide hown9; have HGR := hide hgrow9; have HK9 := hide ((HK42.out.alloc (.cells #[.slice Ax x.length cx] 24)).grown hgrow9 HNB.out); have HK8 := hide ((HK22.out.alloc (.cells #[.slice Ax x.length cx] 24)).grown hgrow9 HNB2.out); clear hown9 hgrow9 x0 x1 f0 f1 xl; obtain ⟨x0, x1⟩ := And.intro (HK9.out.cell 0) (HK9.out.cell 1); obtain ⟨f0, f1⟩ := And.intro (HK9.out.frozen 0) (HK9.out.frozen 1); have xl := HK9.out.lt; simp only [List.getElem?_toArray, List.getElem?_cons_zero, List.getElem?_cons_succ] at x0 x1)
          go_roundg (m - (k + 1))
          case measure => omega
          case rel =>
            have hs9 := grownBy_setCell w9 b4 1 (.slice (some ⟨g', 0, none⟩) (bl.length + 1) cap')
            have hlo9 : Lo w9 b2 (.slice (some ⟨g', 0, none⟩) (bl.length + 1) cap') (bl ++ [x]) :=
              Lo.push (HOS.out.alloc _) hsl (fun i hi hi' => (HRW.out i hi hi').alloc _) (s := (Ax, x.length, cx)) HOWN.out HGR.out (HOX.out.alloc _)
            have q9 := (q42.alloc hszc (.cells #[.slice Ax x.length cx] 24)).grown HGR.out (by simp; omega) (fun k' e => (HOS.out.lt k' e).1)
            refine ⟨i2, k + 1, bl ++ [x], .slice (some ⟨g', 0, none⟩) (bl.length + 1) cap', rfl, by omega, rfl, by simp, hi2, ?_, by have := HBL.out; simp; omega, ?_, hlo9.turn hs9 (fun g e => by cases e; exact ⟨_, _, HK9.out, by decide, by decide⟩), HK9.out.set_ 1 _, HK8.out.far (p := ⟨b4, 1, none⟩) (by simp; omega) _, q9.grown hs9 (Nat.le_trans hbw q9.size) (fun k' e => by cases e; omega)⟩
            · rw [HD.out, show m - k = (m - (k + 1)) + 1 by omega, dBlocks, HDX.out]
            · intro b hb
              rcases List.mem_append.1 hb with hb | hb
              · exact HB5.out b hb
              · simp at hb; rw [hb]; exact hx5
      · have hkm' : k = m := by omega
        have hfin : dBlocks m [] (l.drop 5) = (bl, l.drop i) := by rw [HD.out, hkm', Nat.sub_self]; rfl
        have HF := hide hfin
        have hnot : ¬ (k < n ∧ k < 300) := fun e => hkm ((HM3.out k).2 e)
        clear hfin
        by_cases c1 : k < n
        · have d1 : (k : Int) < (n : Int) := by omega
          have d2 : ¬ ((k : Int) < (300 : Int)) := by omega
          clear hnot hkm' hkm c1
          go_wp2_with fail
          go_meet
          exact ⟨i, bl, vb, rfl, hi', HF.out, by have := HBL.out; omega, HB5.out, HLO.out, HK4.out, HKB.out, q4⟩
        · have d1 : ¬ ((k : Int) < (n : Int)) := by omega
          clear hnot hkm' hkm c1
          go_wp2_with fail
          go_meet
          exact ⟨i, bl, vb, rfl, hi', HF.out, by have := HBL.out; omega, HB5.out, HLO.out, HK4.out, HKB.out, q4⟩
  case rest =>
    obtain ⟨i, bl, vb, rfl, hi', hd, hbl, hb5, hlo, k4, k2, q4⟩ := hcut
    have hdec : decB l = ⟨dIx (l.drop i) [], bl⟩ := by rw [HDEC.out, hd]
    generalize wc = W at *
    obtain ⟨n1, hn1⟩ : ∃ n1, n1 = W.heap.size := ⟨_, rfl⟩
    have hbn1 : b2 ≤ n1 := by rw [hn1]; exact Nat.le_trans hbw q4.size
    have hb4n : b4 < n1 := by rw [hn1]; exact k4.lt
    have HN1 := hide hn1
    have HDE := hide hdec
    have HLO := hide hlo
    have HB5 := hide hb5
    have HK2 := hide k2
    have HK4 := hide k4
    clear hdec hn1 hlo hd HDEC hb5 k2 k4 HM3
    go_upto_block 6 with fail
    go_cut [6] (fun s6 wx => ∃ (ix : List Int) (vi : Value), wx.ownsRow n1 3 1 vi ix.length (intCells ix) ∧ ix.length ≤ 9000 ∧ dIx (l.drop i) [] = ix ∧ Blk wx b4 27 #[vi, vb] ∧ W.grownBy wx (some b4))
    case first =>
      obtain ⟨x0, x1⟩ := And.intro (HK4.out.cell 0) (HK4.out.cell 1)
      have xl := HK4.out.lt
      simp only [List.getElem?_toArray, List.getElem?_cons_zero, List.getElem?_cons_succ] at x0 x1
      go_wp2_with fail
      go_loopg [6] (s.size - i) (fun g s6 wx => ∃ (i2 : Nat) (ix : List Int) (vi : Value), g = s.size - i2 ∧ i2 ≤ s.size ∧ s6 = .int .i64 i2 ∧ dIx (l.drop i) [] = dIx (l.drop i2) ix ∧ ix.length ≤ 9000 ∧ wx.ownsRow n1 3 1 vi ix.length (intCells ix) ∧ Blk wx b4 27 #[vi, vb] ∧ W.grownBy wx (some b4))
      case atStart => exact ⟨i, [], .slice none 0 0, rfl, hi', rfl, rfl, Nat.zero_le _, World.ownsRow_nil _ _ _ _, HK4.out, ⟨rfl, rfl, rfl, Nat.le_refl _, fun _ _ _ => rfl⟩⟩
      case round =>
        obtain ⟨i2, ix, vi, rfl, hi2, rfl, hd2, hx9, ho, k4, hgr⟩ := hrel
        clear x0 x1 xl
        obtain ⟨Ai, ci, ei, hci, _⟩ := own_rds ho (Nat.le_refl _) (by omega)
        subst ei
        have HD2 := hide hd2
        have HO := hide ho
        have HK := hide k4
        have HG := hide hgr
        obtain ⟨x0, x1⟩ := And.intro (k4.cell 0) (k4.cell 1)
        have xl := k4.lt
        have hws := hgr.size
        simp only [List.getElem?_toArray, List.getElem?_cons_zero, List.getElem?_cons_succ] at x0 x1
        clear hd2 ho k4 hgr
        by_cases hx : ix.length < 4352
        · have e1 : (ix.length : Int) < (4352 : Int) := by omega
          by_cases hi4 : i2 + 4 ≤ s.size
          · have e2 : (i2 : Int) + 4 ≤ (s.size : Int) := by omega
            have h20 : i2 < s.size := by omega
            have h21 : i2 + 1 < s.size := by omega
            obtain ⟨i3p, hi3e⟩ : ∃ i3p, i3p = i2 + 2 := ⟨_, rfl⟩
            have h22 : i3p < s.size := by omega
            have h23 : i3p + 1 < s.size := by omega
            obtain ⟨kk, hkk⟩ : ∃ kk : Nat, kk = 256 * (s[i2]'h20).toNat + (s[i2 + 1]'h21).toNat := ⟨_, rfl⟩
            obtain ⟨vv, hvv⟩ : ∃ vv : Nat, vv = 256 * (s[i3p]'h22).toNat + (s[i3p + 1]'h23).toNat := ⟨_, rfl⟩
            obtain ⟨mm, hmm⟩ : ∃ mm : Nat, mm = min (kk + 1) 4353 := ⟨_, rfl⟩
            have hnA := fun W' => number_any s i2 W' (by omega) (by omega)
            have hnB := fun W' => number_any s i3p W' (by omega) (by omega)
            rw [show (256 : Int) * ((s[i2]'h20).toNat : Int) + ((s[i2 + 1]'h21).toNat : Int) = (kk : Int) by omega] at hnA
            rw [show (256 : Int) * ((s[i3p]'h22).toNat : Int) + ((s[i3p + 1]'h23).toNat : Int) = (vv : Int) by omega] at hnB
            have hkk6 : kk < 65536 := by have := (s[i2]'h20).toNat_lt; have := (s[i2 + 1]'h21).toNat_lt; omega
            have hvv6 : vv < 65536 := by have := (s[i3p]'h22).toNat_lt; have := (s[i3p + 1]'h23).toNat_lt; omega
            have HST := hide (show dIx (l.drop i2) ix = dIx (l.drop (i2 + 4)) (ix ++ List.replicate mm (vv : Int)) by
              have hl2 : i2 + 4 ≤ l.length := by have := HSL.out; omega
              subst hi3e
              have g0 := HGI.out i2 h20 (by omega)
              have g1 := HGI.out (i2 + 1) h21 (by omega)
              have g2 := HGI.out (i2 + 2) h22 (by omega)
              have g3 := HGI.out (i2 + 2 + 1) h23 (by omega)
              have g4 : l[i2 + 3]'(by omega) = l[i2 + 2 + 1]'(by omega) := rfl
              rw [dIx_more hl2 hx, ← g0, ← g1, ← g2, g4, ← g3, hmm, hkk, hvv, Nat.mul_comm 256, Nat.mul_comm 256])
            have HNA := hide hnA
            have HNB := hide hnB
            have HI3 := hide (show (i2 : Int) + 2 = (i3p : Int) by omega)
            have hmm1 : mm ≤ 4353 := by omega
            have HMM := hide (show ∀ j, j < mm ↔ (j ≤ kk ∧ j ≤ 4352) from fun j => by omega)
            clear hkk hvv hmm hi3e hnA hnB h21 h23
            go_wp2_with fail
            refine (HNA.out wr).mono ?_
            rintro e w6 ⟨rfl, hb⟩
            have hg6 := grown_of_below hb none
            have HO6 := hide (HO.out.kept hg6 (Classical.em _))
            have HK6 := hide (HK.out.grown hg6 (by simp))
            have HG6 := hide (kp_step HG.out hg6 (fun k e => by cases e))
            clear hb hg6 HO HK HG x0 x1 xl hws
            go_upto_block 8 with fail
            go_cut [11] (fun s11 wx => ∃ (vi : Value), wx.ownsRow n1 3 1 vi (ix ++ List.replicate mm (vv : Int)).length (intCells (ix ++ List.replicate mm (vv : Int))) ∧ Blk wx b4 27 #[vi, vb] ∧ W.grownBy wx (some b4))
            case first =>
              go_wp2_with fail
              go_loopg [11] mm (fun g s11 wx => ∃ (j : Nat) (vi : Value), g = mm - j ∧ j ≤ mm ∧ s11 = .int .i64 j ∧ wx.ownsRow n1 3 1 vi (ix.length + j) (intCells (ix ++ List.replicate j (vv : Int))) ∧ Blk wx b4 27 #[vi, vb] ∧ W.grownBy wx (some b4))
              case atStart => exact ⟨0, _, rfl, Nat.zero_le _, rfl, by simpa using HO6.out, HK6.out, HG6.out⟩
              case round =>
                obtain ⟨j, vi, rfl, hj, rfl, ho, k4, hgr⟩ := hrel
                have HOJ := hide ho
                have HKJ := hide k4
                have HGJ := hide hgr
                clear ho k4 hgr HO6 HK6 HG6
                by_cases hjm : j < mm
                · obtain ⟨c1, c2⟩ := (HMM.out j).1 hjm
                  have d1 : (j : Int) ≤ (kk : Int) := by omega
                  have d2 : (j : Int) ≤ (4352 : Int) := by omega
                  clear c1 c2
                  obtain ⟨Aj, cj, ej, hcj, _⟩ := own_rds HOJ.out (Nat.le_refl _) (by omega)
                  subst ej
                  go_wp2_with fail
                  refine wp_region_mix (fun w' => w'.cell? ⟨b4, 0, none⟩ = some (.slice Aj (ix.length + j) cj)) (fun k => decide (k < 7)) [(true, 0), (true, 1), (true, 2), (true, 3), (true, 4), (false, 5), (false, 6), (false, 7), (false, 8), (false, 9)] (by kernel_rfl) (by kernel_rfl) (fun _ _ d _ _ h => by cases d <;> exact h) ?_
                  obtain ⟨V, hV⟩ : ∃ V : World, V = wr.drew := ⟨_, rfl⟩
                  have HOV : Hid (V.ownsRow n1 3 1 (.slice Aj (ix.length + j) cj) (ix.length + j) (intCells (ix ++ List.replicate j (vv : Int)))) := hide (by rw [hV]; exact HOJ.out)
                  have HKV : Hid (Blk V b4 27 #[.slice Aj (ix.length + j) cj, vb]) := hide (by rw [hV]; exact HKJ.out)
                  have HGV : Hid (W.grownBy V (some b4)) := hide (by rw [hV]; exact grownBy_drewN HGJ.out 1)
                  rw [← hV]
                  clear hV HOJ HKJ HGJ
                  have c0 := HKV.out.cell 0
                  have cl := HKV.out.lt
                  simp only [List.getElem?_toArray, List.getElem?_cons_zero] at c0
                  have HS := hide c0
                  clear c0
                  refine mix_head (v := .pointer (some ⟨b4, 0, none⟩)) HS.out rfl rfl (fun W' hS' => by go_simp) ?_
                  go_frame
                  refine mix_head (v := .slice Aj (ix.length + j) cj) HS.out rfl rfl (fun W' hS' => by go_simp) ?_
                  go_frame
                  refine mix_head (v := .string s) HS.out rfl rfl (fun W' hS' => by rfl) ?_
                  go_frame
                  refine mix_head (v := .int .i64 i2) HS.out rfl rfl (fun W' hS' => by rfl) ?_
                  go_frame
                  refine mix_head (v := .int .i64 i3p) HS.out rfl rfl (fun W' hS' => by go_simp; rw [HI3.out]; exact IntWalk.i64_in _ (by omega)) ?_
                  go_frame
                  refine mix_step rfl rfl (fun K hK1 => ?_)
                  go_simp
                  refine (HNB.out V).mono ?_
                  rintro e V2 ⟨rfl, hb⟩
                  have hg6 := grown_of_below hb none
                  have HO2 := hide (HOV.out.kept hg6 (Classical.em _))
                  have HKV2 := hide (HKV.out.grown hg6 (by simp))
                  have HGV2 := hide (kp_step HGV.out hg6 (fun k e => by cases e))
                  have c0 := HKV2.out.cell 0
                  have cl2 := HKV2.out.lt
                  simp only [List.getElem?_toArray, List.getElem?_cons_zero] at c0
                  clear hb hg6 HOV HKV HGV HS cl
                  refine hK1 _ _ ⟨fun _ => c0, ?_⟩
                  refine mix_step rfl rfl (fun K hK2 => ?_)
                  go_simp
                  refine hK2 _ _ ⟨fun _ => (World.cell?_alloc_lt _ _ ⟨b4, 0, none⟩ cl2).trans c0, ?_⟩
                  refine mix_step rfl rfl (fun K hK3 => ?_)
                  have hs2 := HGV2.out.size
                  have hn1w : n1 ≤ V2.heap.size := by rw [HN1.out]; exact hs2
                  refine wp_append_lies _ (.tmp 106) (.tmp 111) 24 rfl n1 3 i3 (.int .i64 0) 1 8 Tryd.underlying24 hi3 hz30 hz31 hz32 rfl (by decide) (.slice Aj (ix.length + j) cj) (ix.length + j) (intCells (ix ++ List.replicate j (vv : Int))) rfl (HO2.out.alloc _) ⟨V2.heap.size, 0, none⟩ 1 1 [.int .i64 (vv : Int)] rfl rfl (cell_one_new _ _ _) (by simp [Value.oneCell']) (by omega) (by unfold maxLen; omega) (by omega) (by simp; omega) _ rfl ?_
                  intro g' cap' V4 hown hgrow _ _
                  have hne := own_ne (HO2.out.alloc (.cells #[.int .i64 (vv : Int)] 3)) (HKV2.out.alloc (.cells #[.int .i64 (vv : Int)] 3)) (by decide)
                  have HK4 := hide ((HKV2.out.alloc (.cells #[.int .i64 (vv : Int)] 3)).grown hgrow hne)
                  have HG4 := hide (kp_step (kp_step HGV2.out (World.grownBy_alloc V2 (.cells #[.int .i64 (vv : Int)] 3) none) (fun k e => by cases e)) hgrow (fun k e => .inl (by have := (HO2.out.lt k e).1; have := HN1.out; omega)))
                  have HO4 := hide hown
                  have c14 := HK4.out.cell 0
                  have f14 := HK4.out.frozen 0
                  have l14 := HK4.out.lt
                  simp only [List.getElem?_toArray, List.getElem?_cons_zero] at c14
                  clear hgrow hown HO2 HKV2 HGV2 c0 cl2 hne hs2 hn1w
                  refine hK3 _ _ ⟨fun h => (by cases h), ?_⟩
                  refine mix_step rfl rfl (fun K hK5 => ?_)
                  go_simp
                  refine hK5 _ _ ⟨fun h => (by cases h), ?_⟩
                  refine mix_step rfl rfl (fun K hK4 => ?_)
                  go_simp
                  refine hK4 _ _ ⟨fun h => (by cases h), ?_⟩
                  refine mix_nil ?_
                  go_wp2_with fail
                  go_roundg (mm - (j + 1))
                  case measure => omega
                  case rel =>
                    have hs5 := grownBy_setCell V4 b4 0 (.slice (some ⟨g', 0, none⟩) (ix.length + j + 1) cap')
                    refine ⟨j + 1, .slice (some ⟨g', 0, none⟩) (ix.length + j + 1) cap', rfl, by omega, by simp, ?_, HK4.out.set_ 0 _, kp_step HG4.out hs5 (fun k e => by cases e; exact .inr rfl)⟩
                    have h1 := turn_own HO4.out hs5 (fun g e => by cases e; exact ⟨_, _, HK4.out, by decide⟩)
                    rw [List.replicate_succ', ← List.append_assoc]
                    simpa [intCells, Nat.add_assoc] using h1
                · obtain rfl : j = mm := by omega
                  have hnot : ¬ (j ≤ kk ∧ j ≤ 4352) := fun e => hjm ((HMM.out j).2 e)
                  have HFIN := hide (show wr.ownsRow n1 3 1 vi (ix ++ List.replicate j (vv : Int)).length (intCells (ix ++ List.replicate j (vv : Int))) by
                    rw [List.length_append, List.length_replicate]; exact HOJ.out)
                  by_cases c1 : j ≤ kk
                  · have d1 : (j : Int) ≤ (kk : Int) := by omega
                    have d2 : ¬ ((j : Int) ≤ (4352 : Int)) := by omega
                    clear hnot hjm c1
                    go_wp2_with fail
                    go_meet
                    exact ⟨vi, HFIN.out, HKJ.out, HGJ.out⟩
                  · have d1 : ¬ ((j : Int) ≤ (kk : Int)) := by omega
                    clear hnot hjm c1
                    go_wp2_with fail
                    go_meet
                    exact ⟨vi, HFIN.out, HKJ.out, HGJ.out⟩
            case rest =>
              obtain ⟨vi, ho, k4, hgr⟩ := hcut
              have HOF := hide ho
              have HKF := hide k4
              have HGF := hide hgr
              clear ho k4 hgr
              go_wp2_with fail
              go_roundg (s.size - (i2 + 4))
              case measure => omega
              case rel =>
                refine ⟨i2 + 4, _, vi, rfl, hi4, by simp, by rw [HD2.out, HST.out], ?_, HOF.out, HKF.out, HGF.out⟩
                rw [List.length_append, List.length_replicate]; omega
          · have e2 : ¬ ((i2 : Int) + 4 ≤ (s.size : Int)) := by omega
            go_wp2_with fail
            go_meet
            exact ⟨ix, _, HO.out, hx9, by rw [HD2.out, dIx_end (fun e => hi4 (by have := HSL.out; omega))], HK.out, HG.out⟩
        · have e1 : ¬ ((ix.length : Int) < (4352 : Int)) := by omega
          go_wp2_with fail
          go_meet
          exact ⟨ix, _, HO.out, hx9, by rw [HD2.out, dIx_end (fun e => hx e.1)], HK.out, HG.out⟩
    case rest =>
      obtain ⟨ix, vi, ho, hx9, hdx, k4, hgr⟩ := hcut
      have hdec : decB l = ⟨ix, bl⟩ := by rw [HDE.out, hdx]
      have lo2 := HLO.out.turn hgr (fun g e => by cases e; exact ⟨_, _, HK4.out, by decide, by decide⟩)
      have k22 : Blk wc b2 27 #[.slice none 0 0, .slice none 0 0] := HK2.out.grown hgr (by intro e; cases e; omega)
      have q5 : Below b2 w wc := q4.grown hgr (Nat.le_trans hbw q4.size) (fun k e => by cases e; omega)
      obtain ⟨Ai, ci, ei, hci, hri⟩ := own_rds ho (Nat.le_refl _) (by omega)
      subst ei
      obtain ⟨A6, n6, c6, rfl, hc6', rfl, hrw6⟩ := lo2.rows (by omega) (fun b hb => by have := HB5.out b hb; omega)
      have htr : TrAt wc wc.heap.size Ai ix.length A6 bl.length ⟨ix, bl⟩ := ⟨hri, hrw6⟩
      have HTR := hide htr
      have hp := refPack_any Ai A6 ix.length ci bl.length c6 ⟨ix, bl⟩ wc htr
      have HRES := hide (show refLoadB s = if packedB ⟨ix, bl⟩ = (l, 0) then (⟨ix, bl⟩, 0) else noTr 60 by rw [HR2.out, hdec])
      obtain ⟨x0, x1⟩ := And.intro (k4.cell 0) (k4.cell 1)
      have xl := k4.lt
      simp only [List.getElem?_toArray, List.getElem?_cons_zero, List.getElem?_cons_succ] at x0 x1
      generalize packedB ⟨ix, bl⟩ = pb at *
      obtain ⟨pl, pk⟩ := pb
      simp only at hp
      obtain ⟨ps, hps⟩ : ∃ ps : ByteArray, ps = ⟨pl.toArray⟩ := ⟨_, rfl⟩
      rw [← hps] at hp
      have HPS := hide (show ps.data.toList = pl by rw [hps])
      clear hps
      have HP := hide hp
      have HK4' := hide k4
      have HK22 := hide k22
      have HLO2 := hide lo2
      have HO2 := hide ho
      clear hp hdec k4 k22 htr hri hrw6 ho hdx hgr HDE HLO HK2 HK4 HR2 q4
      go_wp2_with fail
      refine HP.out.mono ?_
      rintro e w7 ⟨rfl, hb⟩
      have k47 := HK4'.out.below hb HK4'.out.lt
      have k27 := HK22.out.below hb HK22.out.lt
      have q7 : Below b2 w w7 := q5.trans (hb.mono (Nat.le_trans hbw q5.size))
      have htr7 := (HTR.out.keep (w' := w7) (fun p hp => hb.cell hp)).more (B' := w7.heap.size) hb.size
      have HT7 := hide htr7
      have hb7 := grown_of_below hb none
      have lo7 := HLO2.out.turn hb7 (fun g e => by cases e)
      have o7 := HO2.out.kept hb7 (Classical.em _)
      have HTT := hide (show ∀ F, w7.grownBy F (some b2) → TrAt F F.heap.size Ai ix.length A6 bl.length ⟨ix, bl⟩ from fun F hg => by
        have oF := turn_own o7 hg (fun g e => by cases e; exact ⟨_, _, k27, by decide⟩)
        have lF := lo7.turn hg (fun g e => by cases e; exact ⟨_, _, k27, by decide, by decide⟩)
        obtain ⟨A8, c8, e8, _, r8⟩ := own_rds oF (Nat.le_refl _) (by omega)
        obtain ⟨A9, n9, c9, e9, _, e10, r9⟩ := lF.rows (by omega) (fun b hb => by have := HB5.out b hb; omega)
        injection e8 with e8 _ _
        injection e9 with e9 e11 _
        subst e8 e9 e10
        exact ⟨r8, r9⟩)
      clear hb7 lo7 o7 HLO2 HO2
      have HK27 := hide k27
      clear x0 x1 xl hb HTR HK22 HK4' HP htr7 q5 lo2 HB5 HT7
      obtain ⟨x0, x1⟩ := And.intro (k47.cell 0) (k47.cell 1)
      have xl := k47.lt
      obtain ⟨y0, y1⟩ := And.intro (k27.cell 0) (k27.cell 1)
      obtain ⟨f0, f1⟩ := And.intro (k27.frozen 0) (k27.frozen 1)
      have yl := k27.lt
      simp only [List.getElem?_toArray, List.getElem?_cons_zero, List.getElem?_cons_succ] at x0 x1 y0 y1
      clear k47 k27
      have hne4 : b2 ≠ b4 := by omega
      have q72 := fun (u0 u1 : Value) => (q7.grown (grownBy_setCell w7 b2 0 u0) (Nat.le_trans hbw q7.size) (fun k e => by cases e; exact Nat.le_refl _)).grown (grownBy_setCell (w7.setCell ⟨b2, 0, none⟩ u0) b2 1 u1) (by simp; exact Nat.le_trans hbw q7.size) (fun k e => by cases e; exact Nat.le_refl _)
      have HQ := hide q72
      clear q72
      by_cases hpk : pk = 0
      · subst hpk
        by_cases hpl : ps = s
        · subst hpl
          have hres : refLoadB ps = (⟨ix, bl⟩, 0) := by rw [HRES.out, if_pos]; rw [← HPS.out, HLG.out]
          go_wp2_with fail
          have kE := (HK27.out.set_ 0 (.slice Ai ix.length ci)).set_ 1 (.slice A6 bl.length c6)
          refine bodyPost_ret (results_cell_row_tmp rfl _ _ b2 27 _ _ _ rfl kE Tryd.underlying27 rfl (by kernel_rfl)) rfl ?_
          try rw [hres]
          have hq9 := (HQ.out (.slice Ai ix.length ci) (.slice A6 bl.length c6)).mono (show w.heap.size ≤ b2 by have := HB2.out; omega)
          have m1 := grownBy_setCell w7 b2 0 (.slice Ai ix.length ci)
          have m2 := grownBy_setCell (w7.setCell ⟨b2, 0, none⟩ (.slice Ai ix.length ci)) b2 1 (.slice A6 bl.length c6)
          exact ⟨Ai, ix.length, ci, A6, bl.length, c6, rfl, HTT.out _ (kp_step m1 m2 (fun k e => by cases e; exact .inr rfl)), hci, hc6', hq9⟩
        · have hpb1 : (ps.toList == s.toList) = false := by
            rw [beq_eq_false_iff_ne, ByteArray.toList_eq, ByteArray.toList_eq]
            exact fun e => hpl (bytes_of e)
          have hres : refLoadB s = noTr 60 := by rw [HRES.out, if_neg]; intro e; exact hpl (bytes_of (by rw [HPS.out, HLG.out]; exact congrArg Prod.fst e))
          go_wp2_with fail
          have kE := (HK27.out.set_ 0 (.slice none 0 0)).set_ 1 (.slice none 0 0)
          refine bodyPost_ret (results_cell_row_tmp rfl _ _ b2 27 _ _ _ rfl kE Tryd.underlying27 rfl (by kernel_rfl)) rfl ?_
          try rw [hres]
          exact out_nil _ ((HQ.out (.slice none 0 0) (.slice none 0 0)).mono (by have := HB2.out; omega))
      · have hp1 : (pk != 0) = true := by simpa using hpk
        have hres : refLoadB s = noTr 60 := by rw [HRES.out, if_neg]; intro e; exact hpk (congrArg Prod.snd e)
        clear hpk
        go_wp2_with fail
        have kE := (HK27.out.set_ 0 (.slice none 0 0)).set_ 1 (.slice none 0 0)
        refine bodyPost_ret (results_cell_row_tmp rfl _ _ b2 27 _ _ _ rfl kE Tryd.underlying27 rfl (by kernel_rfl)) rfl ?_
        try rw [hres]
        exact out_nil _ ((HQ.out (.slice none 0 0) (.slice none 0 0)).mono (by have := HB2.out; omega))
end Go.Proofs.YtibndkkbmgbogaaDoor
