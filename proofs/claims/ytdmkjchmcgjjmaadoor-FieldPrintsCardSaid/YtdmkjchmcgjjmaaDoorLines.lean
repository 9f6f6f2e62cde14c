/- The program's (*field.reader).lines: the iterator over a file's lines, for a body that reads records. Conditions: the file is of moderate size; the package's variables hold what they hold. -/
import Derived.RangeFuncBox
import Derived.RangeFuncLeaves
import Derived.RangeFuncWrites
import Derived.RangeFuncCalls
import Derived.RangeFuncNested
import Derived.Shelf.RegionOpen
import Derived.Shelf.Abstract
import Derived.OwnWalkIn
import Derived.TacticsInMore
import Derived.LoopNIn
import Derived.LoopIn
import Derived.Sort.CutIn
import Derived.WalkMore
import Derived.ControlIn
import Derived.BigQuiet
import Derived.Deep.QuietTactic
import Derived.Test.YtdmkjchmcgjjmaaDoorReadL
namespace Go.Proofs.YtdmkjchmcgjjmaaDoor
open Go Go.RowKit

theorem split_heap (c : UInt8) (s : ByteArray) (B : Nat) (m : Int) (w : World) (hE : FEnv w B m) (hs : s.size ≤ 100000) :
    Calls Tryd.prog 30 #[.string s, .string ⟨#[c]⟩] w fun e w' => e = .returned (.slice (some ⟨w.heap.size, 0, none⟩) (splitT c s).length (splitT c s).length) ∧
      w'.heap[w.heap.size]? = some (.cells (strCells (splitT c s)).toArray 9 (0, 0)) ∧ Below w.heap.size w w' := by
  have hl := Lib.splitB_all ⟨#[c]⟩ (one_sz c) 0 _ s rfl
  refine (Tryd.strings_Split s ⟨#[c]⟩ m w (by omega) hE.hM (one_sz c)).mono ?_
  rintro e w' ⟨rfl, rfl⟩
  have hl2 : (splitT c s).length = Lib.countB s ⟨#[c]⟩ + 1 := hl
  exact ⟨by rw [hl2], heap_alloc_new _ _, (Below.refl _ _).alloc (Nat.le_refl _) _⟩
theorem str_cell {w : World} {b : Nat} {L : List ByteArray} {k : Nat} (h : w.heap[b]? = some (.cells (strCells L).toArray 9 (0, 0))) (hk : k < L.length) : w.cell? ⟨b, k, none⟩ = some (.string L[k]) := by
  rw [cell_of_row w b k _ _ (0, 0) h]
  simp [strCells, hk]

/-- how the iterator ends -/
def LinesR (Hk : World → Prop) (Hs : Nat → Int → World → Prop) (n0 g : Nat) (s : ByteArray) (w0 : World) (L : List ByteArray) (e : Ending) (W' : World) : Prop :=
  (∃ v, e = .returned v) ∧ ((∃ X vo line, Hk W' ∧ St n0 g s w0 line X vo W' ∧ readL L 0 [] = (X.map RX.rc, 0, 0)) ∨ (∃ k line, Hs line k W' ∧ readL L 0 [] = ([], line, k)))
attribute [local go_sem] Oper.semAt_some

set_option maxRecDepth 100000 in
set_option maxHeartbeats 4000000 in
theorem lines1_in (n : Nat) (hn : 1 ≤ n) (n0 g bx lp : Nat) (s : ByteArray) (m : Int) (w0 W : World) (hE : FEnv w0 n0 m) (hs : s.size ≤ 20000)
    (Hk : World → Prop) (Hs : Nat → Int → World → Prop) (hHk : ∀ A B, Hk A → KeepsOthers A B → KeepT A B → Hk B)
    (hYe : ∀ (line : Nat) (X : List RX) (vo : Value) (k : Int) (W1 : World), k ≠ 0 → St n0 g s w0 line X vo W1 → Hk W1 →
      YieldAt Fence.wide (n - 1) Tryd.prog lp #[.pointer none, errW k] W1 fun e W' => e = .returned (.bool false) ∧ Hs line k W')
    (hYr : ∀ (line : Nat) (X : List RX) (vo : Value) (a b : Nat) (fs : List ByteArray) (gx : Nat) (A : Option Addr) (c : Nat) (W1 : World), line ≤ 20001 → X.length ≤ line → St n0 g s w0 line X vo W1 → Hk W1 →
      Blk W1 gx 31 #[.int .i64 0, .int .i64 (a : Int), .int .i64 (b : Int), .slice A fs.length c] → FldX W1 n0 ⟨line, a, b, fs, A, c⟩ → n0 ≤ gx → (∀ k, vo.ownBlock = some k → k < gx) →
      YieldAt Fence.wide (n - 1) Tryd.prog lp #[.pointer (some ⟨gx, 0, none⟩), .nilIface] W1 fun e W' =>
        (X.length = 300 ∧ e = .returned (.bool false) ∧ Hs line 24 W') ∨ (X.length ≠ 300 ∧ e = .returned (.bool true) ∧ Hk W' ∧ KeepT W1 W' ∧ ∃ vo', St n0 g s w0 line (X ++ [⟨line, a, b, fs, A, c⟩]) vo' W'))
    (hbx : W.heap[bx]? = some (.cells #[.pointer (some ⟨g, 0, none⟩)] 58 (0, 0))) (h0 : St n0 g s w0 0 [] (.slice none 0 0) W) (hk0 : Hk W) :
    CallsIn Fence.wide n Tryd.prog 72 #[.func (.yield lp) #[] #[], .pointer (some ⟨bx, 0, none⟩)] W (LinesR Hk Hs n0 g s w0 (splitT 10 s)) := by
  have hro : Fence.wide.round = none := rfl
  have hsp := split_heap 10 s n0 m W (hE.below h0.below) (by omega)
  have hsl := splitT_len 10 s
  have hsz : ∀ x ∈ splitT 10 s, x.size ≤ 100000 := fun x hx => by have := splitT_size hx; omega
  generalize splitT 10 s = L at *
  have HSL := hide (show L.length ≤ 20001 by omega)
  clear hsl
  refine callsIn_of_wp Tryd.func72 rfl trivial ?_ hro
  simp only [Tryd.ntmps72, List.size_toArray, List.length_cons, List.length_nil, Nat.reduceAdd, Nat.reduceSub, Array.replicate_succ, Array.replicate_zero, List.push_toArray, List.append_toArray, List.nil_append, List.cons_append]
  refine wpIn_wide.2 (wp_scope_straight (wpIn_wide (n := n).1 ?_))
  have cb := cell_of_row W bx 0 _ _ (0, 0) hbx
  have c0 := h0.blk.cell 0
  simp only [List.getElem?_toArray, List.getElem?_cons_zero] at cb c0
  have HSP := (callsIn_wide (n := n - 1)).2 hsp
  clear hsp
  gi_wp2_with fail
  refine wpIn_label ?_
  gi_wp2_with fail
  refine ⟨trivial, HSP.mono ?_⟩
  rintro e w1 ⟨rfl, hh1, hb1⟩
  clear HSP
  obtain ⟨bs, hbs⟩ : ∃ bs : Nat, bs = W.heap.size := ⟨_, rfl⟩
  rw [← hbs] at hh1
  rw [← hbs]
  have hk1 : Hk w1 := hHk _ _ hk0 (KeepsOthers.of_grownBy (below_grown hb1) (by simp)) (KeepT.below hb1)
  have hst1 := h0.turn hb1
  have hbx1 : w1.heap[bx]? = some (.cells #[.pointer (some ⟨g, 0, none⟩)] 58 (0, 0)) := (hb1.block bx (Array.getElem?_eq_some_iff.1 hbx).1).trans hbx
  clear h0 hk0 hbx hb1 hbs cb c0
  gi_wp2_with fail
  gi_loopw [14] (fun i wr => ∃ (k line : Nat) (X : List RX) (vo : Value), k ≤ L.length ∧ i = .int .i64 (k : Int) ∧ X.length ≤ k ∧ readL L 0 [] = readL (L.drop k) k (X.map RX.rc) ∧ St n0 g s w0 line X vo wr ∧ Hk wr ∧ wr.heap[bx]? = some (.cells #[.pointer (some ⟨g, 0, none⟩)] 58 (0, 0)) ∧ wr.heap[bs]? = some (.cells (strCells L).toArray 9 (0, 0))) (fun i _ => L.length - (intOf i).toNat)
  case atStart => exact ⟨0, 0, [], _, Nat.zero_le _, rfl, Nat.le_refl _, rfl, hst1, hk1, hbx1, hh1⟩
  case round =>
    obtain ⟨k, line, X, vo, hk, rfl, hxl, hrd, hst, hhk, hbxr, hsr⟩ := hrel
    have HRD := hide hrd
    have HXL := hide hxl
    have HHK := hide hhk
    have HY := hide hYe
    have HY2 := hide hYr
    clear hrd hxl hhk hst1 hk1 hbx1 hh1 hYe hYr
    by_cases hlt : k < L.length
    · have hsk := str_cell hsr hlt
      have HLK := hide (hsz L[k] (List.getElem_mem hlt))
      have HS1 := hide (readL_skip hlt k (X.map RX.rc))
      have HS2 := hide (readL_err hlt k (X.map RX.rc))
      have HS3 := hide (fun (a b : Nat) (fs : List ByteArray) => @readL_many L k hlt k (X.map RX.rc) a b fs)
      have HS4 := hide (fun (a b : Nat) (fs : List ByteArray) => @readL_rec L k hlt k (X.map RX.rc) a b fs)
      generalize L[k] = t at *
      have cb := cell_of_row wr bx 0 _ _ (0, 0) hbxr
      have c0 := hst.blk.cell 0
      have c1 := hst.blk.cell 1
      have c2 := hst.blk.cell 2
      have c3 := hst.blk.cell 3
      have f1 := hst.blk.frozen 1
      have lg := hst.blk.lt
      simp only [List.getElem?_toArray, List.getElem?_cons_zero, List.getElem?_cons_succ] at cb c0 c1 c2 c3
      have hst2 := hst.set (k + 1)
      have hhk2 := hHk _ _ HHK.out (KeepsOthers.setCell wr ⟨g, 1, none⟩ (.int .i64 ((k + 1 : Nat) : Int))) (KeepT.set hst.blk (.inr rfl) 1 _)
      have hne1 : bx ≠ g := fun e => by
        have h1 := hst.blk
        unfold Blk at h1
        rw [← e, hbxr] at h1
        injection h1 with h1
        injection h1 with _ h1
        exact absurd h1 (by decide)
      have hne2 : bs ≠ g := fun e => by
        have h1 := hst.blk
        unfold Blk at h1
        rw [← e, hsr] at h1
        injection h1 with h1
        injection h1 with _ h1
        exact absurd h1 (by decide)
      have hbx2 : (wr.setCell ⟨g, 1, none⟩ (.int .i64 ((k + 1 : Nat) : Int))).heap[bx]? = some (.cells #[.pointer (some ⟨g, 0, none⟩)] 58 (0, 0)) := (Below.heap_setCell _ _ _ _ hne1).trans hbxr
      have hs2 : (wr.setCell ⟨g, 1, none⟩ (.int .i64 ((k + 1 : Nat) : Int))).heap[bs]? = some (.cells (strCells L).toArray 9 (0, 0)) := (Below.heap_setCell _ _ _ _ hne2).trans hsr
      have hkk : ((k + 1 : Nat) : Int) = (k : Int) + 1 := rfl
      have hkb : (k : Int) + 1 ≤ 9223372036854775807 := by have := HSL.out; omega
      have hlt' : (k : Int) < (L.length : Int) := by omega
      have HREC := hide ((callsIn_wide (n := n - 1)).2 (record_any t n0 m (wr.setCell ⟨g, 1, none⟩ (.int .i64 ((k + 1 : Nat) : Int))) (hE.below hst2.below) hst2.size HLK.out))
      rw [hkk] at HREC hst2 hhk2 hbx2 hs2
      have HLT := hide hlt
      have HHK3 := hide hHk
      have HST2 := hide hst2
      have HHK2 := hide hhk2
      have HBX2 := hide hbx2
      have HS22 := hide hs2
      clear hkk hlt hsr hbxr hst hHk hst2 hhk2 hbx2 hs2
      gi_wp2_with fail
      refine ⟨trivial, HREC.out.mono ?_⟩
      rintro e w3 hrec
      clear HREC
      generalize hW2 : wr.setCell ⟨g, 1, none⟩ (.int .i64 ((k : Int) + 1)) = W2 at *
      have HST2' : Hid (St n0 g s w0 (k + 1) X vo W2) := HST2.out
      clear HST2 hW2
      rcases hrec with ⟨hn2, rfl, hb3⟩ | ⟨a, b, fs, gx, A, c, hR, ha, hb, rfl, hg, kg, hc, hf1, hf2, hfld, hb3⟩
      · have hst3 := HST2'.out.turn hb3
        have HHK4 := hide (HHK3.out _ _ HHK2.out (KeepsOthers.of_grownBy (below_grown hb3) (by simp)) (KeepT.below hb3))
        have HBX3 := hide ((hb3.block bx (Array.getElem?_eq_some_iff.1 HBX2.out).1).trans HBX2.out)
        have HS3' := hide ((hb3.block bs (Array.getElem?_eq_some_iff.1 HS22.out).1).trans HS22.out)
        by_cases h0 : (lineB t).1 = 0
        · have HF := hide (HRD.out.trans (HS1.out hn2 h0))
          have hev : errV (lineB t).1 = .nilIface := by rw [h0]; rfl
          rw [hev]
          clear hn2 h0 hev HS1 HS2 HS3 HS4 HST2'
          gi_upto_region 5 with fail
          iterate 24 (first | go_values | gi_guarded | gi_step | gi_upon | gi_in | go_simp)
          refine ⟨fun f h => (by cases h), ?_⟩
          gi_wp2_with fail
          go_roundw
          case rel => exact ⟨k + 1, k + 1, X, vo, HLT.out, by simp, by have := HXL.out; omega, HF.out, hst3, HHK4.out, HBX3.out, HS3'.out⟩
          case measure => have := HLT.out; simp [intOf]; omega
        · have HF := hide (HRD.out.trans (HS2.out hn2 h0))
          have hev : errV (lineB t).1 = errW (lineB t).1 := by unfold errV; rw [if_neg h0]
          rw [hev]
          obtain ⟨fn, tmps, assign, body, hy, hRy⟩ := HY.out (k + 1) X vo (lineB t).1 w3 h0 hst3 HHK4.out
          have HEW : Hid (errW (lineB t).1 = .iface 77 (.agg #[.int .i64 (lineB t).1])) := rfl
          rw [HEW.out] at hy ⊢
          clear hn2 h0 hev HS1 HS2 HS3 HS4 HST2' hst3 HEW
          generalize (lineB t).1 = kk at *
          gi_wp2_with fail
          refine hRy.mono ?_
          rintro e W4 ⟨rfl, hst4⟩
          gi_wp2_with fail
          try simp only [Exit.noGoto_normal]
          go_end0
          exact ⟨⟨_, rfl⟩, .inr ⟨kk, k + 1, hst4, HF.out⟩⟩
      · have hst3 := HST2'.out.turn hb3
        have HHK4 := hide (HHK3.out _ _ HHK2.out (KeepsOthers.of_grownBy (below_grown hb3) (by simp)) (KeepT.below hb3))
        have HBX3 := hide ((hb3.block bx (Array.getElem?_eq_some_iff.1 HBX2.out).1).trans HBX2.out)
        have HS3' := hide ((hb3.block bs (Array.getElem?_eq_some_iff.1 HS22.out).1).trans HS22.out)
        have hlo := HST2'.out.size
        have hown : ∀ q, vo.ownBlock = some q → q < gx := fun q e => Nat.lt_of_lt_of_le (HST2'.out.row.lt q e).2 hg
        obtain ⟨fn, tmps, assign, body, hy, hRy⟩ := HY2.out (k + 1) X vo a b fs gx A c w3 (by have := HLT.out; have := HSL.out; omega) (by have := HXL.out; omega) hst3 HHK4.out kg ⟨hfld.lower hlo, hc, hf1, hf2, ha, hb⟩ (Nat.le_trans hlo hg) hown
        have H3 := hide (HS3.out a b fs hR)
        have H4 := hide (HS4.out a b fs hR)
        clear HS1 HS2 HS3 HS4 HST2' hst3 hR ha hb hc hf1 hf2 hfld kg hlo hown hb3
        gi_wp2_with fail
        refine hRy.mono ?_
        rintro e W4 (⟨h300, rfl, hst4⟩ | ⟨h300, rfl, hk4, hkt4, vo4, hst4⟩)
        · have HF := hide (HRD.out.trans (H3.out (by rw [List.length_map]; exact h300)))
          clear H3 H4 h300
          gi_wp2_with fail
          try simp only [Exit.noGoto_normal]
          go_end0
          exact ⟨⟨_, rfl⟩, .inr ⟨24, k + 1, hst4, HF.out⟩⟩
        · have HF := hide (HRD.out.trans (H4.out (by rw [List.length_map]; exact h300)))
          have HBX4 := hide (hkt4.2 _ _ _ _ HBX3.out (by decide) (by decide))
          have HS4' := hide (hkt4.2 _ _ _ _ HS3'.out (by decide) (by decide))
          clear H3 H4 h300 hkt4
          gi_wp2_with fail
          go_roundw
          case rel =>
            refine ⟨k + 1, k + 1, _, vo4, HLT.out, by simp, ?_, ?_, hst4, hk4, HBX4.out, HS4'.out⟩
            · rw [List.length_append, List.length_cons, List.length_nil]
              have := HXL.out
              omega
            · rw [HF.out, List.map_append]
              rfl
          case measure => have := HLT.out; simp [intOf]; omega
    · obtain rfl : k = L.length := by omega
      have hno : ¬ (L.length : Int) < (L.length : Int) := by omega
      have HFI := hide (HRD.out.trans (readL_end hlt _ _))
      clear hlt
      gi_wp2_with fail
      try simp only [Exit.noGoto_normal]
      go_end0
      exact ⟨⟨_, rfl⟩, .inl ⟨X, vo, line, HHK.out, hst, HFI.out⟩⟩
end Go.Proofs.YtdmkjchmcgjjmaaDoor
