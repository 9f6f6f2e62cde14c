/- The reference's Line. Conditions: the text is of moderate size. -/
import Derived.Test.YtdmkjchmcgjjmaaDoorRefCodes
import Derived.Test.YtdmkjchmcgjjmaaDoorRowR
namespace Go.Proofs.YtdmkjchmcgjjmaaDoor
open Go Go.RowKit

theorem split_head (c : UInt8) (s : ByteArray) : ∃ r, splitT c s = cutH s ⟨#[c]⟩ :: r := by
  obtain ⟨x, r, e, h1, h2⟩ := splitT_cons c s
  refine ⟨r, ?_⟩
  rw [e]
  rcases h2 with ⟨_, rfl⟩ | ⟨q, e2, _⟩
  · rw [cutH_miss h1]
  · have e3 : s.data.toList = x.data.toList ++ c :: q.data.toList := by rw [e2]; simp
    rw [cutH_hit _ h1 e3]
def trimmed (k : Nat) (L : List ByteArray) : List ByteArray := (L.take k).map trimT ++ L.drop k
theorem trimmed_len (k : Nat) (L : List ByteArray) : (trimmed k L).length = L.length := by
  unfold trimmed
  rw [List.length_append, List.length_map, List.length_take, List.length_drop]
  omega
theorem trimmed_get {k : Nat} {L : List ByteArray} (h : k < L.length) : (trimmed k L)[k]'(by rw [trimmed_len]; exact h) = L[k] := by
  have hl : ((L.take k).map trimT).length = k := by rw [List.length_map, List.length_take]; omega
  unfold trimmed
  rw [List.getElem_append_right (by omega)]
  simp only [hl, List.getElem_drop]
  congr 1
  omega
theorem trimmed_step {k : Nat} {L : List ByteArray} (h : k < L.length) : (strCells (trimmed k L)).set k (.string (trimT L[k])) = strCells (trimmed (k + 1) L) := by
  have hl : ((L.take k).map trimT).length = k := by rw [List.length_map, List.length_take]; omega
  unfold strCells
  rw [← List.map_set]
  congr 1
  unfold trimmed
  rw [List.take_succ_eq_append_getElem h, List.map_append, List.append_assoc, List.set_append_right, drop_cons h, hl, Nat.sub_self]
  · rfl
  · rw [hl]
    exact Nat.le_refl _
theorem trimmed_all (L : List ByteArray) : trimmed L.length L = L.map trimT := by
  unfold trimmed
  rw [List.take_length, List.drop_length, List.append_nil]
/-- fields in a row of one's own, but for the first -/
theorem own_fld {w : World} {base n g c : Nat} {x : ByteArray} {fs : List ByteArray} (h : w.ownsRow base 9 1 (.slice (some ⟨g, 0, none⟩) n c) n (strCells (x :: fs))) : FldAt w base (some ⟨g, 1, none⟩) fs ∧ n ≤ c := by
  rcases h.2 with ⟨e, _⟩ | ⟨g', cap, cur, e, hb, hh, h1, h2, h3, h4⟩
  · injection e with e; cases e
  · injection e with e1 e2 e3
    injection e1 with e1
    injection e1 with e1
    subst e1 e3
    refine ⟨⟨g, 1, cur, rfl, hb, hh, fun j u hu => ?_⟩, h1⟩
    have h5 : (strCells (x :: fs))[1 + j]? = some u := by
      unfold strCells at hu ⊢
      rw [List.map_cons, Nat.add_comm 1 j, List.getElem?_cons_succ]
      exact hu
    rw [← h4, List.getElem?_take] at h5
    split at h5
    · simpa using h5
    · cases h5
/-- what the reference's Line answers -/
def LineR (w : World) (r : Int × Option (Nat × Nat × List ByteArray)) (e : Ending) (w' : World) : Prop :=
  ∃ (a b : Nat) (fs : List ByteArray) (A : Option Addr) (c : Nat), e = .returned (.tuple #[.agg #[.int .i64 0, .int .i64 (a : Int), .int .i64 (b : Int), .slice A fs.length c], .bool r.2.isSome, .int .i64 r.1]) ∧
    r.2.getD (0, 0, []) = (a, b, fs) ∧ ((r.2 = none ∧ A = none ∧ c = 0) ∨ FldX w' w.heap.size ⟨0, a, b, fs, A, c⟩) ∧ Below w.heap.size w w'

set_option maxRecDepth 100000 in
set_option maxHeartbeats 4000000 in
theorem refLine_any (s : ByteArray) (w : World) (hs : s.size ≤ 100000) : Calls Tryd.prog 17 #[.string s] w (LineR w (lineB s)) := by
  obtain ⟨r0, hsp⟩ := split_head 35 s
  have hbz : (bodyB s).size ≤ 100000 := Nat.le_trans (Nat.le_trans (trimT_size _) (cut_size _ _).1) hs
  have hcz : (cutH s ⟨#[35]⟩).size ≤ 100000 := Nat.le_trans (cut_size _ _).1 hs
  have hlen := (splitT_len 35 s).2
  have hc1 : ∀ W, Calls Tryd.prog 31 #[.string s, .int .u8 35] W (OwnS W (splitT 35 s)) := fun W => refSplit_any 35 s W hs
  have hc2 : ∀ W, Calls Tryd.prog 31 #[.string (bodyB s), .int .u8 59] W (OwnS W (splitT 59 (bodyB s))) := fun W => refSplit_any 59 (bodyB s) W hbz
  have htr := fun W => refTrim_any (cutH s ⟨#[35]⟩) W hcz
  have HB : Hid (trimT (cutH s ⟨#[35]⟩) = bodyB s) := rfl
  rw [HB.out] at htr
  have HLB : Hid (lineB s = if bodyB s = ⟨#[]⟩ then (0, none) else parseP ((splitT 59 (bodyB s)).map trimT)) := rfl
  have hl2 : 1 ≤ (splitT 59 (bodyB s)).length ∧ (splitT 59 (bodyB s)).length ≤ 100001 := ⟨(splitT_len 59 (bodyB s)).1, Nat.le_trans (splitT_len 59 (bodyB s)).2 (by omega)⟩
  have hz2 : ∀ x ∈ splitT 59 (bodyB s), x.size ≤ 100000 := fun x hx => Nat.le_trans (splitT_size hx) hbz
  rw [hsp] at hc1 hlen
  generalize lineB s = R at *
  generalize bodyB s = bd at *
  generalize cutH s ⟨#[35]⟩ = hd at *
  generalize splitT 59 bd = L at *
  have HC1 := hide hc1
  have HC2 := hide hc2
  have HTR := hide htr
  have HL2 := hide hl2
  have HZ2 := hide hz2
  have HLEN := hide hlen
  clear hc1 hc2 htr hl2 hz2 hsp HB hcz hbz hlen
  go_enter Tryd.func17, Tryd.ntmps17
  go_wp2_with fail
  obtain ⟨W0, hW0⟩ : ∃ W0 : World, W0 = w.alloc (.cells #[.int .i64 0, .int .i64 0, .int .i64 0, .slice none 0 0] 31) := ⟨_, rfl⟩
  obtain ⟨b0, hb0⟩ : ∃ b0 : Nat, b0 = w.heap.size := ⟨_, rfl⟩
  have kb : Blk W0 b0 31 #[.int .i64 0, .int .i64 0, .int .i64 0, .slice none 0 0] := by rw [hW0, hb0]; exact Blk.new _ _ _
  have hbl : Below w.heap.size w W0 := by rw [hW0]; exact (Below.refl _ _).alloc (Nat.le_refl _) _
  have hwb : w.heap.size ≤ b0 := by omega
  have HWB := hide hb0
  rw [← hW0, ← hb0]
  clear hW0 hb0
  go_wp2_with fail
  refine (HC1.out W0).mono ?_
  rintro e w1 ⟨v1, rfl, h1, hb1⟩
  have c1 := hbl.trans (hb1.mono hbl.size)
  have kb1 := kb.below hb1 kb.lt
  obtain ⟨A1, k1, rfl, hk1, hr1⟩ := own_rds h1 (Nat.le_refl _) (by have := HLEN.out; omega)
  obtain ⟨g1, o1, rfl, hg1, hcell⟩ := hr1.str (k := 0) (by simp)
  rw [List.getElem_cons_zero, Nat.add_zero] at hcell
  have hlp : (0 : Int) < (((hd :: r0).length : Nat) : Int) := by simp
  clear h1 hr1 kb
  go_wp2_with fail
  refine (HTR.out w1).mono ?_
  rintro e _ ⟨rfl, rfl⟩
  have C1 := hide c1
  have K1 := hide kb1
  have d0 := kb1.cell 0
  have d1 := kb1.cell 1
  have d2 := kb1.cell 2
  have d3 := kb1.cell 3
  have f0 := kb1.frozen 0
  have f1 := kb1.frozen 1
  have f2 := kb1.frozen 2
  have f3 := kb1.frozen 3
  have lb := kb1.lt
  simp only [List.getElem?_toArray, List.getElem?_cons_zero, List.getElem?_cons_succ] at d0 d1 d2 d3
  clear kb1 c1 hcell hb1 hbl
  by_cases hbd : bd = ⟨#[]⟩
  · have q1 : (bd.toList == []) = true := list_eq_true hbd
    have HR := hide (show R = (0, none) from HLB.out.trans (if_pos hbd))
    clear hbd
    go_wp2_with fail
    refine bodyPost_ret (results_cell_row_tmp2 rfl _ _ b0 31 _ _ _ rfl (set4_blk K1.out (.int .i64 0) (.int .i64 0) (.int .i64 0) (.slice none 0 0)) Tryd.underlying31 rfl (by kernel_rfl)) rfl ?_
    exact ⟨0, 0, [], none, 0, by rw [HR.out]; rfl, by rw [HR.out]; rfl, .inl ⟨by rw [HR.out], rfl, rfl⟩, C1.out.grown (set4_grown _ _ _ _ _ _) C1.out.size (fun k e => by cases e; exact hwb)⟩
  · have q1 : (bd.toList == []) = false := list_eq_false hbd
    have HR := hide (show R = parseP (L.map trimT) from HLB.out.trans (if_neg hbd))
    clear hbd
    go_wp2_with fail
    refine (HC2.out w1).mono ?_
    rintro e w2 ⟨v2, rfl, h2, hb2⟩
    have H2 := hide h2
    have C2 := hide (C1.out.trans (hb2.mono C1.out.size))
    have K2 := hide (K1.out.below hb2 lb)
    have S12 := hide (show w.heap.size ≤ w1.heap.size from C1.out.size)
    have hL1 := HL2.out.1
    obtain ⟨g, k2, rfl⟩ := own_some H2.out (by omega)
    clear h2 hb2 d0 d1 d2 d3 f0 f1 f2 f3 lb HC1 HC2 HTR
    go_wp2_with fail
    go_loopg [7] L.length (fun n s7 W => ∃ (k : Nat), n = L.length - k ∧ k ≤ L.length ∧ s7 = .int .i64 (k : Int) ∧ W.ownsRow w1.heap.size 9 1 (.slice (some ⟨g, 0, none⟩) L.length k2) L.length (strCells (trimmed k L)) ∧ Blk W b0 31 #[.int .i64 0, .int .i64 0, .int .i64 0, .slice none 0 0] ∧ Below w.heap.size w W)
    case atStart => exact ⟨0, rfl, Nat.zero_le _, rfl, H2.out, K2.out, C2.out⟩
    case round =>
      obtain ⟨k, rfl, hk, rfl, hrow, hblk, hb⟩ := hrel
      have HROW := hide hrow
      have HBLK := hide hblk
      have HBB := hide hb
      by_cases hlt : k < L.length
      · have hkt : k < (trimmed k L).length := by rw [trimmed_len]; exact hlt
        have hcell := hrow.cellAt k (by omega)
        have hfr := hrow.frozenAt k
        have hst := hrow.stored k (.string (trimT L[k]))
        rw [show (strCells (trimmed k L))[k]? = some (.string L[k]) by
          unfold strCells
          rw [List.getElem?_map, List.getElem?_eq_getElem hkt, trimmed_get hlt]
          rfl] at hcell
        rw [trimmed_step hlt] at hst
        have htt := refTrim_any L[k] wr (HZ2.out _ (List.getElem_mem hlt))
        have HST := hide hst
        have hlt' : (k : Int) < (L.length : Int) := by omega
        have hkn : (k : Int) + 1 ≤ 9223372036854775807 := by have := HL2.out.2; have := HL2.out.1; omega
        have HLT := hide hlt
        clear hst hrow hblk hb hkt
        generalize trimT L[k] = tt at *
        generalize L[k] = t at *
        clear hlt
        go_wp2_with fail
        refine htt.mono ?_
        rintro e _ ⟨rfl, rfl⟩
        go_wp2_with fail
        go_roundg (L.length - (k + 1))
        case measure => have := HLT.out; omega
        case rel => exact ⟨k + 1, rfl, HLT.out, by simp, HST.out.1, HBLK.out.grown HST.out.2 (own_ne HROW.out HBLK.out (by decide)), HBB.out.grown HST.out.2 HBB.out.size (fun k e => Nat.le_trans S12.out (HROW.out.lt k e).1)⟩
      · obtain rfl : k = L.length := by omega
        rw [trimmed_all] at HROW
        have hpl : (L.map trimT).length = L.length := List.length_map ..
        have hpz : ∀ x ∈ L.map trimT, x.size ≤ 100000 := fun x hx => by
          obtain ⟨y, hy, rfl⟩ := List.mem_map.1 hx
          exact Nat.le_trans (trimT_size y) (HZ2.out y hy)
        have hll := HL2.out
        clear hrow hblk hb hlt hk H2 K2 C2 HL2 HZ2 HLB
        generalize L.map trimT = P at *
        rw [← hpl] at HROW hll ⊢
        clear hpl
        cases P with
        | nil => exact absurd hll.1 (by simp)
        | cons p0 tl =>
          have hcell := HROW.out.cellAt 0 (by simp)
          rw [show (strCells (p0 :: tl))[0]? = some (.string p0) from rfl] at hcell
          have hen := fun W => refEnds_any p0 W (hpz p0 (by simp))
          have hfl := own_fld HROW.out
          have e0 := HBLK.out.cell 0
          have e1 := HBLK.out.cell 1
          have e2 := HBLK.out.cell 2
          have e3 := HBLK.out.cell 3
          have f0 := HBLK.out.frozen 0
          have f1 := HBLK.out.frozen 1
          have f2 := HBLK.out.frozen 2
          have f3 := HBLK.out.frozen 3
          have lb := HBLK.out.lt
          simp only [List.getElem?_toArray, List.getElem?_cons_zero, List.getElem?_cons_succ] at e0 e1 e2 e3
          have HFL := hide hfl
          have hlp : (0 : Int) < (((p0 :: tl).length : Nat) : Int) := by simp
          have hl1 : (1 : Int) ≤ (((p0 :: tl).length : Nat) : Int) := by simp; omega
          have htl : (p0 :: tl).length - 1 = tl.length := by simp
          have hlm : ((((p0 :: tl).length : Nat) : Int)) ≤ 100001 := by omega
          clear hfl hpz
          obtain ⟨N, hN⟩ : ∃ N, N = (p0 :: tl).length := ⟨_, rfl⟩
          rw [← hN] at HROW HFL hlp hl1 htl hlm hll ⊢
          go_wp2_with fail
          refine (hen wr).mono ?_
          rintro e _ ⟨a, b, rfl, ho, rfl⟩
          clear hen
          rcases ho with ho | ho
          · have HR2 := hide (HR.out.trans (parse_hex ho))
            rw [ho]
            dsimp only [Option.isSome_none]
            clear ho
            go_wp2_with fail
            refine bodyPost_ret (results_cell_row_tmp2 rfl _ _ b0 31 _ _ _ rfl (set4_blk HBLK.out (.int .i64 0) (.int .i64 0) (.int .i64 0) (.slice none 0 0)) Tryd.underlying31 rfl (by kernel_rfl)) rfl ?_
            exact ⟨0, 0, [], none, 0, by rw [HR2.out]; rfl, by rw [HR2.out]; rfl, .inl ⟨by rw [HR2.out], rfl, rfl⟩, HBB.out.grown (set4_grown _ _ _ _ _ _) HBB.out.size (fun k e => by cases e; exact hwb)⟩
          · have HO := hide ho
            rw [ho]
            dsimp only [Option.isSome_some]
            clear ho
            by_cases hba : b < a
            · have HR2 := hide (HR.out.trans (parse_range HO.out (.inl hba)))
              have p1 : (b : Int) < (a : Int) := by omega
              clear hba
              go_wp2_with fail
              refine bodyPost_ret (results_cell_row_tmp2 rfl _ _ b0 31 _ _ _ rfl (set4_blk HBLK.out (.int .i64 0) (.int .i64 0) (.int .i64 0) (.slice none 0 0)) Tryd.underlying31 rfl (by kernel_rfl)) rfl ?_
              exact ⟨0, 0, [], none, 0, by rw [HR2.out]; rfl, by rw [HR2.out]; rfl, .inl ⟨by rw [HR2.out], rfl, rfl⟩, HBB.out.grown (set4_grown _ _ _ _ _ _) HBB.out.size (fun k e => by cases e; exact hwb)⟩
            · by_cases hbm : 1114111 < b
              · have HR2 := hide (HR.out.trans (parse_range HO.out (.inr hbm)))
                have p1 : ¬ (b : Int) < (a : Int) := by omega
                have p2 : (1114111 : Int) < (b : Int) := by omega
                clear hba hbm
                go_wp2_with fail
                refine bodyPost_ret (results_cell_row_tmp2 rfl _ _ b0 31 _ _ _ rfl (set4_blk HBLK.out (.int .i64 0) (.int .i64 0) (.int .i64 0) (.slice none 0 0)) Tryd.underlying31 rfl (by kernel_rfl)) rfl ?_
                exact ⟨0, 0, [], none, 0, by rw [HR2.out]; rfl, by rw [HR2.out]; rfl, .inl ⟨by rw [HR2.out], rfl, rfl⟩, HBB.out.grown (set4_grown _ _ _ _ _ _) HBB.out.size (fun k e => by cases e; exact hwb)⟩
              · by_cases hn1 : N < 2
                · have HR2 := hide (HR.out.trans (parse_field HO.out (by omega) (.inl (by omega))))
                  have p1 : ¬ (b : Int) < (a : Int) := by omega
                  have p2 : ¬ (1114111 : Int) < (b : Int) := by omega
                  have p3 : (N : Int) < 2 := by omega
                  clear hba hbm hn1 hN
                  go_wp2_with fail
                  refine bodyPost_ret (results_cell_row_tmp2 rfl _ _ b0 31 _ _ _ rfl (set4_blk HBLK.out (.int .i64 0) (.int .i64 0) (.int .i64 0) (.slice none 0 0)) Tryd.underlying31 rfl (by kernel_rfl)) rfl ?_
                  exact ⟨0, 0, [], none, 0, by rw [HR2.out]; rfl, by rw [HR2.out]; rfl, .inl ⟨by rw [HR2.out], rfl, rfl⟩, HBB.out.grown (set4_grown _ _ _ _ _ _) HBB.out.size (fun k e => by cases e; exact hwb)⟩
                · by_cases hn2 : 21 < N
                  · have HR2 := hide (HR.out.trans (parse_field HO.out (by omega) (.inr (by omega))))
                    have p1 : ¬ (b : Int) < (a : Int) := by omega
                    have p2 : ¬ (1114111 : Int) < (b : Int) := by omega
                    have p3 : ¬ (N : Int) < 2 := by omega
                    have p4 : (21 : Int) < (N : Int) := by omega
                    clear hba hbm hn1 hn2 hN
                    go_wp2_with fail
                    refine bodyPost_ret (results_cell_row_tmp2 rfl _ _ b0 31 _ _ _ rfl (set4_blk HBLK.out (.int .i64 0) (.int .i64 0) (.int .i64 0) (.slice none 0 0)) Tryd.underlying31 rfl (by kernel_rfl)) rfl ?_
                    exact ⟨0, 0, [], none, 0, by rw [HR2.out]; rfl, by rw [HR2.out]; rfl, .inl ⟨by rw [HR2.out], rfl, rfl⟩, HBB.out.grown (set4_grown _ _ _ _ _ _) HBB.out.size (fun k e => by cases e; exact hwb)⟩
                  · have HR2 := hide (HR.out.trans (parse_ok HO.out (by omega) (by omega)))
                    have p1 : ¬ (b : Int) < (a : Int) := by omega
                    have p2 : ¬ (1114111 : Int) < (b : Int) := by omega
                    have p3 : ¬ (N : Int) < 2 := by omega
                    have p4 : ¬ (21 : Int) < (N : Int) := by omega
                    have HN := hide (show tl.length = N - 1 ∧ 2 ≤ N ∧ N ≤ 21 ∧ a ≤ b ∧ b ≤ 1114111 by omega)
                    have hk3 : ¬ k2 = 1 := by have := HFL.out.2; omega
                    have HFX := hide (FldAt.grown (HFL.out.1.lower S12.out) HBLK.out (by decide) (set4_grown wr b0 (.int .i64 0) (.int .i64 (a : Int)) (.int .i64 (b : Int)) (.slice (some ⟨g, 1, none⟩) tl.length (k2 - 1))))
                    have HKC := hide (show tl.length ≤ k2 - 1 by have := HFL.out.2; omega)
                    clear hba hbm hn1 hn2 hN
                    go_wp2_with fail
                    refine bodyPost_ret (results_cell_row_tmp2 rfl _ _ b0 31 _ _ _ rfl (set4_blk HBLK.out (.int .i64 0) (.int .i64 (a : Int)) (.int .i64 (b : Int)) (.slice (some ⟨g, 1, none⟩) tl.length (k2 - 1))) Tryd.underlying31 rfl (by kernel_rfl)) rfl ?_
                    refine ⟨a, b, tl, some ⟨g, 1, none⟩, k2 - 1, by rw [HR2.out]; rfl, by rw [HR2.out]; rfl, .inr ⟨HFX.out, HKC.out, ?_, ?_, ?_, ?_⟩, HBB.out.grown (set4_grown _ _ _ _ _ _) HBB.out.size (fun k e => by cases e; exact hwb)⟩
                    · show 1 ≤ tl.length
                      have := HN.out; omega
                    · show tl.length ≤ 20
                      have := HN.out; omega
                    · show a < 2 ^ 24
                      have : (2 : Nat) ^ 24 = 16777216 := (by decide)
                      have := HN.out; omega
                    · show b < 2 ^ 24
                      have : (2 : Nat) ^ 24 = 16777216 := (by decide)
                      have := HN.out; omega
end Go.Proofs.YtdmkjchmcgjjmaaDoor
