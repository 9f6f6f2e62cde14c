/- The reference's Parse. Conditions: the text is of moderate size. -/
import Derived.Test.YtdmkjchmcgjjmaaDoorRefLine
namespace Go.Proofs.YtdmkjchmcgjjmaaDoor
open Go Go.RowKit

theorem cells_new (w : World) (cs : List Value) (t : TypeId) : ∀ j u, cs[j]? = some u → (w.alloc (.cells cs.toArray t)).cell? ((⟨w.heap.size, 0, none⟩ : Addr).add j) = some u := fun j u hu => by
  rw [Addr.add_lit, Nat.zero_add, cell_new]
  simpa using hu
theorem four_one (l a b : Int) (A : Option Addr) (n c : Nat) : ∀ u ∈ ([.int .i64 l, .int .i64 a, .int .i64 b, .slice A n c] : List Value), u.oneCell' = true := by
  intro u hx
  simp only [List.mem_cons, List.not_mem_nil, or_false] at hx
  rcases hx with rfl | rfl | rfl | rfl <;> rfl
/-- a record's block is written that is none of the row's -/
theorem RowR.blk {w : World} {lo gx i : Nat} {v u : Value} {X : List RX} {cs : Array Value} (h : RowR w lo v X) (hb : Blk w gx 31 cs) (hne : ∀ k, v.ownBlock = some k → k < gx) : RowR (w.setCell ⟨gx, i, none⟩ u) lo v X := by
  refine ⟨h.row.kept (grownBy_setCell w gx i u) ?_, fun x hx => ⟨(h.fld x hx).1.grown hb (by decide) (grownBy_setCell w gx i u), (h.fld x hx).2⟩⟩
  cases hv : v.ownBlock with
  | none => exact .inl rfl
  | some k =>
    right
    intro e
    injection e with e
    have := hne k hv
    omega

set_option maxRecDepth 100000 in
set_option maxHeartbeats 4000000 in
theorem refParse_any (s : ByteArray) (w : World) (hs : s.size ≤ 20000) : Calls Tryd.prog 19 #[.string s] w (ParseA w (fileB s)) := by
  obtain ⟨i0, hi, hz0, hz1, hz2⟩ := info_parts info31
  have HFB := hide (show fileB s = readL (splitT 10 s) 0 [] by unfold fileB; rw [if_neg (by omega)])
  have hd : decide ((20000 : Int) < (s.size : Int)) = false := decide_eq_false (by omega)
  have hsp : Calls Tryd.prog 31 #[.string s, .int .u8 10] w (OwnS w (splitT 10 s)) := refSplit_any 10 s w (by omega)
  have hll : (splitT 10 s).length ≤ 20001 := Nat.le_trans (splitT_len 10 s).2 (by omega)
  have HZ := hide (show ∀ x ∈ splitT 10 s, x.size ≤ 100000 from fun x hx => Nat.le_trans (splitT_size hx) (by omega))
  generalize fileB s = R at *
  generalize splitT 10 s = L at *
  go_enter Tryd.func19, Tryd.ntmps19
  go_wp2_with fail
  refine hsp.mono ?_
  rintro e w1 ⟨v1, rfl, h1, b1⟩
  clear hsp
  obtain ⟨A1, c1, rfl, hc1, hr1⟩ := own_rds h1 (Nat.le_refl _) (by omega)
  have S1 := hide b1.size
  clear h1
  go_wp2_with fail
  go_loopg [5, 7] L.length (fun g s5 s7 wx => ∃ (k : Nat) (X : List RX), g = L.length - k ∧ k ≤ L.length ∧ s7 = .int .i64 (k : Int) ∧ readL L 0 [] = readL (L.drop k) k (X.map RX.rc) ∧ X.length ≤ k ∧ RowR wx w1.heap.size s5 X ∧ Below w1.heap.size w1 wx)
  case atStart => exact ⟨0, [], rfl, Nat.zero_le _, rfl, rfl, Nat.le_refl _, ⟨World.ownsRow_nil _ _ _ _, fun x hx => by cases hx⟩, Below.refl _ _⟩
  case round =>
    obtain ⟨k, X, rfl, hk, rfl, hf, hxk, rx, hb⟩ := hrel
    have HF := hide hf
    have RX0 := hide rx
    have HBB := hide hb
    have LXB := hide (show ∀ j, u5.ownBlock = some j → j < wr.heap.size from fun j e => (rx.row.lt j e).2)
    clear hf rx
    by_cases hlt : k < L.length
    · obtain ⟨bb, o, rfl, hbl, hcell⟩ := (hr1.below hb).str hlt
      have hli := refLine_any L[k] wr (HZ.out _ (List.getElem_mem hlt))
      have HS := hide (readL_skip hlt k (X.map RX.rc))
      have HE := hide (readL_err hlt k (X.map RX.rc))
      have HM := hide (fun a b fs => @readL_many L k hlt k (X.map RX.rc) a b fs)
      have HRC := hide (fun a b fs => @readL_rec L k hlt k (X.map RX.rc) a b fs)
      have HLS := hide (fun v => @line_some L[k] v)
      have hlt' : (k : Int) < (L.length : Int) := by omega
      have hkn : (k : Int) + 1 ≤ 9223372036854775807 := by omega
      have hl2 : (L.length : Int) ≤ 20001 := by omega
      have HLT := hide hlt
      have HSZ := hide hb.size
      generalize lineB L[k] = r at *
      generalize L[k] = t at *
      clear hlt hb
      obtain ⟨r1, r2⟩ := r
      go_wp2_with fail
      refine hli.mono ?_
      rintro e w2 ⟨a, b, fs, A, c, rfl, hra, hcase, b2⟩
      clear hli
      have HB2 := hide (HBB.out.trans (b2.mono HSZ.out))
      have RX2 := hide (RX0.out.below b2)
      have HLB := hide b2.size
      dsimp only at hra hcase HS HE HM HRC HLS ⊢
      cases r2 with
      | none =>
        dsimp only [Option.isSome_none]
        by_cases hr0 : r1 = 0
        · subst hr0
          have HF2 := hide (HF.out.trans (HS.out rfl rfl))
          clear hra hcase HE HM HRC HLS
          go_wp2_with fail
          go_roundg (L.length - (k + 1))
          case measure => have := HLT.out; omega
          case rel => exact ⟨k + 1, X, rfl, HLT.out, by simp, HF2.out, by omega, RX2.out.below ((Below.refl _ _).alloc (Nat.le_refl _) _), HB2.out.alloc HB2.out.size _⟩
        · have HF2 := hide (HF.out.trans (HE.out rfl hr0))
          have q1 : (r1 != 0) = true := by simpa using hr0
          clear hra hcase HS HM HRC HLS hr0
          go_wp2_with fail
          go_ret3
          exact ⟨[], .slice none 0 0, by rw [HFB.out, HF2.out]; rfl, by rw [HFB.out, HF2.out]; rfl, World.ownsRow_nil _ _ _ _, (fun x hx => by cases hx), b1.trans ((HB2.out.mono (Nat.le_refl _)).mono S1.out |>.alloc (Nat.le_trans S1.out HB2.out.size) _)⟩
      | some v =>
        dsimp only [Option.isSome_some]
        have hr1 := congrArg Prod.fst (HLS.out v rfl).1
        dsimp only at hr1
        subst hr1
        have hv : v = (a, b, fs) := hra
        subst hv
        have hfx : FldX w2 wr.heap.size ⟨0, a, b, fs, A, c⟩ := by
          rcases hcase with ⟨h, _⟩ | h
          · cases h
          · exact h
        have HFX := hide hfx
        clear hra hcase HS HE HLS hfx
        obtain ⟨gx, hgx⟩ : ∃ gx : Nat, gx = w2.heap.size := ⟨_, rfl⟩
        by_cases h300 : X.length = 300
        · have HF2 := hide (HF.out.trans (HM.out a b fs rfl (by rw [List.length_map]; exact h300)))
          have q1 : ((X.length : Int) == 300) = true := by rw [h300]; rfl
          obtain ⟨A5, k5, e5, hk5⟩ := RX2.out.form
          subst e5
          clear HM HRC h300
          go_wp2_with fail
          go_ret3
          exact ⟨[], .slice none 0 0, by rw [HFB.out, HF2.out]; rfl, by rw [HFB.out, HF2.out]; rfl, World.ownsRow_nil _ _ _ _, (fun x hx => by cases hx), b1.trans ((HB2.out.mono (Nat.le_refl _)).mono S1.out |>.alloc (Nat.le_trans S1.out HB2.out.size) _)⟩
        · have HF2 := hide (HF.out.trans (HRC.out a b fs rfl (by rw [List.length_map]; exact h300)))
          have q1 : ((X.length : Int) == 300) = false := by rw [beq_eq_false_iff_ne]; omega
          obtain ⟨A5, k5, e5, hk5⟩ := RX2.out.form
          subst e5
          have HN := hide (show X.length ≤ 20001 by omega)
          clear HM HRC h300
          obtain ⟨W4, hW4⟩ : ∃ W4 : World, W4 = w2.alloc (.cells #[.int .i64 ((k : Int) + 1), .int .i64 (a : Int), .int .i64 (b : Int), .slice A fs.length c] 31) := ⟨_, rfl⟩
          have b24 : Below w2.heap.size w2 W4 := by rw [hW4]; exact (Below.refl _ _).alloc (Nat.le_refl _) _
          have h4s : W4.heap.size = w2.heap.size + 1 := by rw [hW4]; simp
          have RX4 := hide (RX2.out.below b24)
          have HB4 := hide (HB2.out.trans (b24.mono HB2.out.size))
          have RX5 := hide (RX4.out.below ((Below.refl _ _).alloc (Nat.le_refl _) (.cells #[.int .i64 ((k : Int) + 1), .int .i64 (a : Int), .int .i64 (b : Int), .slice A fs.length c] 31)))
          have HB5 := hide (HB4.out.alloc HB4.out.size (.cells #[.int .i64 ((k : Int) + 1), .int .i64 (a : Int), .int .i64 (b : Int), .slice A fs.length c] 31))
          have HFX5 := hide (show FldX (W4.alloc (.cells #[.int .i64 ((k : Int) + 1), .int .i64 (a : Int), .int .i64 (b : Int), .slice A fs.length c] 31)) wr.heap.size ⟨k + 1, a, b, fs, A, c⟩ from ⟨(HFX.out.1.below b24).below ((Below.refl _ _).alloc (Nat.le_refl _) (.cells #[.int .i64 ((k : Int) + 1), .int .i64 (a : Int), .int .i64 (b : Int), .slice A fs.length c] 31)), HFX.out.2⟩)
          have CN := hide (cells_new W4 [.int .i64 ((k : Int) + 1), .int .i64 (a : Int), .int .i64 (b : Int), .slice A fs.length c] 31)
          have ONE := hide (four_one ((k : Int) + 1) (a : Int) (b : Int) A fs.length c)
          rw [h4s] at CN
          clear h4s b24 RX4
          subst hW4
          go_wp2_with (at_builtin; (refine wpList_append_own _ rfl (.tmp 46) (.tmp 48) 35 rfl w1.heap.size 31 i0 (.agg #[.int .i64 0, .int .i64 0, .int .i64 0, .slice none 0 0]) 4 48 Tryd.underlying35 hi hz0 hz1 hz2 rfl (by decide) _ X.length (recCells X) rfl RX5.out.row ⟨w2.heap.size + 1, 0, none⟩ 1 1 [.int .i64 ((k : Int) + 1), .int .i64 (a : Int), .int .i64 (b : Int), .slice A fs.length c] rfl rfl CN.out ONE.out (by have := HN.out; unfold maxLen; omega) (by have := HN.out; omega) HB5.out.size ?_); intro v' w5 hown1 hgrow1 _; have HO := hide hown1; have HG := hide hgrow1; clear hown1 hgrow1)
          go_roundg (L.length - (k + 1))
          case measure => have := HLT.out; omega
          case rel =>
            refine ⟨k + 1, X ++ [⟨k + 1, a, b, fs, A, c⟩], rfl, HLT.out, by simp, by rw [List.map_append]; exact HF2.out, by rw [List.length_append, List.length_cons, List.length_nil]; omega, ⟨?_, fun x hx => ?_⟩, HB5.out.grown HG.out HB5.out.size (fun j e => (RX5.out.row.lt j e).1)⟩
            · rw [List.length_append, recCells_snoc]
              exact HO.out
            · rcases List.mem_append.1 hx with hx | hx
              · exact ⟨(RX5.out.fld x hx).1.ownGrown RX5.out.row (by decide) HG.out, (RX5.out.fld x hx).2⟩
              · rw [List.mem_singleton] at hx
                subst hx
                exact ⟨(HFX5.out.1.ownGrown RX5.out.row (by decide) HG.out).lower HSZ.out, HFX5.out.2⟩
    · have HF2 := hide (HF.out.trans (readL_end hlt k (X.map RX.rc)))
      have hlt' : ¬ (k : Int) < (L.length : Int) := by omega
      clear hlt
      go_wp2_with fail
      go_ret3
      refine ⟨X, u5, by rw [HFB.out, HF2.out]; rfl, by rw [HFB.out, HF2.out], own_more RX0.out.row S1.out, fun x hx => ⟨(RX0.out.fld x hx).1.lower S1.out, (RX0.out.fld x hx).2⟩, b1.trans (HBB.out.mono S1.out)⟩
end Go.Proofs.YtdmkjchmcgjjmaaDoor
