/- The reference's Codes. Conditions: the text is of moderate size. -/
import Derived.Test.YtdmkjchmcgjjmaaDoorRefCode
import Derived.Test.YtdmkjchmcgjjmaaDoorRefTrim
import Derived.Test.YtdmkjchmcgjjmaaDoorRefSp
import Derived.Test.YtdmkjchmcgjjmaaDoorCodesL
namespace Go.Proofs.YtdmkjchmcgjjmaaDoor
open Go Go.RowKit

theorem u8_eq (c d : UInt8) : ((c.toNat : Int) == (d.toNat : Int)) = (c == d) := by
  rw [Bool.eq_iff_iff, beq_iff_eq, beq_iff_eq]
  exact ⟨fun e => UInt8.toNat_inj.1 (by omega), fun e => by rw [e]⟩
theorem pre_first {s : ByteArray} (h : 0 < s.size) : ((((s[0]'h).toNat : Nat) : Int) == 32) = Lib.hasPrefix s.data.toList [32] := by
  rw [cons_of h]
  have := u8_eq (s[0]'h) 32
  show ((((s[0]'h).toNat : Nat) : Int) == (((32 : UInt8).toNat : Nat) : Int)) = _
  rw [this]
  simp only [Lib.hasPrefix, List.isPrefixOf, Bool.and_true]
  rw [Bool.eq_iff_iff, beq_iff_eq, beq_iff_eq]
  exact eq_comm
theorem suf_last {s : ByteArray} (h : 0 < s.size) : ((((s[s.size - 1]'(by omega)).toNat : Nat) : Int) == 32) = Lib.hasSuffix s.data.toList [32] := by
  have := u8_eq (s[s.size - 1]'(by omega)) 32
  show ((((s[s.size - 1]'(by omega)).toNat : Nat) : Int) == (((32 : UInt8).toNat : Nat) : Int)) = _
  rw [this, snoc_of h]
  rw [suf_app (a := (s.extract 0 (s.size - 1)).data.toList) (b := [s[s.size - 1]'(by omega)]) (by simp)]
  generalize s[s.size - 1]'(by omega) = x
  unfold Lib.hasSuffix
  rw [Bool.eq_iff_iff, List.isSuffixOf_iff_suffix, beq_iff_eq]
  constructor
  · rintro rfl
    exact List.suffix_refl _
  · intro hs
    have := hs.eq_of_length rfl
    injection this with this
    exact this.symm
theorem codes_empty : codesB ⟨#[]⟩ = some [] := by decide +kernel

set_option maxRecDepth 100000 in
set_option maxHeartbeats 4000000 in
theorem refCodes_any (s : ByteArray) (w : World) (hs : s.size ≤ 100000) : Calls Tryd.prog 15 #[.string s] w (OwnI w (codesB s)) := by
  obtain ⟨i0, hi, hz0, hz1, hz2⟩ := info_parts info3
  by_cases he : s = ⟨#[]⟩
  · have q1 : (s.toList == []) = true := list_eq_true he
    have HC := hide (show codesB s = some [] by rw [he]; exact codes_empty)
    clear he
    go_enter Tryd.func15, Tryd.ntmps15
    go_wp2_with fail
    go_ret2
    exact ownI_some HC.out (World.ownsRow_nil _ _ _ _) (Below.refl _ _)
  have q1 : (s.toList == []) = false := list_eq_false he
  have h0 := size_of_ne he
  have hp := pre_first h0
  have hq := suf_last h0
  have hsp : Calls Tryd.prog 31 #[.string s, .int .u8 32] w (OwnS w (splitT 32 s)) := refSplit_any 32 s w hs
  have hsl := splitT_len 32 s
  have HC : Hid (codesB s = if Lib.hasPrefix s.data.toList [32] || Lib.hasSuffix s.data.toList [32] then none else foldC (splitT 32 s) []) := rfl
  have h0' : (0 : Int) < (s.size : Int) := by omega
  have d5 : IntKind.i64.wrap ((s.size : Int) - 1) = ((s.size - 1 : Nat) : Int) := by rw [IntWalk.i64_in _ (by omega)]; omega
  have d7 : ((s.size : Int) - 1).toNat = s.size - 1 := by omega
  have p2 : ((s.size - 1 : Nat) : Int) < (s.size : Int) := by omega
  have p3 : (s.size : Int) - 1 < (s.size : Int) := by omega
  have p4 : (0 : Int) ≤ (s.size : Int) - 1 := by omega
  generalize codesB s = C at *
  generalize Lib.hasPrefix s.data.toList [32] = p at *
  generalize Lib.hasSuffix s.data.toList [32] = q at *
  generalize splitT 32 s = L at *
  have HSL := hide hsl
  clear hsl he
  cases p with
  | true =>
    clear hsp
    go_enter Tryd.func15, Tryd.ntmps15
    go_wp2_with fail
    go_ret2
    exact ownI_none HC.out (Below.refl _ _)
  | false =>
    cases q with
    | true =>
      clear hsp
      go_enter Tryd.func15, Tryd.ntmps15
      go_wp2_with fail
      go_ret2
      exact ownI_none HC.out (Below.refl _ _)
    | false =>
      go_enter Tryd.func15, Tryd.ntmps15
      have HC2 : Hid (C = foldC L []) := HC.out
      clear HC
      go_wp2_with fail
      refine hsp.mono ?_
      rintro e w1 ⟨v1, rfl, h1, hb1⟩
      clear hsp
      obtain ⟨A1, c1, rfl, hc1, hr1⟩ := own_rds h1 (Nat.le_refl _) (by have := HSL.out; omega)
      clear h1
      go_wp2_with fail
      go_loopg [4, 6] L.length (fun g s4 s6 wx => ∃ (k : Nat) (out : List Int), g = L.length - k ∧ k ≤ L.length ∧ s6 = .int .i64 (k : Int) ∧ foldC L [] = foldC (L.drop k) out ∧ out.length ≤ k ∧ wx.ownsRow w1.heap.size 3 1 s4 out.length (intCells out) ∧ Below w1.heap.size w1 wx)
      case atStart => exact ⟨0, [], rfl, Nat.zero_le _, rfl, rfl, Nat.le_refl _, World.ownsRow_nil _ _ _ _, Below.refl _ _⟩
      case round =>
        obtain ⟨k, out, rfl, hk, rfl, hf, hol, hrow, hb⟩ := hrel
        have HF := hide hf
        have HOL := hide hol
        have HROW := hide hrow
        clear hf hol hrow
        by_cases hlt : k < L.length
        · obtain ⟨b', o', rfl, hbb, hcell⟩ := (hr1.below hb).str hlt
          have HN := hide (foldC_none hlt)
          have HS := hide (@foldC_some L k · hlt)
          have HE := hide (foldC_skip hlt)
          have HL := hide hlt
          have hlt' : (k : Int) < (L.length : Int) := by omega
          have hkn : (k : Int) + 1 ≤ 9223372036854775807 := by have := HSL.out; omega
          generalize hLk : L[k] = t at *
          clear hLk hlt
          by_cases ht : t = ⟨#[]⟩
          · have hte := list_eq_true (l := []) ht
            have HF2 := hide (HF.out.trans (HE.out ht out))
            clear HN HS HE ht
            go_wp2_with fail
            go_roundg (L.length - (k + 1))
            case measure => have := HL.out; omega
            case rel => exact ⟨k + 1, out, rfl, HL.out, rfl, HF2.out, by have := HOL.out; omega, HROW.out, hb⟩
          · have hte := list_eq_false (l := []) ht
            have hcode := refCode_any t wr
            have HCO : Hid (codeB t = none ∨ ∃ n, codeB t = some n) := by
              cases h : codeB t with
              | none => exact .inl rfl
              | some n => exact .inr ⟨n, rfl⟩
            rcases HCO.out with hc | ⟨n, hc⟩
            · rw [hc] at hcode
              have HF2 := hide (HF.out.trans (HN.out ht hc out))
              clear HN HS HE HCO ht
              go_wp2_with fail
              refine hcode.mono ?_
              rintro e _ ⟨rfl, rfl⟩
              clear hcode
              unfold codeV
              simp only [Option.isSome_none, Option.getD_none]
              go_wp2_with fail
              go_ret2
              refine ownI_none (HC2.out.trans HF2.out) ?_
              have h1 := hb1.size
              exact hb1.trans (hb.mono h1)
            · rw [hc] at hcode
              have HF2 := hide (HF.out.trans (HS.out n ht hc out))
              clear HN HS HE HCO ht hc
              go_wp2_with fail
              refine hcode.mono ?_
              rintro e _ ⟨rfl, rfl⟩
              clear hcode
              unfold codeV
              simp only [Option.isSome_some, Option.getD_some]
              have HROW2 := hide (HROW.out.alloc (.cells #[.int .i64 (n : Int)] 3))
              have CN := hide (cell_one_new wr (.int .i64 (n : Int)) 3)
              have HB2 := hide (hb.alloc hb.size (.cells #[.int .i64 (n : Int)] 3))
              have HSZ2 := hide hb.size
              go_wp2_with (at_builtin; (refine wpList_append_own _ rfl (.tmp 45) (.tmp 47) 26 rfl w1.heap.size 3 i0 (.int .i64 0) 1 8 Tryd.underlying26 hi hz0 hz1 hz2 rfl (by decide) _ out.length (intCells out) rfl HROW2.out ⟨wr.heap.size, 0, none⟩ 1 1 [.int .i64 (n : Int)] rfl rfl CN.out (by simp [Value.oneCell']) (by unfold maxLen; have := HOL.out; have := HSL.out; omega) (by have := HOL.out; have := HSL.out; omega) (by have := HSZ2.out; simp; omega) ?_); intro v' w3 hown1 hgrow1 _; have HO := hide hown1; have HG := hide hgrow1; clear hown1 hgrow1)
              go_roundg (L.length - (k + 1))
              case measure => have := HL.out; omega
              case rel =>
                refine ⟨k + 1, out ++ [(n : Int)], rfl, HL.out, rfl, HF2.out, by rw [List.length_append, List.length_cons, List.length_nil]; have := HOL.out; omega, ?_, ?_⟩
                · rw [List.length_append]
                  simpa [intCells] using HO.out
                · exact HB2.out.grown HG.out HB2.out.size (fun k e => (HROW2.out.lt k e).1)
        · have HF2 := hide (HF.out.trans (foldC_end hlt out))
          have hlt' : ¬ (k : Int) < (L.length : Int) := by omega
          clear hlt
          go_wp2_with fail
          go_ret2
          have h1 := hb1.size
          exact ownI_some (HC2.out.trans HF2.out) (own_more HROW.out h1) (hb1.trans (hb.mono h1))
end Go.Proofs.YtdmkjchmcgjjmaaDoor
