/- The walk of the law FieldCase. Conditions: the packages' variables hold what they hold. -/
import Derived.Test.YtdmkjchmcgjjmaaDoorShown
import Derived.Laws.IdiomStrings
import Derived.Laws.BytesArg
namespace Go.Proofs.YtdmkjchmcgjjmaaDoor
open Go Go.RowKit

/-- a letter's other size -/
def swapC (c : UInt8) : UInt8 := if 97 ≤ c.toNat ∧ c.toNat ≤ 102 then UInt8.ofNat (c.toNat - 32) else if 65 ≤ c.toNat ∧ c.toNat ≤ 70 then UInt8.ofNat (c.toNat + 32) else c
theorem swap_nat (c : UInt8) : (swapC c).toNat = if 97 ≤ c.toNat ∧ c.toNat ≤ 102 then c.toNat - 32 else if 65 ≤ c.toNat ∧ c.toNat ≤ 70 then c.toNat + 32 else c.toNat := by
  unfold swapC
  split
  · rw [UInt8.toNat_ofNat']; omega
  · split
    · rw [UInt8.toNat_ofNat']; omega
    · rfl
theorem hex_swap (c : UInt8) : hexV ((swapC c).toNat : Int) = hexV (c.toNat : Int) := by
  rw [swap_nat]
  unfold hexV
  split
  · rw [if_neg (by omega), if_neg (by omega), if_pos (by omega), if_neg (by omega), if_pos (by omega)]
    congr 1
    omega
  · split
    · rw [if_neg (by omega), if_pos (by omega), if_neg (by omega), if_neg (by omega), if_pos (by omega)]
      congr 1
      omega
    · rfl
theorem fold_swap : ∀ (l : List UInt8) (n : Nat), foldX (l.map swapC) n = foldX l n
  | [], _ => rfl
  | c :: r, n => by
    rw [List.map_cons, foldX, foldX, hex_swap]
    cases hexV (c.toNat : Int) with
    | none => rfl
    | some d => exact fold_swap r _
def swapS (s : ByteArray) : ByteArray := ⟨(s.data.toList.map swapC).toArray⟩
theorem code_swap (s : ByteArray) : codeB (swapS s) = codeB s := by
  unfold codeB swapS
  rw [size_mk, List.length_map]
  show (if 4 ≤ s.size ∧ s.size ≤ 6 then _ else _) = _
  rw [show (⟨(s.data.toList.map swapC).toArray⟩ : ByteArray).data.toList = s.data.toList.map swapC from rfl, fold_swap]
/-- bytes of one's own, as a text -/
theorem conv_own {w : World} {base : Nat} {v : Value} {l : List UInt8} (h : w.ownsRow base 5 1 v l.length (Lib.byteCells l)) : (convert 42 9 v).run Tryd.prog w = .ok (.string ⟨l.toArray⟩) w := by
  rcases h.2 with ⟨rfl, h0⟩ | ⟨g, cap, cur, rfl, _⟩
  · rw [List.length_eq_zero_iff.1 h0]
    exact run_convert_bytes_nil w 42 5 Tryd.underlying42 Tryd.underlying5 0 0 9 Tryd.underlying9
  · exact run_convert_bytes_back w 42 9 5 ⟨g, 0, none⟩ cap l Tryd.underlying42 Tryd.underlying5 Tryd.underlying9 (fun j hj => h.cells (g := g) rfl j _ (by simp [Lib.byteCells, hj]))
theorem swaps_step {L : List UInt8} {k : Nat} (h : k < L.length) : Lib.byteCells ((L.take k).map swapC) ++ [.int .u8 ((swapC L[k]).toNat : Int)] = Lib.byteCells ((L.take (k + 1)).map swapC) := by
  rw [List.take_succ_eq_append_getElem h, List.map_append]
  simp [Lib.byteCells]

theorem info5 : (Tryd.prog.info? 5).map (fun i => (i.zero, i.size, i.bytes)) = some (some (.int .u8 0), 1, 1) := by kernel_rfl

set_option maxRecDepth 100000 in
set_option maxHeartbeats 4000000 in
theorem case_any (s0 : ByteArray) (B : Nat) (m : Int) (w : World) (hE : FEnv w B m) (hB : B ≤ w.heap.size) : Calls Tryd.prog 5 #[.string s0] w (Freed w (.bool true)) := by
  obtain ⟨i0, hi, hz0, hz1, hz2⟩ := info_parts info5
  have hsh := shown_any B m w hE hB
  clear hE hB
  go_enter Tryd.func5, Tryd.ntmps5
  go_wp2_with fail
  refine hsh.mono ?_
  rintro e w1 ⟨rfl, b1⟩
  clear hsh
  go_wp2_with fail
  have hs : (s0.extract 0 (min (s0.size : Int) 60).toNat).size ≤ 60 := by rw [ByteArray.size_extract]; omega
  generalize s0.extract 0 (min (s0.size : Int) 60).toNat = s at *
  go_loopg [4, 5] s.size (fun g s4 s5 wx => ∃ (k : Nat), g = s.size - k ∧ k ≤ s.size ∧ s5 = .int .i64 (k : Int) ∧ wx.ownsRow w.heap.size 5 1 s4 k (Lib.byteCells ((s.data.toList.take k).map swapC)) ∧ Below w.heap.size w wx)
  case atStart => exact ⟨0, rfl, Nat.zero_le _, rfl, World.ownsRow_nil _ _ _ _, b1⟩
  case round =>
    obtain ⟨k, rfl, hk, rfl, hrow, hb⟩ := hrel
    have HROW0 := hide hrow
    by_cases hlt : k < s.size
    · have hlt' : (k : Int) < (s.size : Int) := by omega
      have hll : k < s.data.toList.length := by simpa using hlt
      obtain ⟨y, hy⟩ : ∃ y : Nat, y = (swapC (s[k]'hlt)).toNat := ⟨_, rfl⟩
      have HST := hide (show Lib.byteCells ((s.data.toList.take k).map swapC) ++ [.int .u8 (y : Int)] = Lib.byteCells ((s.data.toList.take (k + 1)).map swapC) by rw [hy]; exact swaps_step hll)
      have HROW := hide (hrow.alloc (.cells #[.int .u8 (y : Int)] 5))
      have CN := hide (cell_one_new wr (.int .u8 (y : Int)) 5)
      have HB2 := hide (hb.alloc hb.size (.cells #[.int .u8 (y : Int)] 5))
      have hsz := hb.size
      clear hrow HROW0
      rw [swap_nat] at hy
      have hx8 : (s[k]'hlt).toNat < 256 := UInt8.toNat_lt _
      obtain ⟨x, hx⟩ : ∃ x : Nat, x = (s[k]'hlt).toNat := ⟨_, rfl⟩
      by_cases h1 : 97 ≤ (s[k]'hlt).toNat
      · by_cases h2 : (s[k]'hlt).toNat ≤ 102
        · rw [if_pos ⟨h1, h2⟩] at hy
          subst hy
          have hy' : (((s[k]'hlt).toNat : Nat) : Int) - 32 = (((s[k]'hlt).toNat - 32 : Nat) : Int) := by omega
          go_wp2_with (at_builtin; (refine wpList_append_own _ rfl (.tmp 44) (.tmp 46) 42 rfl w.heap.size 5 i0 (.int .u8 0) 1 1 Tryd.underlying42 hi hz0 hz1 hz2 rfl (by decide) _ k (Lib.byteCells ((s.data.toList.take k).map swapC)) rfl HROW.out ⟨wr.heap.size, 0, none⟩ 1 1 [.int .u8 ((((s[k]'hlt).toNat - 32 : Nat) : Int))] rfl rfl CN.out (by simp [Value.oneCell']) (by unfold maxLen; omega) (by omega) (by simp; omega) ?_); intro v' w3 hown1 hgrow1 _; have HO := hide hown1; have HG := hide hgrow1; clear hown1 hgrow1)
          go_roundg (s.size - (k + 1))
          case measure => omega
          case rel =>
            refine ⟨k + 1, rfl, by omega, rfl, ?_, ?_⟩
            · rw [← HST.out]
              exact HO.out
            · exact HB2.out.grown HG.out HB2.out.size (fun k e => (HROW.out.lt k e).1)
        · rw [if_neg (by omega), if_neg (by omega)] at hy
          subst hy
          go_wp2_with (at_builtin; (refine wpList_append_own _ rfl (.tmp 44) (.tmp 46) 42 rfl w.heap.size 5 i0 (.int .u8 0) 1 1 Tryd.underlying42 hi hz0 hz1 hz2 rfl (by decide) _ k (Lib.byteCells ((s.data.toList.take k).map swapC)) rfl HROW.out ⟨wr.heap.size, 0, none⟩ 1 1 [.int .u8 ((((s[k]'hlt).toNat : Nat) : Int))] rfl rfl CN.out (by simp [Value.oneCell']) (by unfold maxLen; omega) (by omega) (by simp; omega) ?_); intro v' w3 hown1 hgrow1 _; have HO := hide hown1; have HG := hide hgrow1; clear hown1 hgrow1)
          go_roundg (s.size - (k + 1))
          case measure => omega
          case rel =>
            refine ⟨k + 1, rfl, by omega, rfl, ?_, ?_⟩
            · rw [← HST.out]
              exact HO.out
            · exact HB2.out.grown HG.out HB2.out.size (fun k e => (HROW.out.lt k e).1)
      · by_cases h3 : 65 ≤ (s[k]'hlt).toNat
        · by_cases h4 : (s[k]'hlt).toNat ≤ 70
          · rw [if_neg (by omega), if_pos ⟨h3, h4⟩] at hy
            subst hy
            go_wp2_with (at_builtin; (refine wpList_append_own _ rfl (.tmp 44) (.tmp 46) 42 rfl w.heap.size 5 i0 (.int .u8 0) 1 1 Tryd.underlying42 hi hz0 hz1 hz2 rfl (by decide) _ k (Lib.byteCells ((s.data.toList.take k).map swapC)) rfl HROW.out ⟨wr.heap.size, 0, none⟩ 1 1 [.int .u8 ((((s[k]'hlt).toNat + 32 : Nat) : Int))] rfl rfl CN.out (by simp [Value.oneCell']) (by unfold maxLen; omega) (by omega) (by simp; omega) ?_); intro v' w3 hown1 hgrow1 _; have HO := hide hown1; have HG := hide hgrow1; clear hown1 hgrow1)
            go_roundg (s.size - (k + 1))
            case measure => omega
            case rel =>
              refine ⟨k + 1, rfl, by omega, rfl, ?_, ?_⟩
              · rw [← HST.out]
                exact HO.out
              · exact HB2.out.grown HG.out HB2.out.size (fun k e => (HROW.out.lt k e).1)
          · rw [if_neg (by omega), if_neg (by omega)] at hy
            subst hy
            go_wp2_with (at_builtin; (refine wpList_append_own _ rfl (.tmp 44) (.tmp 46) 42 rfl w.heap.size 5 i0 (.int .u8 0) 1 1 Tryd.underlying42 hi hz0 hz1 hz2 rfl (by decide) _ k (Lib.byteCells ((s.data.toList.take k).map swapC)) rfl HROW.out ⟨wr.heap.size, 0, none⟩ 1 1 [.int .u8 ((((s[k]'hlt).toNat : Nat) : Int))] rfl rfl CN.out (by simp [Value.oneCell']) (by unfold maxLen; omega) (by omega) (by simp; omega) ?_); intro v' w3 hown1 hgrow1 _; have HO := hide hown1; have HG := hide hgrow1; clear hown1 hgrow1)
            go_roundg (s.size - (k + 1))
            case measure => omega
            case rel =>
              refine ⟨k + 1, rfl, by omega, rfl, ?_, ?_⟩
              · rw [← HST.out]
                exact HO.out
              · exact HB2.out.grown HG.out HB2.out.size (fun k e => (HROW.out.lt k e).1)
        · rw [if_neg (by omega), if_neg (by omega)] at hy
          subst hy
          go_wp2_with (at_builtin; (refine wpList_append_own _ rfl (.tmp 44) (.tmp 46) 42 rfl w.heap.size 5 i0 (.int .u8 0) 1 1 Tryd.underlying42 hi hz0 hz1 hz2 rfl (by decide) _ k (Lib.byteCells ((s.data.toList.take k).map swapC)) rfl HROW.out ⟨wr.heap.size, 0, none⟩ 1 1 [.int .u8 ((((s[k]'hlt).toNat : Nat) : Int))] rfl rfl CN.out (by simp [Value.oneCell']) (by unfold maxLen; omega) (by omega) (by simp; omega) ?_); intro v' w3 hown1 hgrow1 _; have HO := hide hown1; have HG := hide hgrow1; clear hown1 hgrow1)
          go_roundg (s.size - (k + 1))
          case measure => omega
          case rel =>
            refine ⟨k + 1, rfl, by omega, rfl, ?_, ?_⟩
            · rw [← HST.out]
              exact HO.out
            · exact HB2.out.grown HG.out HB2.out.size (fun k e => (HROW.out.lt k e).1)
    · obtain rfl : k = s.size := by omega
      have hco := fun W => Code_any s W (by omega)
      have hsw : (swapS s).size ≤ 60 := by
        unfold swapS
        rw [size_mk, List.length_map]
        exact hs
      have hcs := fun W => Code_any (swapS s) W (by omega)
      rw [code_swap] at hcs
      have hcv : ∀ W, Below wr.heap.size wr W → (convert 42 9 u4).run Tryd.prog W = .ok (.string (swapS s)) W := by
        intro W hW
        have h := HROW0.out
        rw [List.take_of_length_le (l := s.data.toList) (Nat.le_refl s.size)] at h
        have hl : (s.data.toList.map swapC).length = s.size := by rw [List.length_map]; rfl
        rw [← hl] at h
        exact conv_own (own_below h hW)
      have hlt24 := fun n (h : codeB s = some n) => codeB_lt h
      have HB := hide hb
      clear hrow HROW0 hb
      generalize swapS s = s' at *
      generalize codeB s = o at *
      cases o with
      | none =>
        have hc1 := hco wr
        unfold codeV at hc1 hcs
        dsimp only [Option.getD_none, Option.isSome_none] at hc1 hcs
        clear hco hlt24
        go_wp2_with fail
        refine hc1.mono ?_
        rintro e w2 ⟨rfl, b2⟩
        have hcv2 := hcv w2 b2
        have HB2 := hide (HB.out.trans (b2.mono HB.out.size))
        clear hc1 hcv
        go_wp2_with fail
        refine (hcs w2).mono ?_
        rintro e w3 ⟨rfl, b3⟩
        have HB3 := hide (HB2.out.trans (b3.mono HB2.out.size))
        clear hcs hcv2
        go_wp2_with fail
        go_ret
        exact ⟨rfl, HB3.out⟩
      | some n =>
        have hn := hlt24 n rfl
        have hn0 : (0 : Int) ≤ (n : Int) := by omega
        have hn1 : (n : Int) < 16777216 := by have : (2 : Nat) ^ 24 = 16777216 := by decide
                                              omega
        have hc1 := hco wr
        unfold codeV at hc1 hcs
        dsimp only [Option.getD_some, Option.isSome_some] at hc1 hcs
        clear hco hlt24 hn
        go_wp2_with fail
        refine hc1.mono ?_
        rintro e w2 ⟨rfl, b2⟩
        have hcv2 := hcv w2 b2
        have HB2 := hide (HB.out.trans (b2.mono HB.out.size))
        clear hc1 hcv
        go_wp2_with fail
        refine (hcs w2).mono ?_
        rintro e w3 ⟨rfl, b3⟩
        have HB3 := hide (HB2.out.trans (b3.mono HB2.out.size))
        clear hcs hcv2
        go_wp2_with fail
        go_ret
        exact ⟨rfl, HB3.out⟩
end Go.Proofs.YtdmkjchmcgjjmaaDoor
