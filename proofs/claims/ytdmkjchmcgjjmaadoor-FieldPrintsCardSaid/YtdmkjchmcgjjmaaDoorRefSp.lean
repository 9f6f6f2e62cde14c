/- The reference's Split by a byte: it answers as strings.Split. Conditions: the text is of moderate size. -/
import Derived.Test.YtdmkjchmcgjjmaaDoorJoinL
namespace Go.Proofs.YtdmkjchmcgjjmaaDoor
open Go Go.RowKit

/-- a part of a text -/
theorem part_data (s : ByteArray) (f i : Nat) : (s.extract f i).data.toList = (s.data.toList.drop f).take (i - f) := by
  rw [Lib.extract_data]
theorem no_part {c : UInt8} {l : List UInt8} {f i : Nat} (h : ∀ k (hk : k < l.length), f ≤ k → k < i → l[k] ≠ c) : c ∉ (l.drop f).take (i - f) := by
  intro hm
  obtain ⟨k, hk, e⟩ := List.mem_iff_getElem.1 hm
  rw [List.length_take, List.length_drop] at hk
  rw [List.getElem_take, List.getElem_drop] at e
  exact h (f + k) (by omega) (by omega) (by omega) e
theorem drop_part {c : UInt8} {l : List UInt8} {f i : Nat} (hf : f ≤ i) (hi : i < l.length) (h : l[i] = c) : l.drop f = (l.drop f).take (i - f) ++ c :: l.drop (i + 1) := by
  have h1 : (l.drop f).drop (i - f) = l.drop i := by rw [List.drop_drop]; congr 1; omega
  conv => lhs; rw [← List.take_append_drop (i - f) (l.drop f)]
  rw [h1, drop_cons hi, h]

/-- texts that the call has made -/
def OwnS (w : World) (l : List ByteArray) (e : Ending) (w' : World) : Prop := ∃ v, e = .returned v ∧ w'.ownsRow w.heap.size 9 1 v l.length (strCells l) ∧ Below w.heap.size w w'

set_option maxRecDepth 100000 in
set_option maxHeartbeats 4000000 in
theorem refSplit_any (c : UInt8) (s : ByteArray) (w : World) (hs : s.size ≤ 100000) : Calls Tryd.prog 31 #[.string s, .int .u8 (c.toNat : Int)] w (OwnS w (splitT c s)) := by
  obtain ⟨i0, hi, hz0, hz1, hz2⟩ := info_parts info9
  have hsl : s.data.toList.length = s.size := rfl
  have HSL := hide hsl
  have HTD := hide (splitT_data c s)
  clear hsl
  go_enter Tryd.func31, Tryd.ntmps31
  go_wp2_with fail
  go_loopw [5, 6, 7] (fun s5 s6 s7 wr => ∃ (f i : Nat) (out : List ByteArray) (vs : Value), s5 = vs ∧ s6 = .int .i64 (f : Int) ∧ s7 = .int .i64 (i : Int) ∧ out.length ≤ i ∧ f ≤ 100001 ∧ ((i ≤ s.size ∧ f ≤ i ∧ (∀ k (hk : k < s.data.toList.length), f ≤ k → k < i → s.data.toList[k] ≠ c) ∧ out.map (·.data.toList) ++ Lib.split (s.data.toList.drop f) [c] = Lib.split s.data.toList [c]) ∨ (i = s.size + 1 ∧ out = splitT c s)) ∧ wr.ownsRow w.heap.size 9 1 vs out.length (strCells out) ∧ Below w.heap.size w wr) (fun _ _ i _ => s.size + 1 - (intOf i).toNat)
  case atStart => exact ⟨0, 0, [], _, rfl, rfl, rfl, Nat.le_refl _, by omega, .inl ⟨Nat.zero_le _, Nat.le_refl _, fun _ _ _ h => absurd h (by omega), rfl⟩, World.ownsRow_nil _ _ _ _, Below.refl _ _⟩
  case round =>
    obtain ⟨f, i, out, vs, rfl, rfl, rfl, hol, hf5, hcase, hrow, hb⟩ := hrel
    have HROW0 := hide hrow
    rcases hcase with ⟨hi1, hfi, hno, heq⟩ | ⟨hi1, ho⟩
    · have HNO := hide hno
      have HEQ := hide heq
      have p1 : (i : Int) ≤ (s.size : Int) := by omega
      have p2 : (f : Int) ≤ (i : Int) := by omega
      clear hno heq
      have HROW := hide (hrow.alloc (.cells #[.string (s.extract f i)] 9))
      have CN := hide (cell_one_new wr (.string (s.extract f i)) 9)
      have HPD := hide (part_data s f i)
      clear hrow
      by_cases he : i = s.size
      · have q1 : ((i : Int) == (s.size : Int)) = true := by rw [he]; simp
        have HFIN := hide (show out ++ [s.extract f i] = splitT c s from by
          apply (List.map_inj_right (f := fun x : ByteArray => x.data.toList) (fun _ _ => data_inj)).1
          have e2 : Lib.split (s.data.toList.drop f) [c] = [(s.data.toList.drop f).take (i - f)] := by
            have e3 : (s.data.toList.drop f).take (i - f) = s.data.toList.drop f := List.take_of_length_le (by rw [List.length_drop, HSL.out]; omega)
            rw [e3, split_miss (by have := no_part HNO.out; rwa [e3] at this)]
          rw [HTD.out, ← HEQ.out, e2, List.map_append, List.map_cons, List.map_nil, HPD.out])
        have HIE := hide he
        clear he HNO HEQ HPD
        go_wp2_with (at_builtin; (refine wpList_append_own _ rfl (.tmp 25) (.tmp 30) 29 rfl w.heap.size 9 i0 (.string ⟨#[]⟩) 1 16 Tryd.underlying29 hi hz0 hz1 hz2 rfl (by decide) _ out.length (strCells out) rfl HROW.out ⟨wr.heap.size, 0, none⟩ 1 1 [.string (s.extract f i)] rfl rfl CN.out (by simp [Value.oneCell']) (by unfold maxLen; omega) (by omega) (by have := hb.size; simp; omega) ?_); intro v' w1 hown1 hgrow1 _; have HO := hide hown1; have HG := hide hgrow1; clear hown1 hgrow1)
        go_roundw
        case rel =>
          refine ⟨i + 1, i + 1, out ++ [s.extract f i], _, rfl, by simp, by simp, by rw [List.length_append, List.length_cons, List.length_nil]; omega, by omega, .inr ⟨by have := HIE.out; omega, HFIN.out⟩, ?_, ?_⟩
          · rw [List.length_append]
            simpa [strCells] using HO.out
          · exact (hb.alloc hb.size _).grown HG.out (by have := hb.size; simp; omega) (fun k e => (HROW.out.lt k e).1)
        case measure => simp [intOf]; omega
      · have q1 : ((i : Int) == (s.size : Int)) = false := by rw [beq_eq_false_iff_ne]; omega
        have hii : i < s.size := by omega
        by_cases h32 : (s[i]'hii) = c
        · have q2 : ((((s[i]'hii).toNat : Nat) : Int) == (c.toNat : Int)) = true := by rw [h32]; simp
          have HEQ2 := hide (show (out ++ [s.extract f i]).map (·.data.toList) ++ Lib.split (s.data.toList.drop (i + 1)) [c] = Lib.split s.data.toList [c] from by
            rw [← HEQ.out, drop_part hfi (show i < s.data.toList.length by rw [HSL.out]; exact hii) h32, split_hit _ (no_part HNO.out), List.map_append, List.map_cons, List.map_nil, HPD.out, List.append_assoc]
            rfl)
          clear he HNO HEQ HPD h32
          go_wp2_with (at_builtin; (refine wpList_append_own _ rfl (.tmp 25) (.tmp 30) 29 rfl w.heap.size 9 i0 (.string ⟨#[]⟩) 1 16 Tryd.underlying29 hi hz0 hz1 hz2 rfl (by decide) _ out.length (strCells out) rfl HROW.out ⟨wr.heap.size, 0, none⟩ 1 1 [.string (s.extract f i)] rfl rfl CN.out (by simp [Value.oneCell']) (by unfold maxLen; omega) (by omega) (by have := hb.size; simp; omega) ?_); intro v' w1 hown1 hgrow1 _; have HO := hide hown1; have HG := hide hgrow1; clear hown1 hgrow1)
          go_roundw
          case rel =>
            refine ⟨i + 1, i + 1, out ++ [s.extract f i], _, rfl, by simp, by simp, by rw [List.length_append, List.length_cons, List.length_nil]; omega, by omega, .inl ⟨by omega, Nat.le_refl _, fun _ _ h h' => absurd h (by omega), HEQ2.out⟩, ?_, ?_⟩
            · rw [List.length_append]
              simpa [strCells] using HO.out
            · exact (hb.alloc hb.size _).grown HG.out (by have := hb.size; simp; omega) (fun k e => (HROW.out.lt k e).1)
          case measure => simp [intOf]; omega
        · have q2 : ((((s[i]'hii).toNat : Nat) : Int) == (c.toNat : Int)) = false := by
            rw [beq_eq_false_iff_ne]
            intro e
            exact h32 (UInt8.toNat_inj.1 (by omega))
          have HNO2 := hide (show ∀ k (hk : k < s.data.toList.length), f ≤ k → k < i + 1 → s.data.toList[k] ≠ c from fun k hk h1 h2 => by
            rcases Nat.lt_or_ge k i with h | h
            · exact HNO.out k hk h1 h
            · have : k = i := by omega
              subst this
              exact h32)
          clear he HNO HPD h32 HROW CN
          go_wp2_with fail
          go_roundw
          case rel => exact ⟨f, i + 1, out, _, rfl, rfl, by simp, by omega, hf5, .inl ⟨by omega, by omega, HNO2.out, HEQ.out⟩, HROW0.out, hb⟩
          case measure => simp [intOf]; omega
    · have q1 : ¬ (i : Int) ≤ (s.size : Int) := by omega
      subst ho
      clear hrow
      go_wp2_with fail
      go_ret
      exact ⟨_, rfl, HROW0.out, hb⟩
end Go.Proofs.YtdmkjchmcgjjmaaDoor
