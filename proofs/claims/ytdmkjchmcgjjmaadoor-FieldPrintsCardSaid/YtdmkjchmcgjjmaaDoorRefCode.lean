/- The reference's digit, Code and ends. Conditions: the text is of moderate size. -/
import Derived.Test.YtdmkjchmcgjjmaaDoorJoinL
import Derived.Laws.IdiomStrings
namespace Go.Proofs.YtdmkjchmcgjjmaaDoor
open Go Go.RowKit

def digV (o : Option Nat) : Int := match o with | none => -1 | some d => (d : Int)
set_option maxHeartbeats 4000000 in
theorem digit_any (c : UInt8) (w : World) : Calls Tryd.prog 27 #[.int .u8 (c.toNat : Int)] w fun e w' => e = .returned (.int .i64 (digV (hexV (c.toNat : Int)))) ∧ w = w' := by
  have h8 : c.toNat < 256 := UInt8.toNat_lt _
  obtain ⟨x, hx⟩ : ∃ x : Nat, x = c.toNat := ⟨_, rfl⟩
  rw [← hx] at h8 ⊢
  clear hx
  have HV : Hid (hexV (x : Int) = if 48 ≤ (x : Int) ∧ (x : Int) ≤ 57 then some ((x : Int) - 48).toNat else if 97 ≤ (x : Int) ∧ (x : Int) ≤ 102 then some ((x : Int) - 87).toNat else if 65 ≤ (x : Int) ∧ (x : Int) ≤ 70 then some ((x : Int) - 55).toNat else none) := rfl
  generalize hexV (x : Int) = V at *
  have fin : ∀ (r : Int), digV V = r → Ending.returned (.int .i64 r) = Ending.returned (.int .i64 (digV V)) := fun r h => by rw [h]
  by_cases a1 : 48 ≤ x
  · by_cases a2 : x ≤ 57
    · have R := hide (show digV V = (x : Int) - 48 by rw [HV.out, if_pos (by omega)]; unfold digV; simp only; omega)
      go_enter Tryd.func27, Tryd.ntmps27
      go_wp2_with fail
      go_ret
      exact ⟨(fin _ R.out), rfl⟩
    · by_cases b1 : 97 ≤ x
      · by_cases b2 : x ≤ 102
        · have R := hide (show digV V = (x : Int) - 97 + 10 by rw [HV.out, if_neg (by omega), if_pos (by omega)]; unfold digV; simp only; omega)
          go_enter Tryd.func27, Tryd.ntmps27
          go_wp2_with fail
          go_ret
          exact ⟨(fin _ R.out), rfl⟩
        · have R := hide (show digV V = -1 by rw [HV.out, if_neg (by omega), if_neg (by omega), if_neg (by omega)]; rfl)
          go_enter Tryd.func27, Tryd.ntmps27
          go_wp2_with fail
          go_ret
          exact ⟨(fin _ R.out), rfl⟩
      · by_cases c1 : 65 ≤ x
        · by_cases c2 : x ≤ 70
          · have R := hide (show digV V = (x : Int) - 65 + 10 by rw [HV.out, if_neg (by omega), if_neg (by omega), if_pos (by omega)]; unfold digV; simp only; omega)
            go_enter Tryd.func27, Tryd.ntmps27
            go_wp2_with fail
            go_ret
            exact ⟨(fin _ R.out), rfl⟩
          · have R := hide (show digV V = -1 by rw [HV.out, if_neg (by omega), if_neg (by omega), if_neg (by omega)]; rfl)
            go_enter Tryd.func27, Tryd.ntmps27
            go_wp2_with fail
            go_ret
            exact ⟨(fin _ R.out), rfl⟩
        · have R := hide (show digV V = -1 by rw [HV.out, if_neg (by omega), if_neg (by omega), if_neg (by omega)]; rfl)
          go_enter Tryd.func27, Tryd.ntmps27
          go_wp2_with fail
          go_ret
          exact ⟨(fin _ R.out), rfl⟩
  · have R := hide (show digV V = -1 by rw [HV.out, if_neg (by omega), if_neg (by omega), if_neg (by omega)]; rfl)
    go_enter Tryd.func27, Tryd.ntmps27
    go_wp2_with fail
    go_ret
    exact ⟨(fin _ R.out), rfl⟩

set_option maxRecDepth 100000 in
set_option maxHeartbeats 4000000 in
theorem refCode_any (s : ByteArray) (w : World) : Calls Tryd.prog 13 #[.string s] w fun e w' => e = .returned (codeV (codeB s)) ∧ w = w' := by
  by_cases h1 : s.size < 4
  · have HC := hide (show codeB s = none by unfold codeB; rw [if_neg (by omega)])
    have hb : decide ((s.size : Int) < 4) = true := decide_eq_true (by omega)
    clear h1
    go_enter Tryd.func13, Tryd.ntmps13
    go_wp2_with fail
    go_ret2
    exact ⟨codeV_none HC.out, rfl⟩
  by_cases h2 : 6 < s.size
  · have HC := hide (show codeB s = none by unfold codeB; rw [if_neg (by omega)])
    have hb : decide ((s.size : Int) < 4) = false := decide_eq_false (by omega)
    have hb2 : decide ((6 : Int) < (s.size : Int)) = true := decide_eq_true (by omega)
    clear h1 h2
    go_enter Tryd.func13, Tryd.ntmps13
    go_wp2_with fail
    go_ret2
    exact ⟨codeV_none HC.out, rfl⟩
  have HC := hide (show codeB s = foldX s.data.toList 0 by unfold codeB; rw [if_pos (by omega)])
  have hb : decide ((s.size : Int) < 4) = false := decide_eq_false (by omega)
  have hb2 : decide ((6 : Int) < (s.size : Int)) = false := decide_eq_false (by omega)
  have HSZ := hide (show s.size ≤ 6 by omega)
  clear h1 h2
  go_enter Tryd.func13, Tryd.ntmps13
  go_wp2_with fail
  go_loopg [4, 5] s.size (fun g s4 s5 wx => ∃ (k n : Nat), g = s.size - k ∧ k ≤ s.size ∧ n < 16 ^ k ∧ s4 = .int .i64 (n : Int) ∧ s5 = .int .i64 (k : Int) ∧ foldX s.data.toList 0 = foldX (s.data.toList.drop k) n ∧ w = wx)
  case atStart => exact ⟨0, 0, rfl, Nat.zero_le _, by decide, rfl, rfl, rfl, rfl⟩
  case round =>
    obtain ⟨k, n, rfl, hk, hn, rfl, rfl, hf, rfl⟩ := hrel
    have HF := hide hf
    have HN := hide hn
    clear hf hn
    by_cases hlt : k < s.size
    · have HST := hide (fold_step hlt n)
      have hdg := digit_any (s[k]'hlt) w
      have HL := hide hlt
      have hk6 : k ≤ 6 := by have := HSZ.out; omega
      cases hd : hexV ((s[k]'hlt).toNat : Int) with
      | none =>
        rw [hd] at hdg HST
        have HR := hide (show foldX s.data.toList 0 = none by rw [HF.out, HST.out])
        clear hd
        go_wp2_with fail
        refine hdg.mono ?_
        rintro e _ ⟨rfl, rfl⟩
        unfold digV
        dsimp only
        go_wp2_with fail
        go_ret2
        exact ⟨codeV_none (HC.out.trans HR.out), rfl⟩
      | some d =>
        rw [hd] at hdg HST
        have HD := hide (hex_lt hd)
        have HR := hide (show foldX s.data.toList 0 = foldX (s.data.toList.drop (k + 1)) (n * 16 + d) by rw [HF.out, HST.out])
        have HK6 : Hid (16 ^ k ≤ 16 ^ 6) := Nat.pow_le_pow_right (by omega) (by have := HSZ.out; omega)
        have hno1 : -9223372036854775808 ≤ 16 * (n : Int) ∧ 16 * (n : Int) ≤ 9223372036854775807 := by
          have := HN.out; have := HK6.out; omega
        have hno2 : -9223372036854775808 ≤ 16 * (n : Int) + (d : Int) ∧ 16 * (n : Int) + (d : Int) ≤ 9223372036854775807 := by
          have := HN.out; have := HK6.out; have := HD.out; omega
        have hn1a := hno1.1
        have hn1b := hno1.2
        have hn2a := hno2.1
        have hn2b := hno2.2
        have hd0 : ¬ (d : Int) < 0 := by omega
        clear hd
        go_wp2_with fail
        refine hdg.mono ?_
        rintro e _ ⟨rfl, rfl⟩
        unfold digV
        dsimp only
        go_wp2_with fail
        go_roundg (s.size - (k + 1))
        case measure => have := HL.out; omega
        case rel => exact ⟨k + 1, n * 16 + d, rfl, HL.out, by rw [Nat.pow_succ]; have := HN.out; have := HD.out; omega, congrArg (Value.int .i64) (by omega), by simp, HR.out, rfl⟩
    · obtain rfl : k = s.size := by omega
      have HR := hide (HF.out.trans (fold_end s n))
      clear hlt
      go_wp2_with fail
      go_ret2
      exact ⟨codeV_some (HC.out.trans HR.out), rfl⟩

theorem occ_at (s : ByteArray) (k : Nat) : ((s.extract k (k + 2)).toList == [46, 46]) = Lib.occAt s.data.toList [46, 46] k := by
  rw [ByteArray.toList_eq, Lib.extract_data, show k + 2 - k = 2 by omega]
  unfold Lib.occAt
  generalize s.data.toList.drop k = l
  match l with
  | [] => rfl
  | [x] => simp [List.isPrefixOf]
  | x :: y :: r =>
    simp only [List.take_succ_cons, List.take_zero, List.isPrefixOf]
    rw [Bool.eq_iff_iff]
    simp
    constructor
    · rintro ⟨rfl, rfl⟩; exact ⟨rfl, rfl⟩
    · rintro ⟨rfl, rfl⟩; exact ⟨rfl, rfl⟩
theorem cut_hit2 {s : ByteArray} {k : Nat} (h : Lib.NoOcc s.data.toList [46, 46] k) (hk : k ≤ s.size) (ho : Lib.occAt s.data.toList [46, 46] k = true) :
    cutH s ⟨#[46, 46]⟩ = s.extract 0 k ∧ cutR s ⟨#[46, 46]⟩ = s.extract (k + 2) s.size ∧ cutIs s ⟨#[46, 46]⟩ = true := by
  have hi := Lib.index_hit h hk ho
  have hc : Lib.cut s.data.toList [46, 46] = (s.data.toList.take k, s.data.toList.drop (k + 2), true) := by
    unfold Lib.cut
    rw [hi, if_pos (by omega), show ((k : Nat) : Int).toNat = k by omega]
    rfl
  unfold cutH cutR cutIs
  rw [show (⟨#[46, 46]⟩ : ByteArray).data.toList = [46, 46] from rfl, hc]
  refine ⟨data_inj ?_, data_inj ?_, rfl⟩
  · rw [Lib.extract_data, List.drop_zero, Nat.sub_zero]
  · rw [Lib.extract_data]
    exact (List.take_of_length_le (by rw [List.length_drop]; exact Nat.le_refl _)).symm
theorem cut_miss2 {s : ByteArray} {k : Nat} (h : Lib.NoOcc s.data.toList [46, 46] k) (hk : s.size < k + 2) : cutH s ⟨#[46, 46]⟩ = s ∧ cutIs s ⟨#[46, 46]⟩ = false := by
  have hi := Lib.index_past (by simp) h hk
  have hc : Lib.cut s.data.toList [46, 46] = (s.data.toList, [], false) := by
    unfold Lib.cut
    rw [hi]
    rfl
  unfold cutH cutIs
  rw [show (⟨#[46, 46]⟩ : ByteArray).data.toList = [46, 46] from rfl, hc]
  exact ⟨rfl, rfl⟩
def EndsR (w : World) (o : Option (Nat × Nat)) (e : Ending) (w' : World) : Prop :=
  ∃ a b : Nat, e = .returned (.tuple #[.int .i64 (a : Int), .int .i64 (b : Int), .bool o.isSome]) ∧ (o = none ∨ o = some (a, b)) ∧ w = w'

set_option maxRecDepth 100000 in
set_option maxHeartbeats 4000000 in
theorem refEnds_any (s : ByteArray) (w : World) (hs : s.size ≤ 100000) : Calls Tryd.prog 35 #[.string s] w (EndsR w (endsB s)) := by
  go_enter Tryd.func35, Tryd.ntmps35
  go_wp2_with fail
  go_loopg [5] s.size (fun g s5 wx => ∃ (k : Nat), g = s.size - k ∧ k ≤ s.size ∧ s5 = .int .i64 (k : Int) ∧ Lib.NoOcc s.data.toList [46, 46] k ∧ w = wx)
  case atStart => exact ⟨0, rfl, Nat.zero_le _, rfl, Lib.NoOcc.zero _ _, rfl⟩
  case round =>
    obtain ⟨k, rfl, hk, rfl, hno, rfl⟩ := hrel
    have HNO := hide hno
    clear hno
    by_cases hlt : k + 2 ≤ s.size
    · have hlt' : (k : Int) + 2 ≤ (s.size : Int) := by omega
      have hte : (((k : Int) + 2)).toNat = k + 2 := by omega
      have hkk : (k : Int) ≤ (k : Int) + 2 := by omega
      have hkz : (k : Int) ≤ (s.size : Int) := by omega
      have hocc := occ_at s k
      cases ho : Lib.occAt s.data.toList [46, 46] k with
      | true =>
        rw [ho] at hocc
        obtain ⟨c1, c2, c3⟩ := cut_hit2 HNO.out hk ho
        have HE : Hid (endsB s = ends2 true (codeB (s.extract 0 k)) (codeB (s.extract (k + 2) s.size))) := by
          show endsB s = _
          unfold endsB
          rw [c1, c2, c3]
        have hca := refCode_any (s.extract 0 k) w
        have hcb := refCode_any (s.extract (k + 2) s.size) w
        clear ho c1 c2 c3 HNO
        generalize endsB s = o at *
        generalize codeB (s.extract 0 k) = oa at *
        generalize codeB (s.extract (k + 2) s.size) = ob at *
        unfold codeV at hca hcb
        go_wp2_with fail
        refine hca.mono ?_
        rintro e _ ⟨rfl, rfl⟩
        go_wp2_with fail
        refine hcb.mono ?_
        rintro e _ ⟨rfl, rfl⟩
        cases oa with
        | none =>
          dsimp only [Option.getD_none, Option.isSome_none]
          go_wp2_with fail
          go_ret3
          refine ⟨0, ob.getD 0, by rw [HE.out]; rfl, .inl (by rw [HE.out]; rfl), rfl⟩
        | some a =>
          cases ob with
          | none =>
            dsimp only [Option.getD_none, Option.isSome_none, Option.getD_some, Option.isSome_some]
            go_wp2_with fail
            go_ret3
            refine ⟨a, 0, by rw [HE.out]; rfl, .inl (by rw [HE.out]; rfl), rfl⟩
          | some b =>
            dsimp only [Option.getD_some, Option.isSome_some]
            go_wp2_with fail
            go_ret3
            refine ⟨a, b, by rw [HE.out]; rfl, .inr (by rw [HE.out]; rfl), rfl⟩
      | false =>
        rw [ho] at hocc
        have HNO2 := hide (HNO.out.succ ho)
        clear ho
        go_wp2_with fail
        go_roundg (s.size - (k + 1))
        case measure => omega
        case rel => exact ⟨k + 1, rfl, by omega, by simp, HNO2.out, rfl⟩
    · have hlt' : ¬ (k : Int) + 2 ≤ (s.size : Int) := by omega
      obtain ⟨c1, c2⟩ := cut_miss2 HNO.out (by omega)
      have HE : Hid (endsB s = ends2 false (codeB s) (codeB (cutR s ⟨#[46, 46]⟩))) := by
        show endsB s = _
        unfold endsB
        rw [c1, c2]
      have hca := refCode_any s w
      clear hlt c1 c2 HNO
      generalize endsB s = o at *
      generalize codeB s = oa at *
      unfold codeV at hca
      go_wp2_with fail
      refine hca.mono ?_
      rintro e _ ⟨rfl, rfl⟩
      cases oa with
      | none =>
        dsimp only [Option.getD_none, Option.isSome_none]
        go_wp2_with fail
        go_ret3
        refine ⟨0, 0, by rw [HE.out]; rfl, .inl (by rw [HE.out]; rfl), rfl⟩
      | some a =>
        dsimp only [Option.getD_some, Option.isSome_some]
        go_wp2_with fail
        go_ret3
        refine ⟨a, a, by rw [HE.out]; rfl, .inr (by rw [HE.out]; rfl), rfl⟩
end Go.Proofs.YtdmkjchmcgjjmaaDoor
