/- The reference's blank and Trim: it answers as strings.Trim. Conditions: the text is of moderate size. -/
import Derived.Test.YtdmkjchmcgjjmaaDoorBackL
import Derived.Laws.IdiomStrings
namespace Go.Proofs.YtdmkjchmcgjjmaaDoor
open Go Go.RowKit

def blankB (c : UInt8) : Bool := ([32, 9, 13] : List UInt8).contains c
theorem blank_any (c : UInt8) (w : World) : Calls Tryd.prog 54 #[.int .u8 (c.toNat : Int)] w fun e w' => e = .returned (.bool (blankB c)) ∧ w = w' := by
  have hne : ∀ d : UInt8, c ≠ d → ((c.toNat : Int) == (d.toNat : Int)) = false := fun d h => by
    rw [beq_eq_false_iff_ne]
    intro e
    exact h (UInt8.toNat_inj.1 (by omega))
  by_cases h1 : c = 32
  · subst h1
    go_enter Tryd.func54, Tryd.ntmps54
    go_wp2_with fail
    go_ret
    exact ⟨rfl, rfl⟩
  · have q1 : ((c.toNat : Int) == 32) = false := hne 32 h1
    by_cases h2 : c = 9
    · subst h2
      go_enter Tryd.func54, Tryd.ntmps54
      go_wp2_with fail
      go_ret
      exact ⟨rfl, rfl⟩
    · have q2 : ((c.toNat : Int) == 9) = false := hne 9 h2
      by_cases h3 : c = 13
      · subst h3
        go_enter Tryd.func54, Tryd.ntmps54
        go_wp2_with fail
        go_ret
        exact ⟨rfl, rfl⟩
      · have q3 : ((c.toNat : Int) == 13) = false := hne 13 h3
        have hb : blankB c = false := by simp [blankB, h1, h2, h3]
        rw [hb]
        clear h1 h2 h3 hne hb
        go_enter Tryd.func54, Tryd.ntmps54
        go_wp2_with fail
        go_ret
        exact ⟨rfl, rfl⟩

theorem cons_of {s : ByteArray} (h : 0 < s.size) : s.data.toList = s[0] :: (s.extract 1 s.size).data.toList := by
  have h' : 0 < s.data.toList.length := h
  rw [Lib.extract_data]
  have := drop_cons h'
  rw [List.drop_zero] at this
  conv => lhs; rw [this]
  congr 1
  rw [List.take_of_length_le]
  rw [List.length_drop]
  exact Nat.le_refl _
theorem snoc_of {s : ByteArray} (h : 0 < s.size) : s.data.toList = (s.extract 0 (s.size - 1)).data.toList ++ [s[s.size - 1]'(by omega)] := by
  have h' : s.size - 1 < s.data.toList.length := by show s.size - 1 < s.size; omega
  rw [Lib.extract_data, List.drop_zero]
  have := List.take_succ_eq_append_getElem h'
  rw [show s.size - 1 + 1 = s.data.toList.length by show s.size - 1 + 1 = s.size; omega, List.take_length] at this
  exact this
theorem trimT_cons {s : ByteArray} (h : 0 < s.size) (hb : blankB (s[0]) = true) : trimT (s.extract 1 s.size) = trimT s := by
  apply trimT_of
  rw [cons_of h, trimS_cons hb]
theorem trimT_snoc {s : ByteArray} (h : 0 < s.size) (hb : blankB (s[s.size - 1]'(by omega)) = true) : trimT (s.extract 0 (s.size - 1)) = trimT s := by
  apply trimT_of
  conv => rhs; rw [snoc_of h, trimS_snoc hb]
theorem size_of_ne {s : ByteArray} (h : ¬ s = ⟨#[]⟩) : 0 < s.size := by
  rcases Nat.eq_zero_or_pos s.size with h0 | h0
  · exact absurd (data_inj (by have : s.data.toList.length = 0 := h0
                               rw [List.eq_nil_of_length_eq_zero this])) h
  · exact h0
/-- the head is no blank -/
def HeadOk (s : ByteArray) : Prop := ∀ c, s.data.toList.head? = some c → blankB c = false
theorem trimT_done {s : ByteArray} (h1 : HeadOk s) (h2 : s = ⟨#[]⟩ ∨ ∃ h : 0 < s.size, blankB (s[s.size - 1]'(by omega)) = false) : trimT s = s := by
  unfold trimT
  rw [trimS_id]
  refine ⟨fun c hc => by have := h1 c hc; unfold blankB at this; rw [this]; decide, fun c hc => ?_⟩
  rcases h2 with rfl | ⟨h, h2⟩
  · cases hc
  · rw [snoc_of h, List.getLast?_append] at hc
    simp at hc
    subst hc
    unfold blankB at h2
    rw [h2]
    decide
theorem headOk_of {s : ByteArray} (h : 0 < s.size) (hb : blankB s[0] = false) : HeadOk s := fun c hc => by
  rw [cons_of h] at hc
  injection hc with hc
  rw [← hc]
  exact hb
theorem headOk_less {s : ByteArray} (h : HeadOk s) (h0 : 0 < s.size) : HeadOk (s.extract 0 (s.size - 1)) := fun c hc => by
  apply h c
  rw [snoc_of h0, List.head?_append, hc]
  rfl

set_option maxRecDepth 100000 in
set_option maxHeartbeats 4000000 in
theorem refTrim_any (s0 : ByteArray) (w : World) (hs0 : s0.size ≤ 100000) : Calls Tryd.prog 34 #[.string s0] w fun e w' => e = .returned (.string (trimT s0)) ∧ w = w' := by
  go_enter Tryd.func34, Tryd.ntmps34
  go_wp2_with fail
  go_loopg [0] s0.size (fun g v wx => ∃ s : ByteArray, v = .string s ∧ g = s.size ∧ s.size ≤ 100000 ∧ trimT s = trimT s0 ∧ w = wx)
  case atStart => exact ⟨s0, rfl, rfl, hs0, rfl, rfl⟩
  case round =>
    obtain ⟨s, rfl, rfl, hs, ht, rfl⟩ := hrel
    have HT := hide ht
    clear ht
    by_cases he : s = ⟨#[]⟩
    · have q1 : (s.toList == []) = true := list_eq_true he
      have HO := hide (show HeadOk s from fun c hc => by rw [he] at hc; cases hc)
      clear he
      go_wp2_with fail
      go_loopg [0] s.size (fun g v wx => ∃ s' : ByteArray, v = .string s' ∧ g = s'.size ∧ s'.size ≤ 100000 ∧ HeadOk s' ∧ trimT s' = trimT s0 ∧ w = wx)
      case atStart => exact ⟨s, rfl, rfl, hs, HO.out, HT.out, rfl⟩
      case round =>
        obtain ⟨s', rfl, rfl, hs', ho', ht', rfl⟩ := hrel
        have HO' := hide ho'
        have HT' := hide ht'
        clear ho' ht'
        by_cases he' : s' = ⟨#[]⟩
        · have p1 : (s'.toList == []) = true := list_eq_true he'
          have HF := hide ((trimT_done HO'.out (.inl he')).symm.trans HT'.out)
          clear he'
          go_wp2_with fail
          go_ret
          exact ⟨by rw [← HF.out]; rfl, rfl⟩
        · have p1 : (s'.toList == []) = false := list_eq_false he'
          have h0' := size_of_ne he'
          have hbl' := blank_any (s'[s'.size - 1]'(by omega)) w
          have d5 : IntKind.i64.wrap ((s'.size : Int) - 1) = ((s'.size - 1 : Nat) : Int) := by rw [IntWalk.i64_in _ (by omega)]; omega
          have d7 : ((s'.size : Int) - 1).toNat = s'.size - 1 := by omega
          have p2 : ((s'.size - 1 : Nat) : Int) < (s'.size : Int) := by omega
          have p3 : (s'.size : Int) - 1 < (s'.size : Int) := by omega
          have p4 : (0 : Int) ≤ (s'.size : Int) - 1 := by omega
          have p5 : (s'.size : Int) - 1 ≤ (s'.size : Int) := by omega
          cases hq' : blankB (s'[s'.size - 1]'(by omega)) with
          | true =>
            rw [hq'] at hbl'
            have HTC' := hide (trimT_snoc h0' hq')
            have HL' := hide (headOk_less HO'.out h0')
            have hx' : (s'.extract 0 (s'.size - 1)).size = s'.size - 1 := by rw [ByteArray.size_extract]; omega
            clear hq' he'
            go_wp2_with fail
            refine hbl'.mono ?_
            rintro e _ ⟨rfl, rfl⟩
            go_wp2_with fail
            go_roundg (s'.size - 1)
            case measure => omega
            case rel => exact ⟨_, rfl, hx'.symm, by omega, HL'.out, HTC'.out.trans HT'.out, rfl⟩
          | false =>
            rw [hq'] at hbl'
            have HF := hide ((trimT_done HO'.out (.inr ⟨h0', hq'⟩)).symm.trans HT'.out)
            clear hq' he'
            go_wp2_with fail
            refine hbl'.mono ?_
            rintro e _ ⟨rfl, rfl⟩
            go_wp2_with fail
            go_ret
            exact ⟨by rw [← HF.out]; rfl, rfl⟩
    · have q1 : (s.toList == []) = false := list_eq_false he
      have h0 := size_of_ne he
      have hbl := blank_any (s[0]'h0) w
      cases hq : blankB (s[0]'h0) with
      | true =>
        rw [hq] at hbl
        have HTC := hide (trimT_cons h0 hq)
        have h0' : (0 : Int) < (s.size : Int) := by omega
        have hx : (s.extract 1 s.size).size = s.size - 1 := by rw [ByteArray.size_extract]; omega
        clear hq he
        go_wp2_with fail
        refine hbl.mono ?_
        rintro e _ ⟨rfl, rfl⟩
        go_wp2_with fail
        go_roundg (s.size - 1)
        case measure => omega
        case rel => exact ⟨_, rfl, hx.symm, by omega, HTC.out.trans HT.out, rfl⟩
      | false =>
        rw [hq] at hbl
        have HO := hide (headOk_of h0 hq)
        have h0' : (0 : Int) < (s.size : Int) := by omega
        clear hq he
        go_wp2_with fail
        refine hbl.mono ?_
        rintro e _ ⟨rfl, rfl⟩
        clear h0' hbl
        go_wp2_with fail
        go_loopg [0] s.size (fun g v wx => ∃ s' : ByteArray, v = .string s' ∧ g = s'.size ∧ s'.size ≤ 100000 ∧ HeadOk s' ∧ trimT s' = trimT s0 ∧ w = wx)
        case atStart => exact ⟨s, rfl, rfl, hs, HO.out, HT.out, rfl⟩
        case round =>
          obtain ⟨s', rfl, rfl, hs', ho', ht', rfl⟩ := hrel
          have HO' := hide ho'
          have HT' := hide ht'
          clear ho' ht'
          by_cases he' : s' = ⟨#[]⟩
          · have p1 : (s'.toList == []) = true := list_eq_true he'
            have HF := hide ((trimT_done HO'.out (.inl he')).symm.trans HT'.out)
            clear he'
            go_wp2_with fail
            go_ret
            exact ⟨by rw [← HF.out]; rfl, rfl⟩
          · have p1 : (s'.toList == []) = false := list_eq_false he'
            have h0' := size_of_ne he'
            have hbl' := blank_any (s'[s'.size - 1]'(by omega)) w
            have d5 : IntKind.i64.wrap ((s'.size : Int) - 1) = ((s'.size - 1 : Nat) : Int) := by rw [IntWalk.i64_in _ (by omega)]; omega
            have d7 : ((s'.size : Int) - 1).toNat = s'.size - 1 := by omega
            have p2 : ((s'.size - 1 : Nat) : Int) < (s'.size : Int) := by omega
            have p3 : (s'.size : Int) - 1 < (s'.size : Int) := by omega
            have p4 : (0 : Int) ≤ (s'.size : Int) - 1 := by omega
            have p5 : (s'.size : Int) - 1 ≤ (s'.size : Int) := by omega
            cases hq' : blankB (s'[s'.size - 1]'(by omega)) with
            | true =>
              rw [hq'] at hbl'
              have HTC' := hide (trimT_snoc h0' hq')
              have HL' := hide (headOk_less HO'.out h0')
              have hx' : (s'.extract 0 (s'.size - 1)).size = s'.size - 1 := by rw [ByteArray.size_extract]; omega
              clear hq' he'
              go_wp2_with fail
              refine hbl'.mono ?_
              rintro e _ ⟨rfl, rfl⟩
              go_wp2_with fail
              go_roundg (s'.size - 1)
              case measure => omega
              case rel => exact ⟨_, rfl, hx'.symm, by omega, HL'.out, HTC'.out.trans HT'.out, rfl⟩
            | false =>
              rw [hq'] at hbl'
              have HF := hide ((trimT_done HO'.out (.inr ⟨h0', hq'⟩)).symm.trans HT'.out)
              clear hq' he'
              go_wp2_with fail
              refine hbl'.mono ?_
              rintro e _ ⟨rfl, rfl⟩
              go_wp2_with fail
              go_ret
              exact ⟨by rw [← HF.out]; rfl, rfl⟩
end Go.Proofs.YtdmkjchmcgjjmaaDoor
