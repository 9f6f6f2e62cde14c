/- The reference's letter, Value, Names: they answer as the program's. Conditions: the slice reads as the texts. -/
import Derived.BigQuiet
import Derived.Deep.QuietTactic
import Derived.Deep.LoopGhost
import Derived.Deep.CutRange
import Derived.Deep.Cut
import Derived.Test.YtigkphjgidbppaaDoorPar
import Derived.Test.YtigkphjgidbppaaDoorQuiet
import Derived.Maps.RangeWalk
namespace Go.Proofs.YtigkphjgidbppaaDoor
open Go Go.RowKit

theorem letter_any (b : Int) (w : World) : Calls Tryd.prog 42 #[.int .u8 b] w fun e w' => e = .returned (.bool (letV b)) ∧ w = w' := by
  have hcase : (97 ≤ b ∧ b ≤ 122) ∨ (¬ 97 ≤ b ∧ 65 ≤ b ∧ b ≤ 90) ∨ (¬ 97 ≤ b ∧ 65 ≤ b ∧ ¬ b ≤ 90) ∨ (¬ 65 ≤ b) ∨ (97 ≤ b ∧ ¬ b ≤ 122) := by omega
  have hlt : (letV b = true ∧ 97 ≤ b ∧ b ≤ 122) ∨ ¬ (97 ≤ b ∧ b ≤ 122) := by
    by_cases h : 97 ≤ b ∧ b ≤ 122
    · left; exact ⟨by simp [letV, h], h⟩
    · right; exact h
  clear hcase
  rcases hlt with ⟨h, h1, h2⟩ | h
  · rw [h]
    clear h
    go_enter Tryd.func42, Tryd.ntmps42
    go_wp2
    go_ret
    exact ⟨rfl, rfl⟩
  · by_cases h2 : 65 ≤ b ∧ b ≤ 90
    · have hv : letV b = true := by simp [letV, h2]
      rw [hv]
      obtain ⟨h3, h4⟩ := h2
      have h5 : ¬ 97 ≤ b := by omega
      clear h hv
      go_enter Tryd.func42, Tryd.ntmps42
      go_wp2
      go_ret
      exact ⟨rfl, rfl⟩
    · by_cases h3 : 48 ≤ b ∧ b ≤ 57
      · have hv : letV b = true := by simp [letV, h3]
        rw [hv]
        obtain ⟨h6, h7⟩ := h3
        have h8 : ¬ 65 ≤ b := by omega
        have h9 : ¬ 97 ≤ b := by omega
        clear h h2 hv
        go_enter Tryd.func42, Tryd.ntmps42
        go_wp2
        go_ret
        exact ⟨rfl, rfl⟩
      · by_cases h4 : b = 95
        · subst h4
          go_enter Tryd.func42, Tryd.ntmps42
          go_wp2
          go_ret
          exact ⟨rfl, rfl⟩
        · have hv : letV b = false := by
            simp only [letV, Bool.or_eq_false_iff, Bool.and_eq_false_iff, decide_eq_false_iff_not]
            omega
          rw [hv]
          have h95 : (b == 95) = false := beq_eq_false_iff_ne.2 h4
          clear hv h4
          go_enter Tryd.func42, Tryd.ntmps42
          go_wp2
          all_goals
            go_ret
            refine ⟨ret_bool ?_, rfl⟩
            simp only [Bool.or_eq_false_iff, decide_eq_false_iff_not] <;> omega

/-- a name's number is what the scan finds -/
theorem num_hit {l : List ByteArray} {s : ByteArray} {j : Nat} (hj : j < l.length) (h : l[j] = s) (h0 : ∀ i (hi : i < l.length), i < j → l[i] ≠ s) : numB l s = some j := by
  unfold numB
  rw [List.findIdx?_eq_some_iff_getElem]
  exact ⟨hj, by simp [h], fun i hij => by simpa using h0 i (by omega) hij⟩
theorem num_miss {l : List ByteArray} {s : ByteArray} (h0 : ∀ i (hi : i < l.length), l[i] ≠ s) : numB l s = none := by
  unfold numB
  rw [List.findIdx?_eq_none_iff]
  intro x hx
  obtain ⟨i, hi, rfl⟩ := List.mem_iff_getElem.1 hx
  simpa using h0 i hi

set_option maxRecDepth 100000 in
theorem value_any (A : Option Addr) (n c : Nat) (l : List ByteArray) (s : ByteArray) (w : World) (hr : Rds w w.heap.size 1 A n (strCells l)) :
    Calls Tryd.prog 36 #[.slice A n c, .string s] w fun e w' => e = .returned (.tuple #[.int .i64 ((numB l s).getD 0 : Nat), .bool (numB l s).isSome]) ∧ w = w' := by
  obtain rfl := hr.str_len
  have hm := hr.2.1
  obtain ⟨N, hN⟩ : ∃ N, N = numB l s := ⟨_, rfl⟩
  have HNN := hide hN
  rw [← hN]
  clear hN
  go_enter Tryd.func36, Tryd.ntmps36
  go_wp2_with fail
  go_loopw [6] (fun i wr => ∃ (j : Nat), j ≤ l.length ∧ i = .int .i64 (j : Int) ∧ (∀ i (hi : i < l.length), i < j → l[i] ≠ s) ∧ wr = w) (fun i _ => l.length - (intOf i).toNat)
  case atStart => exact ⟨0, Nat.zero_le _, rfl, fun _ _ h => absurd h (by omega), rfl⟩
  case round =>
    obtain ⟨j, hj, rfl, h0, rfl⟩ := hrel
    have H0 := hide h0
    clear h0
    by_cases hlt : j < l.length
    · obtain ⟨bb, oo, rfl, -, ck⟩ := hr.str hlt
      by_cases he : l[j] = s
      · have HN := hide (HNN.out.trans (num_hit hlt he H0.out))
        rw [he] at ck
        have hq : (s.toList == s.toList) = true := by simp
        clear he H0
        go_wp2_with fail
        go_ret2
        exact ⟨by rw [HN.out]; rfl, rfl⟩
      · have HNE := hide he
        have hq : (l[j].toList == s.toList) = false := by
          rw [beq_eq_false_iff_ne, ByteArray.toList_eq, ByteArray.toList_eq]
          exact fun e => he (Go.WideShapes.bytes_inj e)
        have HS := hide (show ∀ i (hi : i < l.length), i < j + 1 → l[i] ≠ s from fun i hi h => by
          rcases Nat.lt_or_ge i j with h' | h'
          · exact H0.out i hi h'
          · have : i = j := by omega
            subst this
            exact HNE.out)
        generalize l[j] = t at *
        clear he H0 HNE
        go_wp2_with fail
        go_roundw
        case rel => exact ⟨j + 1, by omega, by simp, HS.out, trivial⟩
        case measure => simp [intOf]; omega
    · obtain rfl : j = l.length := by omega
      have HN := hide (HNN.out.trans (num_miss (fun i hi => H0.out i hi hi)))
      go_wp2_with fail
      go_ret2
      exact ⟨by rw [HN.out]; rfl, rfl⟩

attribute [local irreducible] wpQuiet

/-- the first texts -/
theorem Rds.str_take {w : World} {B n : Nat} {A : Option Addr} {l : List ByteArray} (h : Rds w B 1 A n (strCells l)) (k : Nat) (hk : k ≤ n) : Rds w B 1 A k (strCells (l.take k)) := by
  have hl := h.str_len
  refine ⟨by rw [strCells_length, List.length_take]; omega, by have := h.2.1; omega, fun h0 => ?_⟩
  obtain ⟨b, o, e, hb, hc⟩ := h.2.2 (by omega)
  refine ⟨b, o, e, hb, fun j u hu => hc j u ?_⟩
  unfold strCells at hu ⊢
  rw [List.map_take, List.getElem?_take] at hu
  split at hu
  · exact hu
  · cases hu

theorem num_take {l : List ByteArray} {j : Nat} (hj : j < l.length) : (numB (l.take j) l[j]).isSome = true ↔ l[j] ∈ l.take j := by
  constructor
  · intro h
    obtain ⟨i, hi⟩ := Option.isSome_iff_exists.1 h
    obtain ⟨h1, h2⟩ := num_some hi
    rw [← h2]
    exact List.getElem_mem h1
  · intro h
    cases hn : numB (l.take j) l[j] with
    | none => exact absurd h (num_none hn)
    | some _ => rfl
theorem name_of {s : ByteArray} (h1 : ∀ i (hi : i < s.size), letB (s[i]'hi) = true) (h2 : 0 < s.size) (h3 : s.size ≤ 40) : isNameB s = true := by
  unfold isNameB
  simp only [Bool.and_eq_true, decide_eq_true_eq, List.all_eq_true]
  refine ⟨fun b hb => ?_, h2, h3⟩
  obtain ⟨i, hi, rfl⟩ := List.mem_iff_getElem.1 hb
  exact h1 i hi
theorem names_not {l : List ByteArray} (h : ¬ (1 ≤ l.length ∧ l.length ≤ 32 ∧ l.Nodup ∧ ∀ s ∈ l, isNameB s = true)) : namesB l = false := by
  rw [Bool.eq_false_iff]
  exact fun e => h ((names_iff l).1 e)

set_option maxRecDepth 100000 in
set_option maxHeartbeats 4000000 in
theorem refNames_any (A : Option Addr) (n c : Nat) (l : List ByteArray) (w : World) (hc : n ≤ c) (hr : Rds w w.heap.size 1 A n (strCells l)) (hz : ∀ s ∈ l, s.size ≤ 1000) :
    Calls Tryd.prog 33 #[.slice A n c] w (Quiet w (.bool (namesB l))) := by
  obtain rfl := hr.str_len
  have hm := hr.2.1
  obtain ⟨N, hN⟩ : ∃ N, N = namesB l := ⟨_, rfl⟩
  have HNN := hide hN
  rw [← hN]
  have HNO := hide (fun h => hN.trans (names_not (l := l) h))
  have HIF := hide (names_iff l)
  clear hN
  go_enter Tryd.func33, Tryd.ntmps33
  go_wp2_with fail
  go_loopg [3] l.length (fun g s3 wx => ∃ (i : Nat), g = l.length - i ∧ i ≤ l.length ∧ s3 = .int .i64 (i : Int) ∧ (l.take i).Nodup ∧ (∀ s ∈ l.take i, isNameB s = true) ∧ ∃ q, wx = w.drewN q)
  case atStart => exact ⟨0, rfl, Nat.zero_le _, rfl, by simp, by simp, 0, rfl⟩
  case round =>
    obtain ⟨i, rfl, hi, rfl, hnd, hnm, q, rfl⟩ := hrel
    have HND := hide hnd
    have HNM := hide hnm
    clear hnd hnm
    by_cases hlt : i < l.length
    · obtain ⟨bb, oo, rfl, -, ck⟩ := (hr.drewN q).str hlt
      have hzs := hz _ (List.getElem_mem hlt)
      have hic : (i : Int) ≤ (c : Int) := by omega
      have hi0 : (0 : Int) ≤ (i : Int) := by omega
      have HTK := hide (num_take hlt)
      have HST := hide (List.take_succ_eq_append_getElem hlt)
      have hrt := hr.str_take i (by omega)
      have HV := hide (fun q' => (value_any (some ⟨bb, oo, none⟩) i c (l.take i) l[i] (w.drewN (q + q')) ((hrt.drewN (q + q')).more (Nat.le_refl _))).mono fun e w' h => (show e = _ ∧ ∃ q2, w' = w.drewN (q + q2) from ⟨h.1, q', h.2.symm⟩))
      have HBAD := hide (show isNameB l[i] = false ∨ l[i] ∈ l.take i → N = false from fun h => HNO.out fun h4 => by
        rcases h with h | h
        · rw [h4.2.2.2 _ (List.getElem_mem hlt)] at h
          cases h
        · obtain ⟨j, hj, e⟩ := List.mem_iff_getElem.1 h
          rw [List.getElem_take] at e
          have h5 := (List.getElem_inj h4.2.2.1).1 e
          rw [List.length_take] at hj
          omega)
      generalize l[i] = t at *
      clear hrt
      go_wp2_with fail
      go_loopg [4] t.size (fun g s4 wx => ∃ (k : Nat), g = t.size - k ∧ k ≤ t.size ∧ s4 = .int .i64 (k : Int) ∧ (∀ j (hj : j < t.size), j < k → letB (t[j]'hj) = true) ∧ wx = w.drewN q)
      case atStart => exact ⟨0, rfl, Nat.zero_le _, rfl, fun _ _ h => absurd h (by omega), rfl⟩
      case round =>
        obtain ⟨k, rfl, hk, rfl, hall, rfl⟩ := hrel
        have HALL := hide hall
        clear hall
        by_cases hkt : k < t.size
        · have hlet := letter_any ((t[k]'hkt).toNat : Int) (w.drewN q)
          cases hb : letB (t[k]'hkt) with
          | true =>
            rw [show letV ((t[k]'hkt).toNat : Int) = true from hb] at hlet
            have HL := hide hlet
            have HS := hide (show ∀ j (hj : j < t.size), j < k + 1 → letB (t[j]'hj) = true from fun j hj h => by
              rcases Nat.lt_or_ge j k with h' | h'
              · exact HALL.out j hj h'
              · have : j = k := by omega
                subst this
                exact hb)
            clear hlet hb HALL
            go_wp2_with fail
            refine HL.out.mono ?_
            rintro e _ ⟨rfl, rfl⟩
            go_wp2_with fail
            go_roundg (t.size - (k + 1))
            case measure => omega
            case rel => exact ⟨k + 1, rfl, by omega, by simp, HS.out, rfl⟩
          | false =>
            rw [show letV ((t[k]'hkt).toNat : Int) = false from hb] at hlet
            have HL := hide hlet
            have HF := hide (HBAD.out (.inl (name_bad hkt hb)))
            clear hlet hb HALL
            go_wp2_with fail
            refine HL.out.mono ?_
            rintro e _ ⟨rfl, rfl⟩
            go_wp2_with fail
            go_ret
            exact ⟨ret_bool HF.out.symm, q, rfl⟩
        · obtain rfl : k = t.size := by omega
          have ck1 : w.cell? ⟨bb, oo + i, none⟩ = some (.string t) := ck
          cases hw : (numB (l.take i) t).isSome with
          | true =>
            rw [hw] at HV
            have HF := hide (HBAD.out (.inr (HTK.out.1 hw)))
            clear hw HTK
            go_wp2_with fail
            refine wp_region_quiet_lit (by kernel_rfl) (by kernel_rfl) ?_
            refine q_step (v := .slice (some ⟨bb, oo, none⟩) l.length c) rfl (fun W9 hc9 => rfl) ?_
            go_frame
            refine q_step (v := .int .i64 (i : Int)) rfl (fun W9 hc9 => rfl) ?_
            go_frame
            refine q_step (v := .slice (some ⟨bb, oo, none⟩) i c) rfl (fun W9 hc9 => by go_simp) ?_
            go_frame
            refine q_step (v := .slice (some ⟨bb, oo, none⟩) l.length c) rfl (fun W9 hc9 => rfl) ?_
            go_frame
            refine q_step (v := .int .i64 (i : Int)) rfl (fun W9 hc9 => rfl) ?_
            go_frame
            refine q_step (v := .pointer (some ⟨bb, oo + i, none⟩)) rfl (fun W9 hc9 => by go_simp) ?_
            go_frame
            refine q_step (v := .string t) rfl (fun W9 hc9 => by obtain ⟨q9, rfl⟩ := hc9; go_simp) ?_
            go_frame
            repeat (quiet_step ((go_at_call 36; exact HV.out _)))
            refine wpQuiet_nil ?_
            rintro _ ⟨nq, rfl⟩
            go_wp2_with fail
            go_ret
            exact ⟨ret_bool HF.out.symm, _, rfl⟩
          | false =>
            rw [hw] at HV
            have HNI := hide (show t ∉ l.take i from fun h => by rw [HTK.out.2 h] at hw; cases hw)
            clear hw HTK
            by_cases h0 : t = ⟨#[]⟩
            · have q0 : (t.toList == []) = true := list_eq_true h0
              have HF := hide (HBAD.out (.inl (by rw [h0]; rfl)))
              clear h0
              go_wp2_with fail
              refine wp_region_quiet_lit (by kernel_rfl) (by kernel_rfl) ?_
              refine q_step (v := .slice (some ⟨bb, oo, none⟩) l.length c) rfl (fun W9 hc9 => rfl) ?_
              go_frame
              refine q_step (v := .int .i64 (i : Int)) rfl (fun W9 hc9 => rfl) ?_
              go_frame
              refine q_step (v := .slice (some ⟨bb, oo, none⟩) i c) rfl (fun W9 hc9 => by go_simp) ?_
              go_frame
              refine q_step (v := .slice (some ⟨bb, oo, none⟩) l.length c) rfl (fun W9 hc9 => rfl) ?_
              go_frame
              refine q_step (v := .int .i64 (i : Int)) rfl (fun W9 hc9 => rfl) ?_
              go_frame
              refine q_step (v := .pointer (some ⟨bb, oo + i, none⟩)) rfl (fun W9 hc9 => by go_simp) ?_
              go_frame
              refine q_step (v := .string t) rfl (fun W9 hc9 => by obtain ⟨q9, rfl⟩ := hc9; go_simp) ?_
              go_frame
              repeat (quiet_step ((go_at_call 36; exact HV.out _)))
              refine wpQuiet_nil ?_
              rintro _ ⟨nq, rfl⟩
              go_wp2_with fail
              go_ret
              exact ⟨ret_bool HF.out.symm, _, rfl⟩
            · have q0 : (t.toList == []) = false := list_eq_false h0
              have hpos : 0 < t.size := by
                rcases Nat.eq_zero_or_pos t.size with h | h
                · exact absurd (Go.WideShapes.bytes_inj (List.length_eq_zero_iff.1 h)) h0
                · exact h
              clear h0
              by_cases h40 : t.size ≤ 40
              · have q1 : ¬ (40 : Int) < (t.size : Int) := by omega
                have HNAME := hide (name_of (fun j hj => HALL.out j hj hj) hpos h40)
                go_wp2_with fail
                refine wp_region_quiet_lit (by kernel_rfl) (by kernel_rfl) ?_
                refine q_step (v := .slice (some ⟨bb, oo, none⟩) l.length c) rfl (fun W9 hc9 => rfl) ?_
                go_frame
                refine q_step (v := .int .i64 (i : Int)) rfl (fun W9 hc9 => rfl) ?_
                go_frame
                refine q_step (v := .slice (some ⟨bb, oo, none⟩) i c) rfl (fun W9 hc9 => by go_simp) ?_
                go_frame
                refine q_step (v := .slice (some ⟨bb, oo, none⟩) l.length c) rfl (fun W9 hc9 => rfl) ?_
                go_frame
                refine q_step (v := .int .i64 (i : Int)) rfl (fun W9 hc9 => rfl) ?_
                go_frame
                refine q_step (v := .pointer (some ⟨bb, oo + i, none⟩)) rfl (fun W9 hc9 => by go_simp) ?_
                go_frame
                refine q_step (v := .string t) rfl (fun W9 hc9 => by obtain ⟨q9, rfl⟩ := hc9; go_simp) ?_
                go_frame
                repeat (quiet_step ((go_at_call 36; exact HV.out _)))
                refine wpQuiet_nil ?_
                rintro _ ⟨nq, rfl⟩
                go_wp2_with fail
                go_roundg (l.length - (i + 1))
                case measure => omega
                case rel =>
                  refine ⟨i + 1, rfl, by omega, by simp, ?_, ?_, _, rfl⟩
                  · rw [HST.out, List.nodup_append]
                    exact ⟨HND.out, by simp, fun a ha b hb e => by rw [List.mem_singleton] at hb; subst hb; subst e; exact HNI.out ha⟩
                  · intro s hs
                    rw [HST.out, List.mem_append, List.mem_singleton] at hs
                    rcases hs with hs | rfl
                    · exact HNM.out s hs
                    · exact HNAME.out
              · have q1 : (40 : Int) < (t.size : Int) := by omega
                have HF := hide (HBAD.out (.inl (by
                  rw [Bool.eq_false_iff]
                  intro h
                  unfold isNameB at h
                  simp only [Bool.and_eq_true, decide_eq_true_eq] at h
                  omega)))
                go_wp2_with fail
                refine wp_region_quiet_lit (by kernel_rfl) (by kernel_rfl) ?_
                refine q_step (v := .slice (some ⟨bb, oo, none⟩) l.length c) rfl (fun W9 hc9 => rfl) ?_
                go_frame
                refine q_step (v := .int .i64 (i : Int)) rfl (fun W9 hc9 => rfl) ?_
                go_frame
                refine q_step (v := .slice (some ⟨bb, oo, none⟩) i c) rfl (fun W9 hc9 => by go_simp) ?_
                go_frame
                refine q_step (v := .slice (some ⟨bb, oo, none⟩) l.length c) rfl (fun W9 hc9 => rfl) ?_
                go_frame
                refine q_step (v := .int .i64 (i : Int)) rfl (fun W9 hc9 => rfl) ?_
                go_frame
                refine q_step (v := .pointer (some ⟨bb, oo + i, none⟩)) rfl (fun W9 hc9 => by go_simp) ?_
                go_frame
                refine q_step (v := .string t) rfl (fun W9 hc9 => by obtain ⟨q9, rfl⟩ := hc9; go_simp) ?_
                go_frame
                repeat (quiet_step ((go_at_call 36; exact HV.out _)))
                refine wpQuiet_nil ?_
                rintro _ ⟨nq, rfl⟩
                go_wp2_with fail
                go_ret
                exact ⟨ret_bool HF.out.symm, _, rfl⟩
    · obtain rfl : i = l.length := by omega
      rw [List.take_length] at HND HNM
      by_cases h1 : 1 ≤ l.length
      · have q1 : (1 : Int) ≤ (l.length : Int) := by omega
        by_cases h2 : l.length ≤ 32
        · have q2 : (l.length : Int) ≤ 32 := by omega
          have HT := hide (HNN.out.trans (HIF.out.2 ⟨h1, h2, HND.out, HNM.out⟩))
          clear h1 h2
          go_wp2_with fail
          go_ret
          exact ⟨ret_bool HT.out.symm, q, rfl⟩
        · have q2 : ¬ (l.length : Int) ≤ 32 := by omega
          have HF := hide (HNO.out (fun h => h2 h.2.1))
          clear h1 h2
          go_wp2_with fail
          go_ret
          exact ⟨ret_bool HF.out.symm, q, rfl⟩
      · have q1 : ¬ (1 : Int) ≤ (l.length : Int) := by omega
        have HF := hide (HNO.out (fun h => h1 h.1))
        clear h1
        go_wp2_with fail
        go_ret
        exact ⟨ret_bool HF.out.symm, q, rfl⟩
end Go.Proofs.YtigkphjgidbppaaDoor
