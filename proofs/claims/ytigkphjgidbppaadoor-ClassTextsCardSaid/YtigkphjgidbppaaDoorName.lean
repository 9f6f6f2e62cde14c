/- The program's prop.isName: is a text a name? Conditions: none. -/
import Derived.Test.YtigkphjgidbppaaDoorBase
import Derived.Test.YtigkphjgidbppaaDoorProg
import Derived.Tactics2
import Derived.Laws.RangeAny
import Derived.Laws.RangeString
import Derived.OwnWalk
import Derived.Outline
namespace Go.Proofs.YtigkphjgidbppaaDoor
open Go Go.RowKit

def letV (v : Int) : Bool := (decide (97 ≤ v) && decide (v ≤ 122)) || (decide (65 ≤ v) && decide (v ≤ 90)) || (decide (48 ≤ v) && decide (v ≤ 57)) || decide (v = 95)
def letB (b : UInt8) : Bool := letV (b.toNat : Int)
def isNameB (s : ByteArray) : Bool := s.data.toList.all letB && (decide (0 < s.size) && decide (s.size ≤ 40))

theorem iter_below (w : World) (s : ByteArray) (p : Nat) : Below w.heap.size w (w.iter s p) := by
  unfold World.iter
  exact (Below.refl _ _).alloc (Nat.le_refl _) _
theorem name_bad {s : ByteArray} {i : Nat} (hi : i < s.size) (h : letB (s[i]'hi) = false) : isNameB s = false := by
  unfold isNameB
  rw [Bool.and_eq_false_iff]
  left
  rw [Bool.eq_false_iff]
  intro h2
  rw [List.all_eq_true] at h2
  have h3 := h2 (s[i]'hi) (by
    have e : s[i]'hi = s.data.toList[i]'(by simpa using hi) := rfl
    rw [e]
    exact List.getElem_mem _)
  rw [h] at h3
  cases h3
theorem name_step {s : ByteArray} {i : Nat} (hi : i < s.size) (h : letB (s[i]'hi) = true) (h0 : (s.data.toList.take i).all letB = true) : (s.data.toList.take (i + 1)).all letB = true := by
  have hi' : i < s.data.toList.length := by simpa using hi
  have e : s[i]'hi = s.data.toList[i]'hi' := rfl
  rw [List.take_succ_eq_append_getElem hi', List.all_append, h0, ← e]
  simp [h]

set_option maxRecDepth 100000 in
set_option maxHeartbeats 2000000 in
theorem isName_any (s : ByteArray) (w : World) (hs : s.size ≤ 9223372036854775807) : Calls Tryd.prog 58 #[.string s] w (Freed w (.bool (isNameB s))) := by
  go_enter Tryd.func58, Tryd.ntmps58
  go_wp2_with fail
  go_loopw [4] (fun _ wr => ∃ (i : Nat), i ≤ s.size ∧ (s.data.toList.take i).all letB = true ∧ wr = w.iter s i) (fun _ wr => s.size - wr.iterPos w.heap.size)
  case atStart => exact ⟨0, Nat.zero_le _, rfl, rfl⟩
  case round =>
    obtain ⟨i, hi, hall, rfl⟩ := hrel
    have HALL := hide hall
    clear hall
    by_cases hlt : i < s.size
    · have hv : ∃ (v : Int) (p : Nat), (∀ ty, (Instr.next (.pointer (some ⟨w.heap.size, 0, none⟩)) true ty).run Tryd.prog (w.iter s i) = .ok (.tuple #[.bool true, .int .i64 i, .int .i32 v]) (w.iter s p)) ∧ 0 ≤ v ∧ (letV v = letB (s[i]'hlt)) ∧ (letV v = true → p = i + 1) := by
        by_cases ha : (s[i]'hlt).toNat < 128
        · exact ⟨_, _, fun ty => run_next_ascii (P := Tryd.prog) w s i ty hlt ha, by omega, rfl, fun _ => rfl⟩
        · have hh := decode_high s i hlt (by omega)
          have e1 : letV (Utf8.decode s i).1 = false := by
            have h128 := hh.1
            generalize (Utf8.decode s i).1 = v at *
            simp only [letV, Bool.or_eq_false_iff, Bool.and_eq_false_iff, decide_eq_false_iff_not]
            omega
          have e2 : letB (s[i]'hlt) = false := by
            unfold letB
            generalize (s[i]'hlt).toNat = v at *
            simp only [letV, Bool.or_eq_false_iff, Bool.and_eq_false_iff, decide_eq_false_iff_not]
            omega
          exact ⟨_, _, fun ty => run_next_any (P := Tryd.prog) w s i ty hlt, by have := hh.1; omega, by rw [e1, e2], fun h => by rw [e1] at h; cases h⟩
      obtain ⟨v, p, hnx, hv0, hvb, hvp⟩ := hv
      have HVB := hide hvb
      have HVP := hide hvp
      clear hvb hvp
      rcases (show (v < 48) ∨ (48 ≤ v ∧ v ≤ 57) ∨ (58 ≤ v ∧ v ≤ 64) ∨ (65 ≤ v ∧ v ≤ 90) ∨ (91 ≤ v ∧ v ≤ 94) ∨ (v = 95) ∨ (v = 96) ∨ (97 ≤ v ∧ v ≤ 122) ∨ (123 ≤ v) by omega) with hz | hz | hz | hz | hz | hz | hz | hz | hz
      · have d0 : decide ((97 : Int) ≤ v) = false := decide_eq_false (by omega)
        have d1 : decide (v ≤ (122 : Int)) = true := decide_eq_true (by omega)
        have d2 : decide ((65 : Int) ≤ v) = false := decide_eq_false (by omega)
        have d3 : decide (v ≤ (90 : Int)) = true := decide_eq_true (by omega)
        have d4 : decide (v < (48 : Int)) = true := decide_eq_true (by omega)
        have d5 : decide ((57 : Int) < v) = false := decide_eq_false (by omega)
        have d7 : (v != 95) = true := by rw [bne_iff_ne]; omega
        have hl := hide (show letV v = false by simp only [letV, Bool.or_eq_false_iff, Bool.and_eq_false_iff, decide_eq_false_iff_not]; omega)
        have hb := hide (name_bad hlt (by rw [← HVB.out, hl.out]))
        clear hz
        go_wp2_with fail
        go_ret
        refine ⟨ret_bool hb.out.symm, ?_⟩
        exact iter_below w s _
      · have d0 : decide ((97 : Int) ≤ v) = false := decide_eq_false (by omega)
        have d1 : decide (v ≤ (122 : Int)) = true := decide_eq_true (by omega)
        have d2 : decide ((65 : Int) ≤ v) = false := decide_eq_false (by omega)
        have d3 : decide (v ≤ (90 : Int)) = true := decide_eq_true (by omega)
        have d4 : decide (v < (48 : Int)) = false := decide_eq_false (by omega)
        have d5 : decide ((57 : Int) < v) = false := decide_eq_false (by omega)
        have d7 : (v != 95) = true := by rw [bne_iff_ne]; omega
        have hl := hide (show letV v = true by simp only [letV, Bool.or_eq_true, Bool.and_eq_true, decide_eq_true_eq]; omega)
        have hp := HVP.out hl.out
        subst hp
        clear hz
        go_wp2_with fail
        go_roundw
        case rel => exact ⟨i + 1, by omega, name_step hlt (by rw [← HVB.out, hl.out]) HALL.out, rfl⟩
        case measure => simp; omega
      · have d0 : decide ((97 : Int) ≤ v) = false := decide_eq_false (by omega)
        have d1 : decide (v ≤ (122 : Int)) = true := decide_eq_true (by omega)
        have d2 : decide ((65 : Int) ≤ v) = false := decide_eq_false (by omega)
        have d3 : decide (v ≤ (90 : Int)) = true := decide_eq_true (by omega)
        have d4 : decide (v < (48 : Int)) = false := decide_eq_false (by omega)
        have d5 : decide ((57 : Int) < v) = true := decide_eq_true (by omega)
        have d7 : (v != 95) = true := by rw [bne_iff_ne]; omega
        have hl := hide (show letV v = false by simp only [letV, Bool.or_eq_false_iff, Bool.and_eq_false_iff, decide_eq_false_iff_not]; omega)
        have hb := hide (name_bad hlt (by rw [← HVB.out, hl.out]))
        clear hz
        go_wp2_with fail
        go_ret
        refine ⟨ret_bool hb.out.symm, ?_⟩
        exact iter_below w s _
      · have d0 : decide ((97 : Int) ≤ v) = false := decide_eq_false (by omega)
        have d1 : decide (v ≤ (122 : Int)) = true := decide_eq_true (by omega)
        have d2 : decide ((65 : Int) ≤ v) = true := decide_eq_true (by omega)
        have d3 : decide (v ≤ (90 : Int)) = true := decide_eq_true (by omega)
        have d4 : decide (v < (48 : Int)) = false := decide_eq_false (by omega)
        have d5 : decide ((57 : Int) < v) = true := decide_eq_true (by omega)
        have d7 : (v != 95) = true := by rw [bne_iff_ne]; omega
        have hl := hide (show letV v = true by simp only [letV, Bool.or_eq_true, Bool.and_eq_true, decide_eq_true_eq]; omega)
        have hp := HVP.out hl.out
        subst hp
        clear hz
        go_wp2_with fail
        go_roundw
        case rel => exact ⟨i + 1, by omega, name_step hlt (by rw [← HVB.out, hl.out]) HALL.out, rfl⟩
        case measure => simp; omega
      · have d0 : decide ((97 : Int) ≤ v) = false := decide_eq_false (by omega)
        have d1 : decide (v ≤ (122 : Int)) = true := decide_eq_true (by omega)
        have d2 : decide ((65 : Int) ≤ v) = true := decide_eq_true (by omega)
        have d3 : decide (v ≤ (90 : Int)) = false := decide_eq_false (by omega)
        have d4 : decide (v < (48 : Int)) = false := decide_eq_false (by omega)
        have d5 : decide ((57 : Int) < v) = true := decide_eq_true (by omega)
        have d7 : (v != 95) = true := by rw [bne_iff_ne]; omega
        have hl := hide (show letV v = false by simp only [letV, Bool.or_eq_false_iff, Bool.and_eq_false_iff, decide_eq_false_iff_not]; omega)
        have hb := hide (name_bad hlt (by rw [← HVB.out, hl.out]))
        clear hz
        go_wp2_with fail
        go_ret
        refine ⟨ret_bool hb.out.symm, ?_⟩
        exact iter_below w s _
      · have d0 : decide ((97 : Int) ≤ v) = false := decide_eq_false (by omega)
        have d1 : decide (v ≤ (122 : Int)) = true := decide_eq_true (by omega)
        have d2 : decide ((65 : Int) ≤ v) = true := decide_eq_true (by omega)
        have d3 : decide (v ≤ (90 : Int)) = false := decide_eq_false (by omega)
        have d4 : decide (v < (48 : Int)) = false := decide_eq_false (by omega)
        have d5 : decide ((57 : Int) < v) = true := decide_eq_true (by omega)
        have d7 : (v != 95) = false := by rw [hz]; rfl
        have hl := hide (show letV v = true by simp only [letV, Bool.or_eq_true, Bool.and_eq_true, decide_eq_true_eq]; omega)
        have hp := HVP.out hl.out
        subst hp
        clear hz
        go_wp2_with fail
        go_roundw
        case rel => exact ⟨i + 1, by omega, name_step hlt (by rw [← HVB.out, hl.out]) HALL.out, rfl⟩
        case measure => simp; omega
      · have d0 : decide ((97 : Int) ≤ v) = false := decide_eq_false (by omega)
        have d1 : decide (v ≤ (122 : Int)) = true := decide_eq_true (by omega)
        have d2 : decide ((65 : Int) ≤ v) = true := decide_eq_true (by omega)
        have d3 : decide (v ≤ (90 : Int)) = false := decide_eq_false (by omega)
        have d4 : decide (v < (48 : Int)) = false := decide_eq_false (by omega)
        have d5 : decide ((57 : Int) < v) = true := decide_eq_true (by omega)
        have d7 : (v != 95) = true := by rw [bne_iff_ne]; omega
        have hl := hide (show letV v = false by simp only [letV, Bool.or_eq_false_iff, Bool.and_eq_false_iff, decide_eq_false_iff_not]; omega)
        have hb := hide (name_bad hlt (by rw [← HVB.out, hl.out]))
        clear hz
        go_wp2_with fail
        go_ret
        refine ⟨ret_bool hb.out.symm, ?_⟩
        exact iter_below w s _
      · have d0 : decide ((97 : Int) ≤ v) = true := decide_eq_true (by omega)
        have d1 : decide (v ≤ (122 : Int)) = true := decide_eq_true (by omega)
        have d2 : decide ((65 : Int) ≤ v) = true := decide_eq_true (by omega)
        have d3 : decide (v ≤ (90 : Int)) = false := decide_eq_false (by omega)
        have d4 : decide (v < (48 : Int)) = false := decide_eq_false (by omega)
        have d5 : decide ((57 : Int) < v) = true := decide_eq_true (by omega)
        have d7 : (v != 95) = true := by rw [bne_iff_ne]; omega
        have hl := hide (show letV v = true by simp only [letV, Bool.or_eq_true, Bool.and_eq_true, decide_eq_true_eq]; omega)
        have hp := HVP.out hl.out
        subst hp
        clear hz
        go_wp2_with fail
        go_roundw
        case rel => exact ⟨i + 1, by omega, name_step hlt (by rw [← HVB.out, hl.out]) HALL.out, rfl⟩
        case measure => simp; omega
      · have d0 : decide ((97 : Int) ≤ v) = true := decide_eq_true (by omega)
        have d1 : decide (v ≤ (122 : Int)) = false := decide_eq_false (by omega)
        have d2 : decide ((65 : Int) ≤ v) = true := decide_eq_true (by omega)
        have d3 : decide (v ≤ (90 : Int)) = false := decide_eq_false (by omega)
        have d4 : decide (v < (48 : Int)) = false := decide_eq_false (by omega)
        have d5 : decide ((57 : Int) < v) = true := decide_eq_true (by omega)
        have d7 : (v != 95) = true := by rw [bne_iff_ne]; omega
        have hl := hide (show letV v = false by simp only [letV, Bool.or_eq_false_iff, Bool.and_eq_false_iff, decide_eq_false_iff_not]; omega)
        have hb := hide (name_bad hlt (by rw [← HVB.out, hl.out]))
        clear hz
        go_wp2_with fail
        go_ret
        refine ⟨ret_bool hb.out.symm, ?_⟩
        exact iter_below w s _
    · obtain rfl : i = s.size := by omega
      have hnx := fun ty => run_next_end (P := Tryd.prog) w s s.size ty (by omega)
      have hall := HALL.out
      rw [List.take_of_length_le (by simp)] at hall
      have hres : isNameB s = (decide (0 < s.size) && decide (s.size ≤ 40)) := by unfold isNameB; rw [hall, Bool.true_and]
      have HRES := hide hres
      clear hall hres
      rcases Nat.eq_zero_or_pos s.size with h0 | h0
      · have he : (s.toList == ([] : List UInt8)) = true := by
          rw [beq_iff_eq, ByteArray.toList_eq]
          exact List.length_eq_zero_iff.1 (by simpa using h0)
        have hb : isNameB s = false := by rw [HRES.out, h0]; rfl
        have HB := hide hb
        clear hb
        have HH0 := hide h0
        clear h0
        go_wp2_with fail
        go_ret
        exact ⟨ret_bool HB.out.symm, iter_below w s _⟩
      · have he : (s.toList == ([] : List UInt8)) = false := by
          rw [beq_eq_false_iff_ne, ByteArray.toList_eq]
          intro e
          have h9 : s.size = 0 := by have := congrArg List.length e; simpa using this
          omega
        have hb : isNameB s = decide (s.size ≤ 40) := by rw [HRES.out, decide_eq_true h0, Bool.true_and]
        have HB := hide hb
        have e4 : (decide ((s.size : Int) ≤ 40)) = decide (s.size ≤ 40) := by rw [Bool.eq_iff_iff]; simp only [decide_eq_true_eq]; omega
        have HE4 := hide e4
        clear hb e4
        go_wp2_with fail
        go_ret
        refine ⟨ret_bool ?_, iter_below w s _⟩
        rw [HB.out, ← HE4.out]
end Go.Proofs.YtigkphjgidbppaaDoor
