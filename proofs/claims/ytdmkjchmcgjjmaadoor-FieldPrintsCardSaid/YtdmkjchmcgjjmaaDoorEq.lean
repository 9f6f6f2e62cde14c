/- Which lists of numbers are the same: the reference's function. Conditions: the slices read as lists. -/
import Derived.Test.YtdmkjchmcgjjmaaDoorProg
import Derived.Test.YtdmkjchmcgjjmaaDoorBase
import Derived.BigQuiet
import Derived.Deep.QuietTactic
namespace Go.Proofs.YtdmkjchmcgjjmaaDoor
open Go Go.RowKit

theorem quiet_ret {w : World} {a b : Bool} {q : Nat} (h : a = b) : Quiet w (.bool a) (.returned (.bool b)) (w.drewN q) := ⟨by rw [h], q, rfl⟩
theorem dec_drop {α : Type} [DecidableEq α] {l m : List α} {k : Nat} {x y : α} {l' m' : List α} (h : decide (l = m) = decide (l.drop k = m.drop k)) (hd : l.drop k = x :: l') (hd' : m.drop k = y :: m') :
    (x = y → decide (l = m) = decide (l' = m')) ∧ (x ≠ y → decide (l = m) = false) := by
  rw [h, hd, hd']
  refine ⟨fun e => ?_, fun e => ?_⟩
  · subst e; simp
  · simp [e]
theorem dec_end {α : Type} [DecidableEq α] {l m : List α} {k : Nat} (h : decide (l = m) = decide (l.drop k = m.drop k)) (hk : k = l.length) (hk' : k = m.length) : decide (l = m) = true := by
  rw [h, List.drop_of_length_le (by omega), List.drop_of_length_le (by omega)]; simp

set_option maxHeartbeats 800000 in
theorem ints_any (A A' : Option Addr) (n c n' c' : Nat) (l m : List Int) (w : World) (hr : Rds w w.heap.size 1 A n (intCells l)) (hr' : Rds w w.heap.size 1 A' n' (intCells m)) :
    Calls Tryd.prog 20 #[.slice A n c, .slice A' n' c'] w (Quiet w (.bool (decide (l = m)))) := by
  have hl := hr.int_len
  have hl' := hr'.int_len
  have hm := hr.2.1
  subst hl; subst hl'
  by_cases hlen : l.length = m.length
  · have hne : (((l.length : Nat) : Int) != (m.length : Int)) = false := by simp [hlen]
    have HL := hide hlen
    clear hlen
    go_enter Tryd.func20, Tryd.ntmps20
    go_wp2
    go_loopw [5] (fun i wr => ∃ (k : Nat), k ≤ l.length ∧ i = .int .i64 k ∧ decide (l = m) = decide (l.drop k = m.drop k) ∧ ∃ q, wr = w.drewN q) (fun i _ => l.length - (intOf i).toNat)
    case atStart => exact ⟨0, Nat.zero_le _, rfl, rfl, 0, rfl⟩
    case round =>
      obtain ⟨k, hk, rfl, hg, q, rfl⟩ := hrel
      have HG := hide hg
      clear hg
      by_cases hlt : k < l.length
      · have hlt' : k < m.length := by have := HL.out; omega
        obtain ⟨b, o, rfl, hbl, c0⟩ := hr.int hlt
        obtain ⟨b', o', rfl, hbl', c0'⟩ := hr'.int hlt'
        have HD := hide (dec_drop HG.out (drop_cons hlt) (drop_cons hlt'))
        generalize l[k] = x at c0  HD
        generalize m[k] = y at c0'  HD
        by_cases hxy : x = y
        · have HE := hide (HD.out.1 hxy)
          clear HD
          subst hxy
          go_wp2
          go_quiet (fail)
          go_wp2
          go_roundw
          case rel => exact ⟨k + 1, by omega, by go_num, HE.out, _, rfl⟩
          case measure => simp [intOf]; omega
        · have HE := hide (HD.out.2 hxy)
          clear HD
          have hx' : (x != y) = true := by simpa using hxy
          clear hxy
          all_goals go_wp2
          all_goals go_quiet (fail)
          all_goals go_wp2
          all_goals go_ret
          all_goals exact ⟨ret_bool HE.out.symm, _, World.drewN_drewN _ _ _⟩
      · obtain rfl : k = l.length := by omega
        have HD := hide (dec_end HG.out rfl HL.out)
        go_wp2
        go_ret
        exact ⟨ret_bool HD.out.symm, _, rfl⟩
  · have hne : (((l.length : Nat) : Int) != (m.length : Int)) = true := by simp; omega
    have hlm : decide (l = m) = false := by simp; intro e; exact hlen (by rw [e])
    have HL := hide hlm
    clear hlm
    go_enter Tryd.func20, Tryd.ntmps20
    go_wp2
    go_ret
    exact ⟨ret_bool HL.out.symm, 0, rfl⟩

end Go.Proofs.YtdmkjchmcgjjmaaDoor
