/- Is one of the texts no name? slices.ContainsFunc at the program's own predicate. Conditions: the slice reads as the list of texts. -/
import Derived.Test.YtigkphjgidbppaaDoorName
namespace Go.Proofs.YtigkphjgidbppaaDoor
open Go Go.RowKit

theorem notName_any (s : ByteArray) (w : World) (hs : s.size ≤ 9223372036854775807) : Calls Tryd.prog 57 #[.string s] w (Freed w (.bool (!isNameB s))) := by
  have h := isName_any s w hs
  generalize isNameB s = b at *
  go_enter Tryd.func57, Tryd.ntmps57
  go_wp2_with fail
  refine h.mono ?_
  rintro e w1 ⟨rfl, hb⟩
  go_wp2
  go_ret
  exact ⟨rfl, hb⟩

/-- where the first one is, or below 0 -/
def SomeIdx (w : World) (b : Bool) (e : Ending) (w' : World) : Prop := ∃ r : Int, e = .returned (.int .i64 r) ∧ decide (0 ≤ r) = b ∧ Below w.heap.size w w'

set_option maxRecDepth 100000 in
set_option maxHeartbeats 1000000 in
theorem indexNot_any (A : Option Addr) (n c : Nat) (l : List ByteArray) (w : World) (hr : Rds w w.heap.size 1 A n (strCells l)) (hz : ∀ s ∈ l, s.size ≤ 9223372036854775807) :
    Calls Tryd.prog 72 #[.slice A n c, .func (.func 57) #[] #[]] w (SomeIdx w (l.any fun s => !isNameB s)) := by
  obtain rfl := hr.str_len
  have hm := hr.2.1
  go_enter Tryd.func72, Tryd.ntmps72
  go_wp2_with fail
  go_loopw [8] (fun i wr => ∃ (k : Nat), k ≤ l.length ∧ i = .int .i64 k ∧ (l.any fun s => !isNameB s) = ((l.drop k).any fun s => !isNameB s) ∧ Below w.heap.size w wr) (fun i _ => l.length - (intOf i).toNat)
  case atStart => exact ⟨0, Nat.zero_le _, rfl, rfl, Below.refl _ _⟩
  case round =>
    obtain ⟨k, hk, rfl, hg, hbw⟩ := hrel
    have HG := hide hg
    clear hg
    by_cases hlt : k < l.length
    · obtain ⟨b, o, rfl, hbl, ck⟩ := (hr.below hbw).str hlt
      have hnn := notName_any l[k] wr (hz _ (List.getElem_mem hlt))
      have HD := hide (show ((l.drop k).any fun s => !isNameB s) = ((!isNameB l[k]) || ((l.drop (k + 1)).any fun s => !isNameB s)) by rw [drop_cons hlt, List.any_cons])
      generalize l[k] = s at *
      generalize hq : isNameB s = q at *
      clear hq
      go_wp2_with fail
      refine hnn.mono ?_
      rintro e w1 ⟨rfl, hb⟩
      have hb1 := hbw.trans (hb.mono hbw.size)
      cases q with
      | true =>
        have HX := hide (show (l.any fun s => !isNameB s) = ((l.drop (k + 1)).any fun s => !isNameB s) from HG.out.trans (HD.out.trans (by simp)))
        go_wp2_with fail
        go_roundw
        case rel => exact ⟨k + 1, by omega, by simp, HX.out, hb1⟩
        case measure => simp [intOf]; omega
      | false =>
        have HX := hide (show (l.any fun s => !isNameB s) = true from HG.out.trans (HD.out.trans (by simp)))
        go_wp2_with fail
        go_ret
        exact ⟨k, rfl, by rw [HX.out]; exact decide_eq_true (by omega), hb1⟩
    · obtain rfl : k = l.length := by omega
      have HX := hide (show (l.any fun s => !isNameB s) = false by rw [HG.out]; simp)
      go_wp2_with fail
      go_ret
      exact ⟨-1, rfl, by rw [HX.out]; rfl, hbw⟩

theorem containsNot_any (A : Option Addr) (n c : Nat) (l : List ByteArray) (w : World) (hr : Rds w w.heap.size 1 A n (strCells l)) (hz : ∀ s ∈ l, s.size ≤ 9223372036854775807) :
    Calls Tryd.prog 59 #[.slice A n c, .func (.func 57) #[] #[]] w (Freed w (.bool (l.any fun s => !isNameB s))) := by
  have h := indexNot_any A n c l w hr hz
  generalize (l.any fun s => !isNameB s) = b at *
  go_enter Tryd.func59, Tryd.ntmps59
  go_wp2_with fail
  refine h.mono ?_
  rintro e w1 ⟨r, rfl, hd, hb⟩
  have HD := hide hd
  clear hd
  go_wp2_with fail
  go_ret
  exact ⟨ret_bool HD.out, hb⟩
end Go.Proofs.YtigkphjgidbppaaDoor
