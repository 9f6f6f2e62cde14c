/- span.isOne, span.Right and the reference's test of a range, on any slice of ranges. Conditions: the slice reads as the list. -/
import Derived.Test.YtibndkkbmgbogaaDoorProg
import Derived.Test.YtibndkkbmgbogaaDoorBase
import Derived.BigQuiet
import Derived.Deep.QuietTactic
namespace Go.Proofs.YtibndkkbmgbogaaDoor
open Go Go.RowKit

set_option maxHeartbeats 400000 in
theorem one_any (a b c : Int) (w : World) :
    Calls Tryd.prog 85 #[.agg #[.int .i64 a, .int .i64 b, .int .i64 c]] w fun e w' => e = .returned (.bool (Rg.okB ⟨a, b, c⟩)) ∧ Below w.heap.size w w' := by
  go_enter Tryd.func85, Tryd.ntmps85
  go_wp2
  all_goals go_ret
  all_goals (refine ⟨ret_bool ?_, (Below.refl _ _).alloc (Nat.le_refl _) _⟩)
  all_goals (simp [Rg.okB]; omega)

/-- what the program itself takes for a right range -/
def Rg.oneB (x : Rg) : Bool := decide (0 ≤ x.fr) && (decide (x.fr ≤ x.to) && decide (x.to ≤ 1114111) || decide (x.to = 1114111)) && decide (0 ≤ x.vl) && decide (x.vl ≤ 31)

set_option maxHeartbeats 400000 in
theorem isOne_any (a b c : Int) (w : World) :
    Calls Tryd.prog 67 #[.agg #[.int .i64 a, .int .i64 b, .int .i64 c]] w fun e w' => e = .returned (.bool (Rg.oneB ⟨a, b, c⟩)) ∧ Below w.heap.size w w' := by
  go_enter Tryd.func67, Tryd.ntmps67
  go_wp2
  all_goals go_ret
  all_goals (refine ⟨ret_bool ?_, ((Below.refl _ _).alloc (Nat.le_refl _) _).alloc (by simp) _⟩)
  all_goals (rw [Bool.eq_iff_iff]; simp [Rg.oneB]; omega)

def rightGo : Int → List Rg → Bool
  | _, [] => true
  | last, x :: r => x.oneB && decide (last < x.fr) && rightGo x.to r

def rightB (l : List Rg) : Bool := rightGo (-1) l && decide (l.length ≤ 600)

set_option maxHeartbeats 400000 in
theorem right_any (A : Option Addr) (n c : Nat) (l : List Rg) (w : World) (hr : Rds w w.heap.size 3 A n (rgCells l)) (hm : n ≤ 9223372036854775807) :
    Calls Tryd.prog 44 #[.slice A n c] w fun e w' => e = .returned (.bool (rightB l)) ∧ Below w.heap.size w w' := by
  have hl := hr.rg_len
  subst hl
  go_enter Tryd.func44, Tryd.ntmps44
  go_wp2
  go_loopw [3, 8] (fun s i wr => ∃ (k : Nat) (last : Int), k ≤ l.length ∧ i = .int .i64 k ∧ s = .int .i64 last ∧ rightGo (-1) l = rightGo last (l.drop k) ∧ Below w.heap.size w wr) (fun _ i _ => l.length - (intOf i).toNat)
  case atStart => exact ⟨0, -1, Nat.zero_le _, rfl, rfl, rfl, Below.refl _ _⟩
  case round =>
    obtain ⟨k, last, hk, rfl, rfl, hg, hb⟩ := hrel
    have HG := hide hg
    clear hg
    by_cases hlt : k < l.length
    · obtain ⟨b, o, rfl, hbl, c0, c1, c2⟩ := (hr.below hb).rg hlt
      have hd : l.drop k = l[k] :: l.drop (k + 1) := List.drop_eq_getElem_cons hlt
      have HD := hide hd
      clear hd
      generalize hx : l[k] = x at c0 c1 c2 HD
      clear hx
      have hsz := hb.size
      by_cases hok : x.oneB = true
      · by_cases hle : last < x.fr
        · go_wp2_with (go_at_call 67; refine (isOne_any _ _ _ _).mono ?_; rintro e w1 ⟨rfl, hb1⟩; obtain ⟨hc1, hf1⟩ := bcell hb1)
          go_roundw
          case rel => exact ⟨k + 1, x.to, by omega, by go_num, rfl, by rw [HG.out, HD.out]; simp [rightGo, hok, hle], hb.trans (((Below.refl _ _).alloc hsz _).trans (hb1.mono (by simp; omega)))⟩
          case measure => simp [intOf]; omega
        · go_wp2_with (go_at_call 67; refine (isOne_any _ _ _ _).mono ?_; rintro e w1 ⟨rfl, hb1⟩; obtain ⟨hc1, hf1⟩ := bcell hb1)
          go_ret
          exact ⟨ret_bool (by unfold rightB; rw [HG.out, HD.out]; have hn : ¬ last < x.fr := (by omega); simp [rightGo, hn]), hb.trans (((Below.refl _ _).alloc hsz _).trans (hb1.mono (by simp; omega)))⟩
      · simp only [Bool.not_eq_true] at hok
        go_wp2_with (go_at_call 67; refine (isOne_any _ _ _ _).mono ?_; rintro e w1 ⟨rfl, hb1⟩; obtain ⟨hc1, hf1⟩ := bcell hb1)
        go_ret
        exact ⟨ret_bool (by unfold rightB; rw [HG.out, HD.out]; simp [rightGo, hok]), hb.trans (((Below.refl _ _).alloc hsz _).trans (hb1.mono (by simp; omega)))⟩
    · obtain rfl : k = l.length := by omega
      go_wp2
      all_goals go_ret
      all_goals exact ⟨ret_bool (by unfold rightB; rw [HG.out]; simp [rightGo]; try omega), hb⟩
end Go.Proofs.YtibndkkbmgbogaaDoor
