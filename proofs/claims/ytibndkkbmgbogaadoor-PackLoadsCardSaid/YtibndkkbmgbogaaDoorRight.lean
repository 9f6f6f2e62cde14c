/- Which tries are right: the program's trie.Right. Conditions: the trie's slices read as lists. -/
import Derived.Test.YtibndkkbmgbogaaDoorProg
import Derived.Test.YtibndkkbmgbogaaDoorBase
import Derived.Test.YtibndkkbmgbogaaDoorEq
import Derived.BigQuiet
import Derived.Deep.QuietTactic
namespace Go.Proofs.YtibndkkbmgbogaaDoor
open Go Go.RowKit

def badVal (v : Int) : Bool := !valB v
def badIn (nb : Nat) (v : Int) : Bool := !(decide (0 ≤ v) && decide (v < nb))
def badBlock (b : List Int) : Bool := !blockB b

def SameB (w : World) (b : Bool) (e : Ending) (w' : World) : Prop := e = .returned (.bool b) ∧ w = w'
def SomeIdx (w : World) (b : Bool) (e : Ending) (w' : World) : Prop := ∃ r : Int, e = .returned (.int .i64 r) ∧ decide (0 ≤ r) = b ∧ w = w'

set_option maxHeartbeats 400000 in
theorem isVal_any (v : Int) (w : World) : Calls Tryd.prog 73 #[.int .i64 v] w (SameB w (badVal v)) := by
  go_enter Tryd.func73, Tryd.ntmps73
  go_wp2
  all_goals go_ret
  all_goals exact ⟨ret_bool (by rw [Bool.eq_iff_iff]; simp [badVal, valB]; try omega), rfl⟩

set_option maxHeartbeats 400000 in
theorem isIn_any (v : Int) (bx nb cb : Nat) (Ab : Option Addr) (w : World) (hc : w.cell? ⟨bx, 1, none⟩ = some (.slice Ab nb cb)) :
    Calls Tryd.prog 53 #[.int .i64 v, .pointer (some ⟨bx, 0, none⟩)] w (SameB w (badIn nb v)) := by
  go_enter Tryd.func53, Tryd.ntmps53
  go_wp2
  all_goals go_ret
  all_goals exact ⟨ret_bool (by rw [Bool.eq_iff_iff]; simp [badIn]; try omega), rfl⟩


set_option maxHeartbeats 800000 in
theorem idxVal_any (A : Option Addr) (n c : Nat) (l : List Int) (w : World) (hr : Rds w w.heap.size 1 A n (intCells l)) :
    Calls Tryd.prog 71 #[.slice A n c, .func (.func 73) #[] #[]] w (SomeIdx w (l.any (badVal))) := by
  have hl := hr.int_len
  have hm := hr.2.1
  subst hl
  go_enter Tryd.func71, Tryd.ntmps71
  go_wp2
  go_loop [8] (fun i => ∃ (k : Nat), k ≤ l.length ∧ i = .int .i64 k ∧ (l.any (badVal)) = ((l.drop k).any (badVal))) (fun i => l.length - (intOf i).toNat)
  case atStart => exact ⟨0, Nat.zero_le _, rfl, rfl⟩
  case round =>
    obtain ⟨k, hk, rfl, hg⟩ := hrel
    have HG := hide hg
    clear hg
    by_cases hlt : k < l.length
    · obtain ⟨b, o, rfl, hbl, c0⟩ := hr.int hlt
      have HD := hide (drop_cons hlt)
      generalize l[k] = x at c0 HD
      by_cases hx : badVal x = true
      · go_wp2_with (go_at_call 73; refine (isVal_any _ _).mono ?_; rintro e w' ⟨rfl, rfl⟩)
        go_ret
        have HX := hide hx
        clear hx
        exact ⟨_, rfl, by rw [HG.out, HD.out, List.any_cons, HX.out]; simp, rfl⟩
      · simp only [Bool.not_eq_true] at hx
        go_wp2_with (go_at_call 73; refine (isVal_any _ _).mono ?_; rintro e w' ⟨rfl, rfl⟩)
        go_round
        case rel =>
          have HX := hide hx
          clear hx
          exact ⟨k + 1, by omega, by go_num, by rw [HG.out, HD.out, List.any_cons, HX.out]; simp⟩
        case measure => simp [intOf]; omega
    · obtain rfl : k = l.length := by omega
      go_wp2
      go_ret
      exact ⟨_, rfl, by rw [HG.out]; simp, rfl⟩

set_option maxHeartbeats 400000 in
theorem anyVal_any (A : Option Addr) (n c : Nat) (l : List Int) (w : World) (hr : Rds w w.heap.size 1 A n (intCells l)) :
    Calls Tryd.prog 54 #[.slice A n c, .func (.func 73) #[] #[]] w (SameB w (l.any (badVal))) := by
  go_enter Tryd.func54, Tryd.ntmps54
  go_wp2_with (go_at_call 71; refine (idxVal_any A n c l w hr).mono ?_; rintro e w' ⟨r, rfl, hr, rfl⟩; have HR := hide hr; clear hr)
  go_ret
  exact ⟨ret_bool HR.out, rfl⟩


set_option maxHeartbeats 800000 in
theorem idxIn_any (A : Option Addr) (n c : Nat) (l : List Int) (bx nb cb : Nat) (Ab : Option Addr) (w : World) (hr : Rds w w.heap.size 1 A n (intCells l)) (hc : w.cell? ⟨bx, 1, none⟩ = some (.slice Ab nb cb)) :
    Calls Tryd.prog 71 #[.slice A n c, .func (.func 53) #[] #[.pointer (some ⟨bx, 0, none⟩)]] w (SomeIdx w (l.any (badIn nb))) := by
  have hl := hr.int_len
  have hm := hr.2.1
  subst hl
  go_enter Tryd.func71, Tryd.ntmps71
  go_wp2
  go_loop [8] (fun i => ∃ (k : Nat), k ≤ l.length ∧ i = .int .i64 k ∧ (l.any (badIn nb)) = ((l.drop k).any (badIn nb))) (fun i => l.length - (intOf i).toNat)
  case atStart => exact ⟨0, Nat.zero_le _, rfl, rfl⟩
  case round =>
    obtain ⟨k, hk, rfl, hg⟩ := hrel
    have HG := hide hg
    clear hg
    by_cases hlt : k < l.length
    · obtain ⟨b, o, rfl, hbl, c0⟩ := hr.int hlt
      have HD := hide (drop_cons hlt)
      generalize l[k] = x at c0 HD
      by_cases hx : badIn nb x = true
      · go_wp2_with (go_at_call 53; refine (isIn_any _ bx nb cb Ab _ hc).mono ?_; rintro e w' ⟨rfl, rfl⟩)
        go_ret
        have HX := hide hx
        clear hx
        exact ⟨_, rfl, by rw [HG.out, HD.out, List.any_cons, HX.out]; simp, rfl⟩
      · simp only [Bool.not_eq_true] at hx
        go_wp2_with (go_at_call 53; refine (isIn_any _ bx nb cb Ab _ hc).mono ?_; rintro e w' ⟨rfl, rfl⟩)
        go_round
        case rel =>
          have HX := hide hx
          clear hx
          exact ⟨k + 1, by omega, by go_num, by rw [HG.out, HD.out, List.any_cons, HX.out]; simp⟩
        case measure => simp [intOf]; omega
    · obtain rfl : k = l.length := by omega
      go_wp2
      go_ret
      exact ⟨_, rfl, by rw [HG.out]; simp, rfl⟩

set_option maxHeartbeats 400000 in
theorem anyIn_any (A : Option Addr) (n c : Nat) (l : List Int) (bx nb cb : Nat) (Ab : Option Addr) (w : World) (hr : Rds w w.heap.size 1 A n (intCells l)) (hc : w.cell? ⟨bx, 1, none⟩ = some (.slice Ab nb cb)) :
    Calls Tryd.prog 54 #[.slice A n c, .func (.func 53) #[] #[.pointer (some ⟨bx, 0, none⟩)]] w (SameB w (l.any (badIn nb))) := by
  go_enter Tryd.func54, Tryd.ntmps54
  go_wp2_with (go_at_call 71; refine (idxIn_any A n c l bx nb cb Ab w hr hc).mono ?_; rintro e w' ⟨r, rfl, hr, rfl⟩; have HR := hide hr; clear hr)
  go_ret
  exact ⟨ret_bool HR.out, rfl⟩


set_option maxHeartbeats 400000 in
theorem isBlock_any (A : Option Addr) (n c : Nat) (l : List Int) (w : World) (hr : Rds w w.heap.size 1 A n (intCells l)) :
    Calls Tryd.prog 57 #[.slice A n c] w (SameB w (blockB l)) := by
  have hl := hr.int_len
  have hm := hr.2.1
  have hall : (l.all valB) = !(l.any badVal) := by rw [List.all_eq_not_any_not]; rfl
  by_cases h : n = 256
  · have h1 : ((n : Int) == 256) = true := by simp; omega
    have HB := hide (show blockB l = !(l.any badVal) by unfold blockB; rw [hall]; simp; intro; omega)
    clear h hl hall
    go_enter Tryd.func57, Tryd.ntmps57
    go_wp2_with (go_at_call 54; refine (anyVal_any _ _ _ l _ hr).mono ?_; rintro e w' ⟨rfl, rfl⟩)
    go_ret
    exact ⟨ret_bool (by rw [HB.out]), rfl⟩
  · have h1 : ((n : Int) == 256) = false := by simp; omega
    have HB := hide (show blockB l = false by unfold blockB; simp; intro; omega)
    clear h hl hall
    go_enter Tryd.func57, Tryd.ntmps57
    go_wp2
    go_ret
    exact ⟨ret_bool HB.out.symm, rfl⟩

set_option maxHeartbeats 400000 in
theorem isOther_any (A : Option Addr) (n c : Nat) (l : List Int) (w : World) (hr : Rds w w.heap.size 1 A n (intCells l)) :
    Calls Tryd.prog 56 #[.slice A n c] w (SameB w (badBlock l)) := by
  go_enter Tryd.func56, Tryd.ntmps56
  go_wp2_with (go_at_call 57; refine (isBlock_any _ _ _ l _ hr).mono ?_; rintro e w' ⟨rfl, rfl⟩)
  go_ret
  exact ⟨rfl, rfl⟩

set_option maxHeartbeats 800000 in
theorem idxBlock_any (A : Option Addr) (n c : Nat) (l : List (List Int)) (w : World) (hr : Rows w w.heap.size A n l) :
    Calls Tryd.prog 72 #[.slice A n c, .func (.func 56) #[] #[]] w (SomeIdx w (l.any badBlock)) := by
  have hl := hr.len
  have hm := hr.max
  subst hl
  go_enter Tryd.func72, Tryd.ntmps72
  go_wp2
  go_loop [8] (fun i => ∃ (k : Nat), k ≤ l.length ∧ i = .int .i64 k ∧ (l.any badBlock) = ((l.drop k).any badBlock)) (fun i => l.length - (intOf i).toNat)
  case atStart => exact ⟨0, Nat.zero_le _, rfl, rfl⟩
  case round =>
    obtain ⟨k, hk, rfl, hg⟩ := hrel
    have HG := hide hg
    clear hg
    by_cases hlt : k < l.length
    · obtain ⟨b, o, A', n', c', rfl, hbl, c0, hrow⟩ := hr.row hlt
      have HD := hide (drop_cons hlt)
      generalize l[k] = x at hrow HD
      by_cases hx : badBlock x = true
      · go_wp2_with (go_at_call 56; refine (isOther_any _ _ _ x _ hrow).mono ?_; rintro e w' ⟨rfl, rfl⟩)
        go_ret
        have HX := hide hx
        clear hx
        exact ⟨_, rfl, by rw [HG.out, HD.out, List.any_cons, HX.out]; simp, rfl⟩
      · simp only [Bool.not_eq_true] at hx
        go_wp2_with (go_at_call 56; refine (isOther_any _ _ _ x _ hrow).mono ?_; rintro e w' ⟨rfl, rfl⟩)
        go_round
        case rel =>
          have HX := hide hx
          clear hx
          exact ⟨k + 1, by omega, by go_num, by rw [HG.out, HD.out, List.any_cons, HX.out]; simp⟩
        case measure => simp [intOf]; omega
    · obtain rfl : k = l.length := by omega
      go_wp2
      go_ret
      exact ⟨_, rfl, by rw [HG.out]; simp, rfl⟩

set_option maxHeartbeats 400000 in
theorem anyBlock_any (A : Option Addr) (n c : Nat) (l : List (List Int)) (w : World) (hr : Rows w w.heap.size A n l) :
    Calls Tryd.prog 55 #[.slice A n c, .func (.func 56) #[] #[]] w (SameB w (l.any badBlock)) := by
  go_enter Tryd.func55, Tryd.ntmps55
  go_wp2_with (go_at_call 72; refine (idxBlock_any A n c l w hr).mono ?_; rintro e w' ⟨r, rfl, hr, rfl⟩; have HR := hide hr; clear hr)
  go_ret
  exact ⟨ret_bool HR.out, rfl⟩

theorem right_eq (T : Tr) : T.rightB = (decide (T.ix.length = 4352) && !(T.ix.any (badIn T.bl.length)) && !(T.bl.any badBlock)) := by
  have h1 : (T.ix.all fun n => decide (0 ≤ n) && decide (n < (T.bl.length : Int))) = !(T.ix.any (badIn T.bl.length)) := by
    rw [List.all_eq_not_any_not]; rfl
  have h2 : T.bl.all blockB = !(T.bl.any badBlock) := by rw [List.all_eq_not_any_not]; rfl
  unfold Tr.rightB
  rw [h1, h2]

set_option maxHeartbeats 800000 in
theorem trieRight_any (A A' : Option Addr) (n c n' c' : Nat) (T : Tr) (w : World) (ht : TrAt w w.heap.size A n A' n' T) :
    Calls Tryd.prog 25 #[.agg #[.slice A n c, .slice A' n' c']] w fun e w' => e = .returned (.bool T.rightB) ∧ Below w.heap.size w w' := by
  obtain rfl := ht.ix.int_len
  obtain rfl := ht.bl.len
  have hR := hide (right_eq T)
  have hW := ht.alloc (Nat.le_refl _) (.cells #[.slice A T.ix.length c, .slice A' T.bl.length c'] 27)
  have hb0 : Below w.heap.size w (w.alloc (.cells #[.slice A T.ix.length c, .slice A' T.bl.length c'] 27)) := (Below.refl _ _).alloc (Nat.le_refl _) _
  have hc := cell_new w #[.slice A T.ix.length c, .slice A' T.bl.length c'] 27 1
  have hm := ht.ix.2.1
  by_cases h : T.ix.length = 4352
  · have h1 : ((T.ix.length : Int) == 4352) = true := by simp; omega
    have hd : decide (T.ix.length = 4352) = true := by simp; omega
    have HD := hide hd
    have HC := hide hc
    clear h hd hc
    by_cases hb : T.ix.any (badIn T.bl.length) = true
    · have HR := hide (show T.rightB = false by rw [hR.out, hb]; simp)
      go_enter Tryd.func25, Tryd.ntmps25
      go_wp2_with (go_at_call 54; refine (anyIn_any _ _ _ T.ix w.heap.size T.bl.length c' A' _ hW.ix HC.out).mono ?_; rintro e w' ⟨rfl, rfl⟩)
      go_ret
      exact ⟨ret_bool HR.out.symm, hb0⟩
    · simp only [Bool.not_eq_true] at hb
      have HR := hide (show T.rightB = !(T.bl.any badBlock) by rw [hR.out, hb, HD.out]; simp)
      go_enter Tryd.func25, Tryd.ntmps25
      go_wp2_with (first | (go_at_call 54; refine (anyIn_any _ _ _ T.ix w.heap.size T.bl.length c' A' _ hW.ix HC.out).mono ?_; rintro e w' ⟨rfl, rfl⟩) | (go_at_call 55; refine (anyBlock_any _ _ _ T.bl _ hW.bl).mono ?_; rintro e w' ⟨rfl, rfl⟩))
      go_ret
      exact ⟨ret_bool HR.out.symm, hb0⟩
  · have h1 : ((T.ix.length : Int) == 4352) = false := by simp; omega
    have hd : T.rightB = false := by rw [hR.out]; simp [h]
    have HD := hide hd
    clear h hd hc
    go_enter Tryd.func25, Tryd.ntmps25
    go_wp2
    go_ret
    exact ⟨ret_bool HD.out.symm, hb0⟩


end Go.Proofs.YtibndkkbmgbogaaDoor
