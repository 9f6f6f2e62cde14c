/- What a trie says of a number: the program's trie.Value. Conditions: the trie's slices read as lists. -/
import Derived.Test.YtibndkkbmgbogaaDoorProg
import Derived.Test.YtibndkkbmgbogaaDoorBase
import Derived.Test.YtibndkkbmgbogaaDoorRight
import Derived.BigQuiet
import Derived.Deep.QuietTactic
namespace Go.Proofs.YtibndkkbmgbogaaDoor
open Go Go.RowKit

def Tr.at_ (T : Tr) (m : Nat) : Int := (T.bl.getD (T.ix.getD (m / 256) 0).toNat []).getD (m % 256) 0
def Tr.value (T : Tr) (r : Int) : Int := if 0 ≤ r ∧ r ≤ 1114111 ∧ T.rightB = true then T.at_ r.toNat else 0

theorem Tr.right_ix {T : Tr} (h : T.rightB = true) : T.ix.length = 4352 ∧ ∀ i (hi : i < T.ix.length), ∃ n : Nat, T.ix[i] = (n : Int) ∧ n < T.bl.length := by
  unfold Tr.rightB at h
  simp only [Bool.and_eq_true, decide_eq_true_eq, List.all_eq_true] at h
  refine ⟨h.1.1, fun i hi => ?_⟩
  obtain ⟨h0, h1⟩ := h.1.2 _ (List.getElem_mem hi)
  exact ⟨T.ix[i].toNat, by omega, by omega⟩
theorem Tr.right_bl {T : Tr} (h : T.rightB = true) (i : Nat) (hi : i < T.bl.length) : T.bl[i].length = 256 ∧ ∀ k (hk : k < T.bl[i].length), 0 ≤ T.bl[i][k] ∧ T.bl[i][k] ≤ 31 := by
  unfold Tr.rightB at h
  simp only [Bool.and_eq_true, decide_eq_true_eq, List.all_eq_true] at h
  have hb := h.2 _ (List.getElem_mem hi)
  unfold blockB at hb
  simp only [Bool.and_eq_true, decide_eq_true_eq, List.all_eq_true] at hb
  refine ⟨hb.1, fun k hk => ?_⟩
  have := hb.2 _ (List.getElem_mem hk)
  simpa [valB] using this

set_option maxHeartbeats 800000 in
theorem trieValue_any (A A' : Option Addr) (n c n' c' : Nat) (T : Tr) (r : Int) (w : World) (ht : TrAt w w.heap.size A n A' n' T) :
    Calls Tryd.prog 17 #[.agg #[.slice A n c, .slice A' n' c'], .int .i64 r] w fun e w' => e = .returned (.int .i64 (T.value r)) ∧ Below w.heap.size w w' := by
  have hW := ht.alloc (Nat.le_refl _) (.cells #[.slice A n c, .slice A' n' c'] 27)
  have hb0 : Below w.heap.size w (w.alloc (.cells #[.slice A n c, .slice A' n' c'] 27)) := (Below.refl _ _).alloc (Nat.le_refl _) _
  by_cases h0 : r < 0
  · have hv := hide (show T.value r = 0 by unfold Tr.value; rw [if_neg (by omega)])
    go_enter Tryd.func17, Tryd.ntmps17
    go_wp2
    go_ret
    exact ⟨ret_i64 hv.out.symm, hb0⟩
  · by_cases h1 : 1114111 < r
    · have hv := hide (show T.value r = 0 by unfold Tr.value; rw [if_neg (by omega)])
      go_enter Tryd.func17, Tryd.ntmps17
      go_wp2
      go_ret
      exact ⟨ret_i64 hv.out.symm, hb0⟩
    · cases hR : T.rightB
      · have hv := hide (show T.value r = 0 by unfold Tr.value; rw [if_neg (by simp [hR])])
        go_enter Tryd.func17, Tryd.ntmps17
        go_wp2_with (go_at_call 25; refine (trieRight_any _ _ _ _ _ _ T _ hW).mono ?_; rintro e w' ⟨rfl, hb1⟩)
        go_ret
        exact ⟨ret_i64 hv.out.symm, hb0.trans (hb1.mono (by simp))⟩
      · obtain ⟨m, rfl⟩ := Int.eq_ofNat_of_zero_le (by omega : 0 ≤ r)
        obtain ⟨hl, hi⟩ := Tr.right_ix hR
        obtain ⟨k, hk, hkl⟩ := hi (m / 256) (by omega)
        obtain ⟨hl2, _⟩ := Tr.right_bl hR k hkl
        obtain ⟨b, o, rfl, hbl, c0⟩ := ht.ix.int (k := m / 256) (by omega)
        obtain ⟨b', o', A2, n2, c2, rfl, hbl', c1, hrow⟩ := ht.bl.row hkl
        have hlen := hrow.int_len
        obtain ⟨b2, o2, rfl, hbl2, c3⟩ := hrow.int (k := m % 256) (by omega)
        have hv := hide (show T.value (m : Int) = T.bl[k][m % 256] by
          unfold Tr.value Tr.at_
          rw [if_pos ⟨by omega, by omega, hR⟩, Int.toNat_natCast, getD_get (by omega : m / 256 < T.ix.length), hk, Int.toNat_natCast, getD_get hkl, getD_get (by omega)])
        rw [hk] at c0
        generalize T.bl[k][m % 256] = v at c3 hv
        obtain rfl := ht.ix.int_len
        obtain rfl := ht.bl.len
        have hr : T.ix.length = 4352 := hl
        have hn2 : n2 = 256 := by omega
        have hle1 : m / 256 < T.ix.length := by omega
        have hle2 : m % 256 < n2 := by omega
        clear hl hi hk hl2 hlen hr hn2
        go_enter Tryd.func17, Tryd.ntmps17
        go_wp2_with (go_at_call 25; refine (trieRight_any _ _ _ _ _ _ T _ hW).mono ?_; rintro e w1 ⟨rfl, hb1⟩; obtain ⟨hc1, hf1⟩ := bcell hb1)
        go_quiet (fail)
        go_wp2
        go_ret
        exact ⟨ret_i64 hv.out.symm, below_drewN (hb0.trans (hb1.mono (by simp))) _⟩

end Go.Proofs.YtibndkkbmgbogaaDoor
