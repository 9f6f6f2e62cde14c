/- The reference's Classes: it answers as the program's. Conditions: none. -/
import Derived.Test.YtigkphjgidbppaaDoorRef
import Derived.Laws.AppendOwn
namespace Go.Proofs.YtigkphjgidbppaaDoor
open Go Go.RowKit

/-- the classes below j -/
def clsTo (set : Int) (j : Nat) : List Int := ((List.range j).filter fun c => hasB set (c : Nat)).map fun c => ((c : Nat) : Int)
theorem clsTo_32 (set : Int) : clsTo set 32 = classesB set := rfl
theorem clsTo_step (set : Int) (j : Nat) : clsTo set (j + 1) = clsTo set j ++ (if hasB set j then [(j : Int)] else []) := by
  unfold clsTo
  rw [List.range_succ, List.filter_append, List.map_append, List.filter_cons, List.filter_nil]
  split <;> rfl
theorem clsTo_len (set : Int) (j : Nat) : (clsTo set j).length ≤ j := by
  unfold clsTo
  rw [List.length_map]
  have := List.length_filter_le (fun c => hasB set (c : Nat)) (List.range j)
  simpa using this

set_option maxRecDepth 100000 in
set_option maxHeartbeats 2000000 in
theorem refClasses_any (set : Int) (w : World) : Calls Tryd.prog 20 #[.int .i64 set] w (OutI w (classesB set)) := by
  obtain ⟨i0, hi, hz0, hz1, hz2⟩ := info_parts info3
  go_enter Tryd.func20, Tryd.ntmps20
  go_wp2_with fail
  go_loopw [3, 4] (fun s i wr => ∃ (j : Nat) (vs : Value), j ≤ 32 ∧ i = .int .i64 (j : Int) ∧ s = vs ∧ wr.ownsRow w.heap.size 3 1 vs (clsTo set j).length (intCells (clsTo set j)) ∧ Below w.heap.size w wr) (fun _ i _ => 32 - (intOf i).toNat)
  case atStart => exact ⟨0, _, Nat.zero_le _, rfl, rfl, World.ownsRow_nil _ _ _ _, Below.refl _ _⟩
  case round =>
    obtain ⟨j, vs, hj, rfl, rfl, hrow, hb⟩ := hrel
    by_cases hlt : j < 32
    · have hlt' : (j : Int) < 32 := by omega
      have hhas := refHas_any set (j : Int) wr
      have HST := hide (clsTo_step set j)
      have hln := clsTo_len set j
      have HROW := hide (hrow.alloc (.cells #[.int .i64 (j : Int)] 3))
      have HROW0 := hide hrow
      clear hrow
      generalize clsTo set j = L at *
      cases hh : hasB set (j : Int) with
      | true =>
        rw [hh] at hhas
        have HS := hide (show clsTo set (j + 1) = L ++ [(j : Int)] by rw [HST.out, hh]; rfl)
        have HH := hide hhas
        have CN := hide (cell_one_new wr (.int .i64 (j : Int)) 3)
        clear hh hhas HST HROW0
        go_wp2_with fail
        refine HH.out.mono ?_
        rintro e _ ⟨rfl, rfl⟩
        go_wp2_with (at_builtin; (refine wpList_append_own _ rfl (.tmp 12) (.tmp 14) 25 rfl w.heap.size 3 i0 (.int .i64 0) 1 8 Tryd.underlying25 hi hz0 hz1 hz2 rfl (by decide) _ L.length (intCells L) rfl HROW.out ⟨wr.heap.size, 0, none⟩ 1 1 [.int .i64 (j : Int)] rfl rfl CN.out (by simp [Value.oneCell']) (by unfold maxLen; omega) (by omega) (by have := hb.size; simp; omega) ?_); intro v' w1 hown1 hgrow1 _; have HO := hide hown1; have HG := hide hgrow1; clear hown1 hgrow1)
        go_roundw
        case rel =>
          refine ⟨j + 1, _, by omega, by simp, rfl, ?_, ?_⟩
          · rw [HS.out, List.length_append]
            simpa [intCells] using HO.out
          · exact (hb.alloc hb.size _).grown HG.out (by have := hb.size; simp; omega) (fun k e => (HROW.out.lt k e).1)
        case measure => simp [intOf]; omega
      | false =>
        rw [hh] at hhas
        have HS := hide (show clsTo set (j + 1) = L by rw [HST.out, hh]; simp)
        have HH := hide hhas
        clear hh hhas HST HROW
        go_wp2_with fail
        refine HH.out.mono ?_
        rintro e _ ⟨rfl, rfl⟩
        go_wp2_with fail
        go_roundw
        case rel => exact ⟨j + 1, _, by omega, by simp, rfl, by rw [HS.out]; exact HROW0.out, hb⟩
        case measure => simp [intOf]; omega
    · obtain rfl : j = 32 := by omega
      rw [clsTo_32] at hrow
      have hln := cls_len set
      generalize classesB set = L at *
      have HROW := hide hrow
      clear hrow
      go_wp2_with fail
      go_ret
      obtain ⟨A', c', e1, e2, e3⟩ := own_rds HROW.out (Nat.le_refl _) (by omega)
      exact ⟨A', c', by rw [e1]; rfl, e2, e3, hb⟩
end Go.Proofs.YtigkphjgidbppaaDoor
