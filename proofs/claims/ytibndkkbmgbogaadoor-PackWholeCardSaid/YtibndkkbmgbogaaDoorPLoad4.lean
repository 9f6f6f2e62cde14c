/- The program's pack.Load, whole. Conditions: as in PLoad3. -/
import Derived.Test.YtibndkkbmgbogaaDoorPLoad3
namespace Go.Proofs.YtibndkkbmgbogaaDoor
open Go Go.RowKit

set_option maxRecDepth 100000 in
set_option maxHeartbeats 1000000 in
theorem packLoad_short (s : ByteArray) (B : Nat) (z : Value) (w : World) (hE : PEnv w B z) (hB : B ≤ w.heap.size) (h7 : s.size < 7) : Calls Tryd.prog 33 #[.string s] w (Out w ⟨[], []⟩ 60) := by
  have hb1 : Below w.heap.size w (w.alloc (.cells #[.slice none 0 0, .slice none 0 0] 27)) := (Below.refl _ _).alloc (Nat.le_refl _) _
  have E1 := hE.below (hb1.mono hB)
  have hPP := E1.hP
  have hP0 := hE.hP
  have hTT := hide E1.hT
  have k1 := Blk.new w 27 #[.slice none 0 0, .slice none 0 0]
  have hgl : 2 < w.heap.size := by have := hE.lt.2; omega
  have h7' : (s.size : Int) < 7 := by omega
  go_enter Tryd.func33, Tryd.ntmps33
  go_wp2_with fail
  refine (told_any 60 _ _ _ hTT.out).mono ?_
  rintro e W9 ⟨rfl, hb9⟩
  have k9 := k1.below hb9 (by simp)
  have hbw9 := hb1.trans (hb9.mono (by simp))
  have d0 := k9.cell 0
  have d1 := k9.cell 1
  have f0 := k9.frozen 0
  have f1 := k9.frozen 1
  have lb := k9.lt
  simp only [List.getElem?_toArray, List.getElem?_cons_zero, List.getElem?_cons_succ] at d0 d1
  go_wp2
  have kE := (k9.set_ 0 (.slice none 0 0)).set_ 1 (.slice none 0 0)
  refine bodyPost_ret (results_cell_row_tmp rfl _ _ w.heap.size 27 _ _ _ rfl kE Tryd.underlying27 rfl (by kernel_rfl)) rfl ?_
  exact ⟨none, 0, 0, none, 0, 0, rfl, ⟨⟨rfl, by omega, fun h => by omega⟩, ⟨[], ⟨rfl, by omega, fun h => by omega⟩, rfl, fun i h => by cases h⟩⟩, Nat.le_refl _, Nat.le_refl _,
    hbw9.trans (((Below.refl _ W9).grown (grownBy_setCell W9 w.heap.size 0 _) hbw9.size (fun k e => by cases e; exact Nat.le_refl _)).grown (grownBy_setCell _ w.heap.size 1 _) (by simp; exact hbw9.size) (fun k e => by cases e; exact Nat.le_refl _))⟩

set_option maxRecDepth 100000 in
set_option maxHeartbeats 1000000 in
theorem packLoad_mark (s : ByteArray) (B : Nat) (z : Value) (w : World) (hE : PEnv w B z) (hB : B ≤ w.heap.size) (h7 : 7 ≤ s.size) (hm : ¬ s.extract 0 3 = ⟨#[86, 84, 49]⟩) : Calls Tryd.prog 33 #[.string s] w (Out w ⟨[], []⟩ 60) := by
  have hb1 : Below w.heap.size w (w.alloc (.cells #[.slice none 0 0, .slice none 0 0] 27)) := (Below.refl _ _).alloc (Nat.le_refl _) _
  have E1 := hE.below (hb1.mono hB)
  have hPP := E1.hP
  have hP0 := hE.hP
  have hTT := hide E1.hT
  have k1 := Blk.new w 27 #[.slice none 0 0, .slice none 0 0]
  have hgl : 2 < w.heap.size := by have := hE.lt.2; omega
  have h7' : (7 : Int) ≤ (s.size : Int) := by omega
  have h3 : (3 : Int) ≤ (s.size : Int) := by omega
  have hml : ((s.extract 0 3).toList == [86, 84, 49]) = false := by
    rw [beq_eq_false_iff_ne]
    intro e
    rw [ByteArray.toList_eq] at e
    exact hm (ByteArray.ext (Array.toList_inj.1 e))
  go_enter Tryd.func33, Tryd.ntmps33
  go_wp2_with fail
  refine (told_any 60 _ _ _ hTT.out).mono ?_
  rintro e W9 ⟨rfl, hb9⟩
  have k9 := k1.below hb9 (by simp)
  have hbw9 := hb1.trans (hb9.mono (by simp))
  have d0 := k9.cell 0
  have d1 := k9.cell 1
  have f0 := k9.frozen 0
  have f1 := k9.frozen 1
  have lb := k9.lt
  simp only [List.getElem?_toArray, List.getElem?_cons_zero, List.getElem?_cons_succ] at d0 d1
  go_wp2
  have kE := (k9.set_ 0 (.slice none 0 0)).set_ 1 (.slice none 0 0)
  refine bodyPost_ret (results_cell_row_tmp rfl _ _ w.heap.size 27 _ _ _ rfl kE Tryd.underlying27 rfl (by kernel_rfl)) rfl ?_
  exact ⟨none, 0, 0, none, 0, 0, rfl, ⟨⟨rfl, by omega, fun h => by omega⟩, ⟨[], ⟨rfl, by omega, fun h => by omega⟩, rfl, fun i h => by cases h⟩⟩, Nat.le_refl _, Nat.le_refl _,
    hbw9.trans (((Below.refl _ W9).grown (grownBy_setCell W9 w.heap.size 0 _) hbw9.size (fun k e => by cases e; exact Nat.le_refl _)).grown (grownBy_setCell _ w.heap.size 1 _) (by simp; exact hbw9.size) (fun k e => by cases e; exact Nat.le_refl _))⟩

theorem packLoad_any (s : ByteArray) (B : Nat) (z : Value) (w : World) (hE : PEnv w B z) (hB : B ≤ w.heap.size) (hs : s.size ≤ 1000000) : Calls Tryd.prog 33 #[.string s] w (Out w (loadB s).1 (loadB s).2) := by
  by_cases h7 : s.size < 7
  · have e : loadB s = noTr 60 := by unfold loadB; rw [if_pos (.inl h7)]
    rw [e]
    exact packLoad_short s B z w hE hB h7
  · by_cases hm : s.extract 0 3 = ⟨#[86, 84, 49]⟩
    · exact packLoad_good s B z w hE hB hs (by omega) hm
    · have e : loadB s = noTr 60 := by unfold loadB; rw [if_pos (.inr hm)]
      rw [e]
      exact packLoad_mark s B z w hE hB (by omega) hm
end Go.Proofs.YtibndkkbmgbogaaDoor
