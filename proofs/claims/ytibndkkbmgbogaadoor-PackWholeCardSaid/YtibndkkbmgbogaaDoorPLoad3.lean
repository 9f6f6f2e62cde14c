/- The program's pack.Load. Conditions: the packages' variables hold what they hold; the text is no longer than a million bytes. -/
import Derived.BigQuiet
import Derived.BigRegion
import Derived.Deep.QuietTactic
import Derived.Maps.RangeRun
import Derived.ChangeMaps4
import Derived.WideMake
import Derived.Test.YtibndkkbmgbogaaDoorProg
import Derived.Test.YtibndkkbmgbogaaDoorPLoad2
import Derived.Test.YtibndkkbmgbogaaDoorPPack
import Derived.Test.YtibndkkbmgbogaaDoorPSum
import Derived.Outline
import Derived.Test.YtibndkkbmgbogaaDoorRefB
namespace Go.Proofs.YtibndkkbmgbogaaDoor
open Go Go.RowKit

theorem below_setb (W : World) (b : Nat) (o : Obj) : Below b W { W with heap := W.heap.setIfInBounds b o } := ⟨rfl, rfl, rfl, by simp, fun k hk => by simp [Array.getElem?_setIfInBounds_ne (Nat.ne_of_gt hk)]⟩
def entB (key : ByteArray) (v : Int) : MapEntry := { key := .string key, val := .int .i64 v, born := 0 }
theorem next_first (W : World) (r bm : Nat) (ty : TypeId) (e : MapEntry) (he : e.born = 0) (hr : W.heap[r]? = some (.mapIter (some bm) 1 #[] 1)) (hb : W.heap[bm]? = some (.map #[e] 1)) :
    (Instr.next (.pointer (some ⟨r, 0, none⟩)) false ty).run Tryd.prog W = .ok (.tuple #[.bool true, e.key, e.val]) { W with heap := W.heap.setIfInBounds r (.mapIter (some bm) 1 #[0] 1) } := by
  simp only [Instr.next, getObj, Sem.run_bind, Sem.run, hr, hb, Result.andThen]
  simp [he, choose, Sem.run, Question.forced, setObj, hr, Result.andThen]
theorem next_last (W : World) (r bm : Nat) (ty : TypeId) (e : MapEntry) (he : e.born = 0) (hr : W.heap[r]? = some (.mapIter (some bm) 1 #[0] 1)) (hb : W.heap[bm]? = some (.map #[e] 1)) :
    (Instr.next (.pointer (some ⟨r, 0, none⟩)) false ty).run Tryd.prog W = .ok (.tuple #[.bool false]) W := by
  simp only [Instr.next, getObj, Sem.run_bind, Sem.run, hr, hb, Result.andThen]
  simp [he, choose, Sem.run, Question.forced, Result.andThen]

def noTr (k : Int) : Tr × Int := (⟨[], []⟩, k)
/-- what Load answers -/
def loadB (s : ByteArray) : Tr × Int :=
  if s.size < 7 ∨ ¬ s.extract 0 3 = ⟨#[86, 84, 49]⟩ then noTr 60
  else if (sumB (s.extract 0 (s.size - 2)).data.toList % 65536 : Nat) ≠ (s.data.getD (s.size - 2) 0).toNat * 256 + (s.data.getD (s.size - 1) 0).toNat then noTr 61
  else match rLoad ((s.extract 3 (s.size - 2)).data.toList, false) with
    | none => noTr 60
    | some T => (T, 0)
theorem load_def (s : ByteArray) (h7 : 7 ≤ s.size) (hm : s.extract 0 3 = ⟨#[86, 84, 49]⟩) : loadB s =
    if (sumB (s.extract 0 (s.size - 2)).data.toList % 65536 : Nat) ≠ (s.data.getD (s.size - 2) 0).toNat * 256 + (s.data.getD (s.size - 1) 0).toNat then noTr 61
    else match rLoad ((s.extract 3 (s.size - 2)).data.toList, false) with
      | none => noTr 60
      | some T => (T, 0) := by
  unfold loadB
  rw [if_neg]
  intro h
  rcases h with h | h
  · omega
  · exact h hm

set_option maxRecDepth 100000 in
set_option maxHeartbeats 1000000 in
theorem packLoad_good (s : ByteArray) (B : Nat) (z : Value) (w : World) (hE : PEnv w B z) (hB : B ≤ w.heap.size) (hs : s.size ≤ 1000000) (h7 : 7 ≤ s.size) (hm : s.extract 0 3 = ⟨#[86, 84, 49]⟩) : Calls Tryd.prog 33 #[.string s] w (Out w (loadB s).1 (loadB s).2) := by
  have HLB := hide (load_def s h7 hm)
  have hmm := @run_makeMap Tryd.prog
  obtain ⟨k, hk⟩ : ∃ k, k = s.size - 2 := ⟨_, rfl⟩
  obtain ⟨k1, hk1⟩ : ∃ k1, k1 = s.size - 1 := ⟨_, rfl⟩
  have h2 : k < s.size := by omega
  have h1 : k1 < s.size := by omega
  have b1 : (s.size : Int) - 2 = (k : Int) := by omega
  have b2 : (s.size : Int) - 1 = (k1 : Int) := by omega
  have b3 : (k : Int) ≤ (s.size : Int) := by omega
  have b4 : (k : Int) < (s.size : Int) := by omega
  have b5 : (k1 : Int) < (s.size : Int) := by omega
  have hx := (s[k]'h2).toNat_lt
  have hy := (s[k1]'h1).toNat_lt
  have HK := hide hk
  have HK1 := hide hk1
  clear hk hk1
  go_enter Tryd.func33, Tryd.ntmps33
  go_wp2_with fail
  obtain ⟨w1, hw1⟩ : ∃ w1 : World, w1 = w.alloc (.cells #[.slice none 0 0, .slice none 0 0] 27) := ⟨_, rfl⟩
  rw [← hw1]
  have hins := run_mapUpdate_first (P := Tryd.prog) ((w1.alloc (.map #[] 0)).drew) 85 9 3 w1.heap.size 0 (s.extract 0 k) (.int .i64 (((s[k]'h2).toNat : Int) * 256 + ((s[k1]'h1).toNat : Int))) Tryd.underlying85 Tryd.underlying9 (heap_alloc_new w1 _)
  have hbw : Below w.heap.size w w1 := by rw [hw1]; exact (Below.refl _ _).alloc (Nat.le_refl _) _
  have kw : Blk w1 w.heap.size 27 #[.slice none 0 0, .slice none 0 0] := by rw [hw1]; exact Blk.new _ _ _
  clear hw1
  go_region
  generalize hv : ((s[k]'h2).toNat : Int) * 256 + ((s[k1]'h1).toNat : Int) = val at *
  generalize hkey : s.extract 0 k = key at *
  obtain ⟨W3, hW3⟩ : ∃ W3 : World, W3 = { (w1.alloc (.map #[] 0)).drew with heap := (w1.alloc (.map #[] 0)).drew.heap.setIfInBounds w1.heap.size (.map #[{ key := .string key, val := .int .i64 val, born := 0 }] 1) } := ⟨_, rfl⟩
  have hbm : W3.heap[w1.heap.size]? = some (.map #[{ key := .string key, val := .int .i64 val, born := 0 }] 1) := by rw [hW3]; simp
  have hb3 : Below w1.heap.size w1 W3 := by rw [hW3]; exact ((Below.refl _ w1).alloc (Nat.le_refl _) (.map #[] 0)).drew.trans (below_setb _ _ _)
  change Exit.then _ _ Exit.normal _ { (w1.alloc (.map #[] 0)).drew with heap := (w1.alloc (.map #[] 0)).drew.heap.setIfInBounds w1.heap.size (.map #[{ key := .string key, val := .int .i64 val, born := 0 }] 1) }
  rw [← hW3]
  clear hW3 hins hmm
  have hbm1 : w.heap.size < w1.heap.size := kw.lt
  have k3 := kw.below hb3 kw.lt
  have hbw3 := hbw.trans (hb3.mono hbw.size)
  clear hb3 kw hbw
  generalize w1.heap.size = bm at *
  have hrg := run_range_map (P := Tryd.prog) W3 85 9 3 bm _ 1 Tryd.underlying85 hbm
  go_wp2_with fail
  obtain ⟨W4, hW4⟩ : ∃ W4 : World, W4 = W3.alloc (.mapIter (some bm) 1 #[] 1) := ⟨_, rfl⟩
  obtain ⟨r, hr⟩ : ∃ r : Nat, r = W3.heap.size := ⟨_, rfl⟩
  have hb4 : W4.heap[bm]? = some (.map #[{ key := .string key, val := .int .i64 val, born := 0 }] 1) := by rw [hW4, heap_alloc_old W3 _ _ (Array.getElem?_eq_some_iff.1 hbm).1]; exact hbm
  have hr4 : W4.heap[r]? = some (.mapIter (some bm) 1 #[] 1) := by rw [hW4, hr]; exact heap_alloc_new W3 _
  have hne : r ≠ bm := by have := (Array.getElem?_eq_some_iff.1 hbm).1; omega
  have hbw4 : Below w.heap.size w W4 := by rw [hW4]; exact hbw3.alloc hbw3.size _
  have k4 : Blk W4 w.heap.size 27 #[.slice none 0 0, .slice none 0 0] := by rw [hW4]; exact k3.alloc _
  have hrw : w.heap.size < r := by have := (Array.getElem?_eq_some_iff.1 hbm).1; omega
  rw [← hW4, ← hr]
  clear hrg hW4 hr hbw3 k3
  have nx1 := fun ty => next_first W4 r bm ty _ rfl hr4 hb4
  obtain ⟨W5, hW5⟩ : ∃ W5 : World, W5 = { W4 with heap := W4.heap.setIfInBounds r (.mapIter (some bm) 1 #[0] 1) } := ⟨_, rfl⟩
  have hb5 : W5.heap[bm]? = some (.map #[{ key := .string key, val := .int .i64 val, born := 0 }] 1) := by rw [hW5]; simpa [Array.getElem?_setIfInBounds_ne hne] using hb4
  have hr5 : W5.heap[r]? = some (.mapIter (some bm) 1 #[0] 1) := by rw [hW5]; have := (Array.getElem?_eq_some_iff.1 hr4).1; simp [this]
  have hb45 : Below r W4 W5 := by rw [hW5]; exact below_setb _ _ _
  have k5 := k4.below hb45 hrw
  have hbw5 := hbw4.trans (hb45.mono (by omega))
  rw [← hW5] at nx1
  clear hW5 hb45 k4 hbw4
  have en := run_entry_at (P := Tryd.prog) W5 r bm 1 #[] _ 1 { key := .string key, val := .int .i64 val, born := 0 } hr5 hb5 (by simp) (by simp)
  dsimp only at nx1 en
  refine wp_loop_rounds 2 ?_
  rw [rounds_succ]
  have hkl : key.size ≤ 1000000 := by rw [← hkey]; simp; omega
  go_wp2_with fail
  refine (sum_any key W5 hkl).mono ?_
  rintro e W6 ⟨rfl, hb6⟩
  have hb66 := (hb6.block bm (Array.getElem?_eq_some_iff.1 hb5).1).trans hb5
  have hr66 := (hb6.block r (Array.getElem?_eq_some_iff.1 hr5).1).trans hr5
  have nx2 := fun ty => next_last W6 r bm ty { key := .string key, val := .int .i64 val, born := 0 } rfl hr66 hb66
  have k6 := k5.below hb6 k5.lt
  have hbw6 := hbw5.trans (hb6.mono hbw5.size)
  have E6 := hE.below (hbw6.mono hB)
  clear nx1 en
  have hval : val = (((s.data.getD (s.size - 2) 0).toNat * 256 + (s.data.getD (s.size - 1) 0).toNat : Nat) : Int) := by
    have g1 : s.data.getD k 0 = s[k]'h2 := by rw [Array.getD_eq_getD_getElem?, Array.getElem?_eq_getElem h2]; rfl
    have g2 : s.data.getD k1 0 = s[k1]'h1 := by rw [Array.getD_eq_getD_getElem?, Array.getElem?_eq_getElem h1]; rfl
    rw [← hv, ← HK.out, ← HK1.out, g1, g2]
    omega
  have HV := hide hval
  have HKY := hide hkey
  clear hval
  by_cases hsum : ((sumB key.data.toList % 65536 : Nat) : Int) = val
  · rw [hsum]
    go_wp2_with fail
    rw [rounds_succ]
    have hsl : (3 : Int) ≤ (k : Int) := by have := HK.out; omega
    obtain ⟨lm, hlm⟩ : ∃ lm : List UInt8, lm = (s.extract 3 k).data.toList := ⟨_, rfl⟩
    have hlm2 : s.extract 3 k = ⟨lm.toArray⟩ := by rw [hlm]
    have hlml : lm.length ≤ 1000000 := by rw [hlm]; simp; omega
    have HLM := hide hlm
    clear hlm
    go_wp2_with fail
    refine (load_any W6.heap.size (lm, false) _ (Blk.new _ _ _) hlml).mono ?_
    rintro e W8 ⟨A, n, c, A', n', c', rfl, hn, hn', htr, hq⟩
    have hb8 : Below W6.heap.size W6 W8 := ((Below.refl _ W6).alloc (Nat.le_refl _) _).trans (hq.below (by simp) (Nat.le_refl _) (Nat.le_refl _))
    have k8 := k6.below hb8 k6.lt
    have hbw8 := hbw6.trans (hb8.mono hbw6.size)
    have E8 := hE.below (hbw8.mono hB)
    have HR : Hid (loadB s = match rLoad (lm, false) with
      | none => noTr 60
      | some T => (T, 0)) := hide (by
        rw [HLB.out, if_neg, HLM.out, HK.out]
        rw [← HK.out, HKY.out, HK.out]
        intro hne
        exact hne (by have := HV.out; omega))
    clear HLB E6 hbw6 hbw5 k6 k5 hq nx2
    cases hL : rLoad (lm, false) with
    | none =>
      rw [hL] at HR htr
      simp only [Option.isSome_none]
      have d0 := k8.cell 0
      have d1 := k8.cell 1
      have f0 := k8.frozen 0
      have f1 := k8.frozen 1
      have lb := k8.lt
      have hPP := E8.hP
      have hTT := E8.hT
      simp only [List.getElem?_toArray, List.getElem?_cons_zero, List.getElem?_cons_succ] at d0 d1
      have HT9 := hide (show PEnv (W8.alloc (.cells #[.slice A n c, .slice A' n' c'] 27)) B z from E8.below ((Below.refl _ _).alloc (by have := hbw8.size; omega) _))
      have hgl : 2 < W8.heap.size := by have := E8.lt.2; have := hbw8.size; omega
      go_wp2_with fail
      refine (told_any 60 _ _ _ HT9.out.hT).mono ?_
      rintro e W9 ⟨rfl, hb9⟩
      have k9 := (k8.alloc (.cells #[.slice A n c, .slice A' n' c'] 27)).below hb9 (by simp; omega)
      have hbw9 := hbw8.trans (((Below.refl _ W8).alloc hbw8.size (.cells #[.slice A n c, .slice A' n' c'] 27)).trans (hb9.mono (by simp; have := hbw8.size; omega)))
      clear d0 d1 f0 f1 lb
      have d0 := k9.cell 0
      have d1 := k9.cell 1
      have f0 := k9.frozen 0
      have f1 := k9.frozen 1
      have lb := k9.lt
      simp only [List.getElem?_toArray, List.getElem?_cons_zero, List.getElem?_cons_succ] at d0 d1
      go_wp2
      have kE := (k9.set_ 0 (.slice none 0 0)).set_ 1 (.slice none 0 0)
      refine bodyPost_ret (results_cell_row_tmp rfl _ _ w.heap.size 27 _ _ _ rfl kE Tryd.underlying27 rfl (by kernel_rfl)) rfl ?_
      rw [HR.out]
      exact ⟨none, 0, 0, none, 0, 0, rfl, ⟨⟨rfl, by omega, fun h => by omega⟩, ⟨[], ⟨rfl, by omega, fun h => by omega⟩, rfl, fun i h => by cases h⟩⟩, Nat.le_refl _, Nat.le_refl _,
        hbw9.trans (((Below.refl _ W9).grown (grownBy_setCell W9 w.heap.size 0 _) hbw9.size (fun k e => by cases e; exact Nat.le_refl _)).grown (grownBy_setCell _ w.heap.size 1 _) (by simp; exact hbw9.size) (fun k e => by cases e; exact Nat.le_refl _))⟩
    | some T =>
      rw [hL] at HR htr
      simp only [Option.isSome_some]
      have d0 := k8.cell 0
      have d1 := k8.cell 1
      have f0 := k8.frozen 0
      have f1 := k8.frozen 1
      have lb := k8.lt
      simp only [List.getElem?_toArray, List.getElem?_cons_zero, List.getElem?_cons_succ] at d0 d1
      go_wp2
      have kM := k8.set_ 0 (.slice A n c)
      have kE := ((k8.set_ 0 (.slice A n c)).set_ 1 (.slice A' n' c')).alloc (.cells #[.slice A n c, .slice A' n' c'] 27)
      refine bodyPost_ret (results_cell_row_tmp rfl _ _ w.heap.size 27 _ _ _ rfl kE Tryd.underlying27 rfl (by kernel_rfl)) rfl ?_
      rw [HR.out]
      have h6 := grownBy_setCell W8 w.heap.size 0 (.slice A n c)
      have h7' := grownBy_setCell (W8.setCell ⟨w.heap.size, 0, none⟩ (.slice A n c)) w.heap.size 1 (.slice A' n' c')
      have ht1 := htr.turn h6 (fun q e => by cases e; exact ⟨_, _, k8, by decide, by decide⟩)
      have ht2 := ht1.turn h7' (fun q e => by cases e; exact ⟨_, _, kM, by decide, by decide⟩)
      have ht3 := ht2.turn (World.grownBy_alloc _ (.cells #[.slice A n c, .slice A' n' c'] 27) none) (fun q e => by cases e)
      exact ⟨_, _, _, _, _, _, rfl, ht3.tr, hn, hn',
        hbw8.trans ((((Below.refl _ W8).grown h6 hbw8.size (fun k e => by cases e; exact Nat.le_refl _)).grown h7' (by simp; exact hbw8.size) (fun k e => by cases e; exact Nat.le_refl _)).alloc (by simp; exact hbw8.size) _)⟩
  · have HR : Hid (loadB s = noTr 61) := hide (by
      rw [HLB.out, if_pos]
      rw [← HK.out, HKY.out, HK.out]
      intro he
      exact hsum (by have := HV.out; omega))
    have d0 := k6.cell 0
    have d1 := k6.cell 1
    have f0 := k6.frozen 0
    have f1 := k6.frozen 1
    have lb := k6.lt
    have hPP := E6.hP
    simp only [List.getElem?_toArray, List.getElem?_cons_zero, List.getElem?_cons_succ] at d0 d1
    clear HLB nx2
    go_wp2_with fail
    refine (told_any 61 _ _ _ E6.hT).mono ?_
    rintro e W9 ⟨rfl, hb9⟩
    have k9 := k6.below hb9 k6.lt
    have hbw9 := hbw6.trans (hb9.mono hbw6.size)
    clear d0 d1 f0 f1 lb
    have d0 := k9.cell 0
    have d1 := k9.cell 1
    have f0 := k9.frozen 0
    have f1 := k9.frozen 1
    have lb := k9.lt
    simp only [List.getElem?_toArray, List.getElem?_cons_zero, List.getElem?_cons_succ] at d0 d1
    go_wp2
    have kE := (k9.set_ 0 (.slice none 0 0)).set_ 1 (.slice none 0 0)
    refine bodyPost_ret (results_cell_row_tmp rfl _ _ w.heap.size 27 _ _ _ rfl kE Tryd.underlying27 rfl (by kernel_rfl)) rfl ?_
    rw [HR.out]
    exact ⟨none, 0, 0, none, 0, 0, rfl, ⟨⟨rfl, by omega, fun h => by omega⟩, ⟨[], ⟨rfl, by omega, fun h => by omega⟩, rfl, fun i h => by cases h⟩⟩, Nat.le_refl _, Nat.le_refl _,
      hbw9.trans (((Below.refl _ W9).grown (grownBy_setCell W9 w.heap.size 0 _) hbw9.size (fun k e => by cases e; exact Nat.le_refl _)).grown (grownBy_setCell _ w.heap.size 1 _) (by simp; exact hbw9.size) (fun k e => by cases e; exact Nat.le_refl _))⟩
end Go.Proofs.YtibndkkbmgbogaaDoor

/- The program's pack.Load, whole. Conditions: as in PLoad3. -/
namespace Go.Proofs.YtibndkkbmgbogaaDoor
open Go Go.RowKit

set_option maxRecDepth 100000 in
set_option maxHeartbeats 1000000 in
theorem packLoad_short (s : ByteArray) (B : Nat) (z : Value) (w : World) (hE : PEnv w B z) (hB : B ≤ w.heap.size) (h7 : s.size < 7) : Calls Tryd.prog 33 #[.string s] w (Out w ⟨[], []⟩ 60) := by
  have hb1 : Below w.heap.size w (w.alloc (.cells #[.slice none 0 0, .slice none 0 0] 27)) := (Below.refl _ _).alloc (Nat.le_refl _) _
  have E1 := hE.below (hb1.mono hB)
  have hPP := E1.hP
  have hP0 := hE.hP
  have hTT := hide E1.hT
  have k1 := Blk.new w 27 #[.slice none 0 0, .slice none 0 0]
  have hgl : 2 < w.heap.size := by have := hE.lt.2; omega
  have h7' : (s.size : Int) < 7 := by omega
  go_enter Tryd.func33, Tryd.ntmps33
  go_wp2_with fail
  refine (told_any 60 _ _ _ hTT.out).mono ?_
  rintro e W9 ⟨rfl, hb9⟩
  have k9 := k1.below hb9 (by simp)
  have hbw9 := hb1.trans (hb9.mono (by simp))
  have d0 := k9.cell 0
  have d1 := k9.cell 1
  have f0 := k9.frozen 0
  have f1 := k9.frozen 1
  have lb := k9.lt
  simp only [List.getElem?_toArray, List.getElem?_cons_zero, List.getElem?_cons_succ] at d0 d1
  go_wp2
  have kE := (k9.set_ 0 (.slice none 0 0)).set_ 1 (.slice none 0 0)
  refine bodyPost_ret (results_cell_row_tmp rfl _ _ w.heap.size 27 _ _ _ rfl kE Tryd.underlying27 rfl (by kernel_rfl)) rfl ?_
  exact ⟨none, 0, 0, none, 0, 0, rfl, ⟨⟨rfl, by omega, fun h => by omega⟩, ⟨[], ⟨rfl, by omega, fun h => by omega⟩, rfl, fun i h => by cases h⟩⟩, Nat.le_refl _, Nat.le_refl _,
    hbw9.trans (((Below.refl _ W9).grown (grownBy_setCell W9 w.heap.size 0 _) hbw9.size (fun k e => by cases e; exact Nat.le_refl _)).grown (grownBy_setCell _ w.heap.size 1 _) (by simp; exact hbw9.size) (fun k e => by cases e; exact Nat.le_refl _))⟩

set_option maxRecDepth 100000 in
set_option maxHeartbeats 1000000 in
theorem packLoad_mark (s : ByteArray) (B : Nat) (z : Value) (w : World) (hE : PEnv w B z) (hB : B ≤ w.heap.size) (h7 : 7 ≤ s.size) (hm : ¬ s.extract 0 3 = ⟨#[86, 84, 49]⟩) : Calls Tryd.prog 33 #[.string s] w (Out w ⟨[], []⟩ 60) := by
  have hb1 : Below w.heap.size w (w.alloc (.cells #[.slice none 0 0, .slice none 0 0] 27)) := (Below.refl _ _).alloc (Nat.le_refl _) _
  have E1 := hE.below (hb1.mono hB)
  have hPP := E1.hP
  have hP0 := hE.hP
  have hTT := hide E1.hT
  have k1 := Blk.new w 27 #[.slice none 0 0, .slice none 0 0]
  have hgl : 2 < w.heap.size := by have := hE.lt.2; omega
  have h7' : (7 : Int) ≤ (s.size : Int) := by omega
  have h3 : (3 : Int) ≤ (s.size : Int) := by omega
  have hml : ((s.extract 0 3).toList == [86, 84, 49]) = false := by
    rw [beq_eq_false_iff_ne]
    intro e
    rw [ByteArray.toList_eq] at e
    exact hm (ByteArray.ext (Array.toList_inj.1 e))
  go_enter Tryd.func33, Tryd.ntmps33
  go_wp2_with fail
  refine (told_any 60 _ _ _ hTT.out).mono ?_
  rintro e W9 ⟨rfl, hb9⟩
  have k9 := k1.below hb9 (by simp)
  have hbw9 := hb1.trans (hb9.mono (by simp))
  have d0 := k9.cell 0
  have d1 := k9.cell 1
  have f0 := k9.frozen 0
  have f1 := k9.frozen 1
  have lb := k9.lt
  simp only [List.getElem?_toArray, List.getElem?_cons_zero, List.getElem?_cons_succ] at d0 d1
  go_wp2
  have kE := (k9.set_ 0 (.slice none 0 0)).set_ 1 (.slice none 0 0)
  refine bodyPost_ret (results_cell_row_tmp rfl _ _ w.heap.size 27 _ _ _ rfl kE Tryd.underlying27 rfl (by kernel_rfl)) rfl ?_
  exact ⟨none, 0, 0, none, 0, 0, rfl, ⟨⟨rfl, by omega, fun h => by omega⟩, ⟨[], ⟨rfl, by omega, fun h => by omega⟩, rfl, fun i h => by cases h⟩⟩, Nat.le_refl _, Nat.le_refl _,
    hbw9.trans (((Below.refl _ W9).grown (grownBy_setCell W9 w.heap.size 0 _) hbw9.size (fun k e => by cases e; exact Nat.le_refl _)).grown (grownBy_setCell _ w.heap.size 1 _) (by simp; exact hbw9.size) (fun k e => by cases e; exact Nat.le_refl _))⟩

theorem packLoad_any (s : ByteArray) (B : Nat) (z : Value) (w : World) (hE : PEnv w B z) (hB : B ≤ w.heap.size) (hs : s.size ≤ 1000000) : Calls Tryd.prog 33 #[.string s] w (Out w (loadB s).1 (loadB s).2) := by
  by_cases h7 : s.size < 7
  · have e : loadB s = noTr 60 := by unfold loadB; rw [if_pos (.inl h7)]
    rw [e]
    exact packLoad_short s B z w hE hB h7
  · by_cases hm : s.extract 0 3 = ⟨#[86, 84, 49]⟩
    · exact packLoad_good s B z w hE hB hs (by omega) hm
    · have e : loadB s = noTr 60 := by unfold loadB; rw [if_pos (.inr hm)]
      rw [e]
      exact packLoad_mark s B z w hE hB (by omega) hm
end Go.Proofs.YtibndkkbmgbogaaDoor

/- Plain facts for the law's shown: the bytes of the trie of no ranges. No program in sight; conditions: none. -/
namespace Go.Proofs.YtibndkkbmgbogaaDoor
open Go Go.RowKit

def S0 : List UInt8 := [86, 84, 49, 0, 1, 255, 0, 16, 255, 0, 0, 2, 234]
theorem runs_rep (x : Int) (k : Nat) : runsOf (List.replicate (k + 1) x) = [((k : Int) + 1, x)] := by
  have h := runsOf_run x [] (by simp) k
  rwa [List.append_nil] at h
theorem body_T0 (k : Nat) : bodyB (T0at (k + 1)) = markB ++ twoB 1 ++ [255, 0] ++ (twoB k ++ twoB 0) := by
  have h1 : (T0at (k + 1)).bl = [zB] := by simp [T0at]
  have h2 : (T0at (k + 1)).ix = List.replicate (k + 1) 0 := rfl
  have h3 : runsOf zB = [(((255 : Nat) : Int) + 1, 0)] := runs_rep 0 255
  unfold bodyB
  rw [h1, h2, runs_rep]
  simp only [blksB, List.flatMap_cons, List.flatMap_nil, List.append_nil, h3, blkB, idxB, List.length_cons, List.length_nil]
  rw [show ((k : Int) + 1 - 1).toNat = k by omega]
  rfl
theorem pack_T0 : packB (T0at 4352) = S0 := by
  have h := body_T0 4351
  have e : (4351 + 1 : Nat) = 4352 := rfl
  rw [e] at h
  unfold packB
  rw [h]
  decide
theorem T0_right (k : Nat) (hk : k + 1 = 4352) : (T0at (k + 1)).rightB = true := by
  have hz : blockB zB = true := by
    simp only [blockB, Bool.and_eq_true, decide_eq_true_eq, List.all_eq_true]
    refine ⟨zB_len, fun v hv => ?_⟩
    rw [List.eq_of_mem_replicate hv]
    rfl
  simp only [Tr.rightB, Bool.and_eq_true, decide_eq_true_eq, List.all_eq_true]
  have h1 : (T0at (k + 1)).bl = [zB] := by simp [T0at]
  have h2 : (T0at (k + 1)).ix = List.replicate (k + 1) 0 := rfl
  rw [h1, h2]
  refine ⟨⟨by rw [List.length_replicate]; exact hk, fun v hv => ?_⟩, fun b hb => ?_⟩
  · rw [List.eq_of_mem_replicate hv]
    simp
  · simp at hb
    rw [hb]
    exact hz
theorem packed_T0 : packedB (T0at 4352) = (S0, 0) := by
  have h := T0_right 4351 rfl
  have e : (4351 + 1 : Nat) = 4352 := rfl
  rw [e] at h
  unfold packedB
  rw [if_pos h, if_pos (by have := (T0at_lens 4352).2; omega), pack_T0]
theorem T0_eq (k : Nat) : T0at (k + 1) = ⟨List.replicate (k + 1) ((0 : Nat) : Int), [List.replicate 256 ((0 : Nat) : Int)]⟩ := by
  unfold T0at
  rw [if_neg (Nat.succ_ne_zero k)]
  rfl
/-- one run that fills all -/
theorem rFill_one (take : RS → Nat × RS) (n f v : Nat) (s s1 s2 : RS) (hf : 1 ≤ f) (hn : 0 < n) (hs : s.2 = false) (h1 : take s = (n - 1, s1)) (h2 : take s1 = (v, s2)) : rFill take n (f + 1) [] (0, 0) s = (List.replicate n (v : Int), s2) := by
  obtain ⟨f, rfl⟩ : ∃ g, f = g + 1 := ⟨f - 1, by omega⟩
  rw [rFill, if_pos ⟨by simpa using hn, hs⟩, h1]
  simp only [h2, List.length_nil, Nat.sub_zero, List.nil_append]
  rw [if_neg (by omega), show n - 1 + 1 = n by omega, rFill, if_neg (by simp)]
theorem load_T0 : rLoad (S0.drop 3 |>.take 8, false) = some (T0at 4352) := by
  have hr := T0_right 4351 rfl
  have e : (4351 + 1 : Nat) = 4352 := rfl
  rw [e] at hr
  have hT : T0at 4352 = ⟨List.replicate 4352 ((0 : Nat) : Int), [List.replicate 256 ((0 : Nat) : Int)]⟩ := T0_eq 4351
  have b1 : rFill rOne 256 257 [] (0, 0) ([255, 0, 16, 255, 0, 0], false) = (List.replicate 256 ((0 : Nat) : Int), ([16, 255, 0, 0], false)) := rFill_one rOne 256 256 0 _ ([0, 16, 255, 0, 0], false) _ (by decide) (by decide) rfl rfl rfl
  have b2 : rFill rTwo 4352 4353 [] (0, 0) ([16, 255, 0, 0], false) = (List.replicate 4352 ((0 : Nat) : Int), ([], false)) := rFill_one rTwo 4352 4352 0 _ ([0, 0], false) _ (by decide) (by decide) rfl rfl rfl
  have b3 : rBlocks 1 [] ([255, 0, 16, 255, 0, 0], false) = (some [List.replicate 256 ((0 : Nat) : Int)], ([16, 255, 0, 0], false)) := by
    unfold rBlocks
    rw [b1]
    rfl
  have b0 : rTwo (S0.drop 3 |>.take 8, false) = (1, ([255, 0, 16, 255, 0, 0], false)) := rfl
  unfold rLoad
  rw [b0]
  simp only
  rw [if_neg (by decide), b3]
  simp only
  rw [b2, ← hT, if_pos ⟨rfl, rfl, hr⟩]
theorem loadB_S0 : loadB ⟨S0.toArray⟩ = (T0at 4352, 0) := by
  unfold loadB
  have e : ((⟨S0.toArray⟩ : ByteArray).extract 3 ((⟨S0.toArray⟩ : ByteArray).size - 2)).data.toList = (S0.drop 3 |>.take 8) := by decide
  rw [if_neg (by decide), if_neg (by decide), e, load_T0]
theorem loadB_S1 : loadB ⟨(S0 ++ [120]).toArray⟩ = noTr 61 := by
  unfold loadB
  rw [if_neg (by decide), if_pos (by decide)]
theorem loadB_S2 : loadB ⟨#[86, 84, 49]⟩ = noTr 60 := by
  unfold loadB
  rw [if_pos (by decide)]
end Go.Proofs.YtibndkkbmgbogaaDoor
