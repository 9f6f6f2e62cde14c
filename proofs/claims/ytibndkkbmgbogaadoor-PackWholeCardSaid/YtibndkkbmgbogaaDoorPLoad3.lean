/- The program's pack.Load. Conditions: the packages' variables hold what they hold; the text is no longer than a million bytes. -/
import Derived.BigQuiet
import Derived.BigRegion
import Derived.Deep.QuietTactic
import Derived.Maps.RangeRun
import Derived.ChangeMaps4
import Derived.WideMake
import Derived.Test.YtibndkkbmgbogaaDoorProg
import Derived.Test.YtibndkkbmgbogaaDoorPLoad2
import Derived.Test.YtibndkkbmgbogaaDoorPPack
import Derived.Test.YtibndkkbmgbogaaDoorPSum
import Derived.Outline
namespace Go.Proofs.YtibndkkbmgbogaaDoor
open Go Go.RowKit

theorem below_setb (W : World) (b : Nat) (o : Obj) : Below b W { W with heap := W.heap.setIfInBounds b o } := ⟨rfl, rfl, rfl, by simp, fun k hk => by simp [Array.getElem?_setIfInBounds_ne (Nat.ne_of_gt hk)]⟩
def entB (key : ByteArray) (v : Int) : MapEntry := { key := .string key, val := .int .i64 v, born := 0 }
theorem next_first (W : World) (r bm : Nat) (ty : TypeId) (e : MapEntry) (he : e.born = 0) (hr : W.heap[r]? = some (.mapIter (some bm) 1 #[] 1)) (hb : W.heap[bm]? = some (.map #[e] 1)) :
    (Instr.next (.pointer (some ⟨r, 0, none⟩)) false ty).run Tryd.prog W = .ok (.tuple #[.bool true, e.key, e.val]) { W with heap := W.heap.setIfInBounds r (.mapIter (some bm) 1 #[0] 1) } := by
  simp only [Instr.next, getObj, Sem.run_bind, Sem.run, hr, hb, Result.andThen]
  simp [he, choose, Sem.run, Question.forced, setObj, hr, Result.andThen]
theorem next_last (W : World) (r bm : Nat) (ty : TypeId) (e : MapEntry) (he : e.born = 0) (hr : W.heap[r]? = some (.mapIter (some bm) 1 #[0] 1)) (hb : W.heap[bm]? = some (.map #[e] 1)) :
    (Instr.next (.pointer (some ⟨r, 0, none⟩)) false ty).run Tryd.prog W = .ok (.tuple #[.bool false]) W := by
  simp only [Instr.next, getObj, Sem.run_bind, Sem.run, hr, hb, Result.andThen]
  simp [he, choose, Sem.run, Question.forced, Result.andThen]

def noTr (k : Int) : Tr × Int := (⟨[], []⟩, k)
/-- what Load answers -/
def loadB (s : ByteArray) : Tr × Int :=
  if s.size < 7 ∨ ¬ s.extract 0 3 = ⟨#[86, 84, 49]⟩ then noTr 60
  else if (sumB (s.extract 0 (s.size - 2)).data.toList % 65536 : Nat) ≠ (s.data.getD (s.size - 2) 0).toNat * 256 + (s.data.getD (s.size - 1) 0).toNat then noTr 61
  else match rLoad ((s.extract 3 (s.size - 2)).data.toList, false) with
    | none => noTr 60
    | some T => (T, 0)
theorem load_def (s : ByteArray) (h7 : 7 ≤ s.size) (hm : s.extract 0 3 = ⟨#[86, 84, 49]⟩) : loadB s =
    if (sumB (s.extract 0 (s.size - 2)).data.toList % 65536 : Nat) ≠ (s.data.getD (s.size - 2) 0).toNat * 256 + (s.data.getD (s.size - 1) 0).toNat then noTr 61
    else match rLoad ((s.extract 3 (s.size - 2)).data.toList, false) with
      | none => noTr 60
      | some T => (T, 0) := by
  unfold loadB
  rw [if_neg]
  intro h
  rcases h with h | h
  · omega
  · exact h hm

set_option maxRecDepth 100000 in
set_option maxHeartbeats 1000000 in
theorem packLoad_good (s : ByteArray) (B : Nat) (z : Value) (w : World) (hE : PEnv w B z) (hB : B ≤ w.heap.size) (hs : s.size ≤ 1000000) (h7 : 7 ≤ s.size) (hm : s.extract 0 3 = ⟨#[86, 84, 49]⟩) : Calls Tryd.prog 33 #[.string s] w (Out w (loadB s).1 (loadB s).2) := by
  have HLB := hide (load_def s h7 hm)
  have hmm := @run_makeMap Tryd.prog
  obtain ⟨k, hk⟩ : ∃ k, k = s.size - 2 := ⟨_, rfl⟩
  obtain ⟨k1, hk1⟩ : ∃ k1, k1 = s.size - 1 := ⟨_, rfl⟩
  have h2 : k < s.size := by omega
  have h1 : k1 < s.size := by omega
  have b1 : (s.size : Int) - 2 = (k : Int) := by omega
  have b2 : (s.size : Int) - 1 = (k1 : Int) := by omega
  have b3 : (k : Int) ≤ (s.size : Int) := by omega
  have b4 : (k : Int) < (s.size : Int) := by omega
  have b5 : (k1 : Int) < (s.size : Int) := by omega
  have hx := (s[k]'h2).toNat_lt
  have hy := (s[k1]'h1).toNat_lt
  have HK := hide hk
  have HK1 := hide hk1
  clear hk hk1
  go_enter Tryd.func33, Tryd.ntmps33
  go_wp2_with fail
  obtain ⟨w1, hw1⟩ : ∃ w1 : World, w1 = w.alloc (.cells #[.slice none 0 0, .slice none 0 0] 27) := ⟨_, rfl⟩
  rw [← hw1]
  have hins := run_mapUpdate_first (P := Tryd.prog) ((w1.alloc (.map #[] 0)).drew) 85 9 3 w1.heap.size 0 (s.extract 0 k) (.int .i64 (((s[k]'h2).toNat : Int) * 256 + ((s[k1]'h1).toNat : Int))) Tryd.underlying85 Tryd.underlying9 (heap_alloc_new w1 _)
  have hbw : Below w.heap.size w w1 := by rw [hw1]; exact (Below.refl _ _).alloc (Nat.le_refl _) _
  have kw : Blk w1 w.heap.size 27 #[.slice none 0 0, .slice none 0 0] := by rw [hw1]; exact Blk.new _ _ _
  clear hw1
  go_region
  generalize hv : ((s[k]'h2).toNat : Int) * 256 + ((s[k1]'h1).toNat : Int) = val at *
  generalize hkey : s.extract 0 k = key at *
  obtain ⟨W3, hW3⟩ : ∃ W3 : World, W3 = { (w1.alloc (.map #[] 0)).drew with heap := (w1.alloc (.map #[] 0)).drew.heap.setIfInBounds w1.heap.size (.map #[{ key := .string key, val := .int .i64 val, born := 0 }] 1) } := ⟨_, rfl⟩
  have hbm : W3.heap[w1.heap.size]? = some (.map #[{ key := .string key, val := .int .i64 val, born := 0 }] 1) := by rw [hW3]; simp
  have hb3 : Below w1.heap.size w1 W3 := by rw [hW3]; exact ((Below.refl _ w1).alloc (Nat.le_refl _) (.map #[] 0)).drew.trans (below_setb _ _ _)
  change Exit.then _ _ Exit.normal _ { (w1.alloc (.map #[] 0)).drew with heap := (w1.alloc (.map #[] 0)).drew.heap.setIfInBounds w1.heap.size (.map #[{ key := .string key, val := .int .i64 val, born := 0 }] 1) }
  rw [← hW3]
  clear hW3 hins hmm
  have hbm1 : w.heap.size < w1.heap.size := kw.lt
  have k3 := kw.below hb3 kw.lt
  have hbw3 := hbw.trans (hb3.mono hbw.size)
  clear hb3 kw hbw
  generalize w1.heap.size = bm at *
  have hrg := run_range_map (P := Tryd.prog) W3 85 9 3 bm _ 1 Tryd.underlying85 hbm
  go_wp2_with fail
  obtain ⟨W4, hW4⟩ : ∃ W4 : World, W4 = W3.alloc (.mapIter (some bm) 1 #[] 1) := ⟨_, rfl⟩
  obtain ⟨r, hr⟩ : ∃ r : Nat, r = W3.heap.size := ⟨_, rfl⟩
  have hb4 : W4.heap[bm]? = some (.map #[{ key := .string key, val := .int .i64 val, born := 0 }] 1) := by rw [hW4, heap_alloc_old W3 _ _ (Array.getElem?_eq_some_iff.1 hbm).1]; exact hbm
  have hr4 : W4.heap[r]? = some (.mapIter (some bm) 1 #[] 1) := by rw [hW4, hr]; exact heap_alloc_new W3 _
  have hne : r ≠ bm := by have := (Array.getElem?_eq_some_iff.1 hbm).1; omega
  have hbw4 : Below w.heap.size w W4 := by rw [hW4]; exact hbw3.alloc hbw3.size _
  have k4 : Blk W4 w.heap.size 27 #[.slice none 0 0, .slice none 0 0] := by rw [hW4]; exact k3.alloc _
  have hrw : w.heap.size < r := by have := (Array.getElem?_eq_some_iff.1 hbm).1; omega
  rw [← hW4, ← hr]
  clear hrg hW4 hr hbw3 k3
  have nx1 := fun ty => next_first W4 r bm ty _ rfl hr4 hb4
  obtain ⟨W5, hW5⟩ : ∃ W5 : World, W5 = { W4 with heap := W4.heap.setIfInBounds r (.mapIter (some bm) 1 #[0] 1) } := ⟨_, rfl⟩
  have hb5 : W5.heap[bm]? = some (.map #[{ key := .string key, val := .int .i64 val, born := 0 }] 1) := by rw [hW5]; simpa [Array.getElem?_setIfInBounds_ne hne] using hb4
  have hr5 : W5.heap[r]? = some (.mapIter (some bm) 1 #[0] 1) := by rw [hW5]; have := (Array.getElem?_eq_some_iff.1 hr4).1; simp [this]
  have hb45 : Below r W4 W5 := by rw [hW5]; exact below_setb _ _ _
  have k5 := k4.below hb45 hrw
  have hbw5 := hbw4.trans (hb45.mono (by omega))
  rw [← hW5] at nx1
  clear hW5 hb45 k4 hbw4
  have en := run_entry_at (P := Tryd.prog) W5 r bm 1 #[] _ 1 { key := .string key, val := .int .i64 val, born := 0 } hr5 hb5 (by simp) (by simp)
  dsimp only at nx1 en
  refine wp_loop_rounds 2 ?_
  rw [rounds_succ]
  have hkl : key.size ≤ 1000000 := by rw [← hkey]; simp; omega
  go_wp2_with fail
  refine (sum_any key W5 hkl).mono ?_
  rintro e W6 ⟨rfl, hb6⟩
  have hb66 := (hb6.block bm (Array.getElem?_eq_some_iff.1 hb5).1).trans hb5
  have hr66 := (hb6.block r (Array.getElem?_eq_some_iff.1 hr5).1).trans hr5
  have nx2 := fun ty => next_last W6 r bm ty { key := .string key, val := .int .i64 val, born := 0 } rfl hr66 hb66
  have k6 := k5.below hb6 k5.lt
  have hbw6 := hbw5.trans (hb6.mono hbw5.size)
  have E6 := hE.below (hbw6.mono hB)
  clear nx1 en
  have hval : val = (((s.data.getD (s.size - 2) 0).toNat * 256 + (s.data.getD (s.size - 1) 0).toNat : Nat) : Int) := by
    have g1 : s.data.getD k 0 = s[k]'h2 := by rw [Array.getD_eq_getD_getElem?, Array.getElem?_eq_getElem h2]; rfl
    have g2 : s.data.getD k1 0 = s[k1]'h1 := by rw [Array.getD_eq_getD_getElem?, Array.getElem?_eq_getElem h1]; rfl
    rw [← hv, ← HK.out, ← HK1.out, g1, g2]
    omega
  have HV := hide hval
  have HKY := hide hkey
  clear hval
  by_cases hsum : ((sumB key.data.toList % 65536 : Nat) : Int) = val
  · rw [hsum]
    go_wp2_with fail
    rw [rounds_succ]
    have hsl : (3 : Int) ≤ (k : Int) := by have := HK.out; omega
    obtain ⟨lm, hlm⟩ : ∃ lm : List UInt8, lm = (s.extract 3 k).data.toList := ⟨_, rfl⟩
    have hlm2 : s.extract 3 k = ⟨lm.toArray⟩ := by rw [hlm]
    have hlml : lm.length ≤ 1000000 := by rw [hlm]; simp; omega
    have HLM := hide hlm
    clear hlm
    go_wp2_with fail
    refine (load_any W6.heap.size (lm, false) _ (Blk.new _ _ _) hlml).mono ?_
    rintro e W8 ⟨A, n, c, A', n', c', rfl, hn, hn', htr, hq⟩
    have hb8 : Below W6.heap.size W6 W8 := ((Below.refl _ W6).alloc (Nat.le_refl _) _).trans (hq.below (by simp) (Nat.le_refl _) (Nat.le_refl _))
    have k8 := k6.below hb8 k6.lt
    have hbw8 := hbw6.trans (hb8.mono hbw6.size)
    have E8 := hE.below (hbw8.mono hB)
    have HR : Hid (loadB s = match rLoad (lm, false) with
      | none => noTr 60
      | some T => (T, 0)) := hide (by
        rw [HLB.out, if_neg, HLM.out, HK.out]
        rw [← HK.out, HKY.out, HK.out]
        intro hne
        exact hne (by have := HV.out; omega))
    clear HLB E6 hbw6 hbw5 k6 k5 hq nx2
    cases hL : rLoad (lm, false) with
    | none =>
      rw [hL] at HR htr
      simp only [Option.isSome_none]
      have d0 := k8.cell 0
      have d1 := k8.cell 1
      have f0 := k8.frozen 0
      have f1 := k8.frozen 1
      have lb := k8.lt
      have hPP := E8.hP
      have hTT := E8.hT
      simp only [List.getElem?_toArray, List.getElem?_cons_zero, List.getElem?_cons_succ] at d0 d1
      have HT9 := hide (show PEnv (W8.alloc (.cells #[.slice A n c, .slice A' n' c'] 27)) B z from E8.below ((Below.refl _ _).alloc (by have := hbw8.size; omega) _))
      have hgl : 2 < W8.heap.size := by have := E8.lt.2; have := hbw8.size; omega
      go_wp2_with fail
      refine (told_any 60 _ _ _ HT9.out.hT).mono ?_
      rintro e W9 ⟨rfl, hb9⟩
      have k9 := (k8.alloc (.cells #[.slice A n c, .slice A' n' c'] 27)).below hb9 (by simp; omega)
      have hbw9 := hbw8.trans (((Below.refl _ W8).alloc hbw8.size (.cells #[.slice A n c, .slice A' n' c'] 27)).trans (hb9.mono (by simp; have := hbw8.size; omega)))
      clear d0 d1 f0 f1 lb
      have d0 := k9.cell 0
      have d1 := k9.cell 1
      have f0 := k9.frozen 0
      have f1 := k9.frozen 1
      have lb := k9.lt
      simp only [List.getElem?_toArray, List.getElem?_cons_zero, List.getElem?_cons_succ] at d0 d1
      go_wp2
      have kE := (k9.set_ 0 (.slice none 0 0)).set_ 1 (.slice none 0 0)
      refine bodyPost_ret (results_cell_row_tmp rfl _ _ w.heap.size 27 _ _ _ rfl kE Tryd.underlying27 rfl (by kernel_rfl)) rfl ?_
      rw [HR.out]
      exact ⟨none, 0, 0, none, 0, 0, rfl, ⟨⟨rfl, by omega, fun h => by omega⟩, ⟨[], ⟨rfl, by omega, fun h => by omega⟩, rfl, fun i h => by cases h⟩⟩, Nat.le_refl _, Nat.le_refl _,
        hbw9.trans (((Below.refl _ W9).grown (grownBy_setCell W9 w.heap.size 0 _) hbw9.size (fun k e => by cases e; exact Nat.le_refl _)).grown (grownBy_setCell _ w.heap.size 1 _) (by simp; exact hbw9.size) (fun k e => by cases e; exact Nat.le_refl _))⟩
    | some T =>
      rw [hL] at HR htr
      simp only [Option.isSome_some]
      have d0 := k8.cell 0
      have d1 := k8.cell 1
      have f0 := k8.frozen 0
      have f1 := k8.frozen 1
      have lb := k8.lt
      simp only [List.getElem?_toArray, List.getElem?_cons_zero, List.getElem?_cons_succ] at d0 d1
      go_wp2
      have kM := k8.set_ 0 (.slice A n c)
      have kE := ((k8.set_ 0 (.slice A n c)).set_ 1 (.slice A' n' c')).alloc (.cells #[.slice A n c, .slice A' n' c'] 27)
      refine bodyPost_ret (results_cell_row_tmp rfl _ _ w.heap.size 27 _ _ _ rfl kE Tryd.underlying27 rfl (by kernel_rfl)) rfl ?_
      rw [HR.out]
      have h6 := grownBy_setCell W8 w.heap.size 0 (.slice A n c)
      have h7' := grownBy_setCell (W8.setCell ⟨w.heap.size, 0, none⟩ (.slice A n c)) w.heap.size 1 (.slice A' n' c')
      have ht1 := htr.turn h6 (fun q e => by cases e; exact ⟨_, _, k8, by decide, by decide⟩)
      have ht2 := ht1.turn h7' (fun q e => by cases e; exact ⟨_, _, kM, by decide, by decide⟩)
      have ht3 := ht2.turn (World.grownBy_alloc _ (.cells #[.slice A n c, .slice A' n' c'] 27) none) (fun q e => by cases e)
      exact ⟨_, _, _, _, _, _, rfl, ht3.tr, hn, hn',
        hbw8.trans ((((Below.refl _ W8).grown h6 hbw8.size (fun k e => by cases e; exact Nat.le_refl _)).grown h7' (by simp; exact hbw8.size) (fun k e => by cases e; exact Nat.le_refl _)).alloc (by simp; exact hbw8.size) _)⟩
  · have HR : Hid (loadB s = noTr 61) := hide (by
      rw [HLB.out, if_pos]
      rw [← HK.out, HKY.out, HK.out]
      intro he
      exact hsum (by have := HV.out; omega))
    have d0 := k6.cell 0
    have d1 := k6.cell 1
    have f0 := k6.frozen 0
    have f1 := k6.frozen 1
    have lb := k6.lt
    have hPP := E6.hP
    simp only [List.getElem?_toArray, List.getElem?_cons_zero, List.getElem?_cons_succ] at d0 d1
    clear HLB nx2
    go_wp2_with fail
    refine (told_any 61 _ _ _ E6.hT).mono ?_
    rintro e W9 ⟨rfl, hb9⟩
    have k9 := k6.below hb9 k6.lt
    have hbw9 := hbw6.trans (hb9.mono hbw6.size)
    clear d0 d1 f0 f1 lb
    have d0 := k9.cell 0
    have d1 := k9.cell 1
    have f0 := k9.frozen 0
    have f1 := k9.frozen 1
    have lb := k9.lt
    simp only [List.getElem?_toArray, List.getElem?_cons_zero, List.getElem?_cons_succ] at d0 d1
    go_wp2
    have kE := (k9.set_ 0 (.slice none 0 0)).set_ 1 (.slice none 0 0)
    refine bodyPost_ret (results_cell_row_tmp rfl _ _ w.heap.size 27 _ _ _ rfl kE Tryd.underlying27 rfl (by kernel_rfl)) rfl ?_
    rw [HR.out]
    exact ⟨none, 0, 0, none, 0, 0, rfl, ⟨⟨rfl, by omega, fun h => by omega⟩, ⟨[], ⟨rfl, by omega, fun h => by omega⟩, rfl, fun i h => by cases h⟩⟩, Nat.le_refl _, Nat.le_refl _,
      hbw9.trans (((Below.refl _ W9).grown (grownBy_setCell W9 w.heap.size 0 _) hbw9.size (fun k e => by cases e; exact Nat.le_refl _)).grown (grownBy_setCell _ w.heap.size 1 _) (by simp; exact hbw9.size) (fun k e => by cases e; exact Nat.le_refl _))⟩
end Go.Proofs.YtibndkkbmgbogaaDoor
