/- The program's (*reader).fill over (*reader).two. Conditions: as in PFill. -/
import Derived.Test.YtibndkkbmgbogaaDoorPFill
namespace Go.Proofs.YtibndkkbmgbogaaDoor
open Go Go.RowKit

theorem rTwo_len (s : RS) : (rTwo s).2.1.length ≤ s.1.length := Nat.le_trans (rOne_len (rOne s).2) (rOne_len s)

set_option maxRecDepth 100000 in
set_option maxHeartbeats 2000000 in
theorem fillTwo_any (g n : Nat) (s : RS) (w : World) (h : Rd w g s) (hl : s.1.length ≤ 1000000) (hn : n < 60000) :
    Calls Tryd.prog 78 #[.pointer (some ⟨g, 0, none⟩), .int .i64 n, .func (.func 77) #[.pointer (some ⟨g, 0, none⟩)] #[]] w
      (Filled w w.heap.size g (rFill rTwo n (n + 1) [] (0, 0) s).1 (rFill rTwo n (n + 1) [] (0, 0) s).2) := by
  obtain ⟨i0, hi, hz0, hz1, hzb⟩ := info_parts info_int
  go_enter Tryd.func78, Tryd.ntmps78
  go_wp2_with fail
  obtain ⟨w1, hw1⟩ : ∃ w1 : World, w1 = w.alloc (.cells #[.int .i64 0, .int .i64 0] 53) := ⟨_, rfl⟩
  have k1 : Blk w1 w.heap.size 53 #[.int .i64 (((0 : Nat) : Int)), .int .i64 0] := by rw [hw1]; exact Blk.new _ _ _
  have r1 : Rd w1 g s := by rw [hw1]; exact Blk.alloc h _
  have q1 : Kept w.heap.size g g w w1 := by rw [hw1]; exact Kept.of_below ((Below.refl _ _).alloc (Nat.le_refl _) _)
  have hgl : g < w.heap.size := Blk.lt h
  rw [← hw1]
  clear hw1 h
  have HS := hide (rfl : rFill rTwo n (n + 1) [] (0, 0) s = rFill rTwo n (n + 1) [] (0, 0) s)
  generalize hres : rFill rTwo n (n + 1) [] (0, 0) s = res at *
  have HRES := hide hres
  clear hres HS
  go_loopw [7] (fun o wr => ∃ (f : Nat) (A : Option Addr) (c : Nat) (out : List Int) (last : Nat × Int) (s : RS), o = .slice A out.length c ∧ out.length ≤ n ∧ n - out.length < f ∧ last.1 ≤ n ∧ rFill rTwo n f out last s = res ∧
      wr.ownsRow w.heap.size 3 1 (.slice A out.length c) out.length (intCells out) ∧ Blk wr w.heap.size 53 #[.int .i64 (last.1 : Int), .int .i64 last.2] ∧ Rd wr g s ∧ s.1.length ≤ 1000000 ∧ Kept w.heap.size g g w wr)
    (fun o _ => n + 1 - lenOf o)
  case atStart => exact ⟨n + 1, none, 0, [], (0, 0), s, rfl, Nat.zero_le _, by simp, Nat.zero_le _, HRES.out, World.ownsRow_nil _ _ _ _, k1, r1, hl, q1⟩
  case round =>
    clear k1 r1 q1 hl HRES
    obtain ⟨f, A, c, out, last, s, rfl, hle, hf, hlast, hr, ho, kb, rd, hsl, hq⟩ := hrel
    obtain ⟨f, rfl⟩ : ∃ f', f = f' + 1 := ⟨f - 1, by omega⟩
    obtain ⟨l, bad⟩ := s
    have d1 := Blk.cell rd 1
    simp only [List.getElem?_toArray, List.getElem?_cons_zero, List.getElem?_cons_succ] at d1
    by_cases hlt : out.length < n
    · cases bad with
      | true =>
        have HR : Hid ((out, (l, true)) = res) := hide (by rw [← hr]; simp [rFill])
        clear hr
        go_wp2
        go_ret
        exact ⟨_, rfl, by rw [← HR.out]; exact ho, by rw [← HR.out]; exact rd, hq⟩
      | false =>
        have hr2 : (if n - out.length < (rTwo (l, false)).1 + 1 ∨ (last.2 = ((rTwo (rTwo (l, false)).2).1 : Int) ∧ 0 < last.1) then (out, ((rTwo (rTwo (l, false)).2).2.1, true))
            else rFill rTwo n f (out ++ List.replicate ((rTwo (l, false)).1 + 1) ((rTwo (rTwo (l, false)).2).1 : Int)) ((rTwo (l, false)).1 + 1, ((rTwo (rTwo (l, false)).2).1 : Int)) (rTwo (rTwo (l, false)).2).2) = res := by
          rw [← hr, rFill]
          rw [if_pos (show out.length < n ∧ (l, false).2 = false from ⟨hlt, rfl⟩)]
        have t1 := two_r g (l, false) wr rd (by omega)
        have la := rTwo_lt (l, false)
        have hsl1 := rTwo_len (l, false)
        have t2 := fun W q => two_r g (rTwo (l, false)).2 W q (by omega)
        have lb := rTwo_lt (rTwo (l, false)).2
        have hsl2 := rTwo_len (rTwo (l, false)).2
        have HR := hide hr2
        clear hr hr2
        simp only at hsl
        generalize (rTwo (l, false)).1 = a at *
        generalize (rTwo (l, false)).2 = s1 at *
        generalize (rTwo s1).1 = b at *
        generalize (rTwo s1).2 = s2 at *
        have HT2 := hide t2
        clear t2
        have HO := hide ho
        clear ho
        go_wp2_with fail
        refine t1.mono ?_
        rintro e w2 ⟨rfl, rd2, hg2, hz2'⟩
        clear t1
        have hgs : g ≠ w.heap.size := by omega
        have ho2 := HO.out.kept hg2 (.inr (fun e => own_ne HO.out rd (by decide) e.symm))
        have kb2 := kb.grown hg2 (by intro e; cases e; exact hgs rfl)
        have hq2 := hq.trans (Kept.grown hg2 hq.size (fun k e => by cases e; exact .inr (.inl rfl)))
        have hgl2 : g < w2.heap.size := Nat.lt_of_lt_of_le hgl hq2.size
        go_wp2_with fail
        refine (HT2.out _ (Blk.alloc rd2 _)).mono ?_
        rintro e w3 ⟨rfl, rd3, hg3, hz3'⟩
        clear HT2
        have k9 := (Blk.new w2 53 #[.int .i64 ((a : Int) + 1), .int .i64 0]).grown hg3 (by intro e; cases e; omega)
        have hga := World.grownBy_alloc w2 (.cells #[.int .i64 ((a : Int) + 1), .int .i64 0] 53) none
        have ho3 := (ho2.kept hga (by cases (Value.slice A out.length c).ownBlock <;> simp)).kept hg3 (.inr (fun e => own_ne (ho2.kept hga (by cases (Value.slice A out.length c).ownBlock <;> simp)) (Blk.alloc rd2 _) (by decide) e.symm))
        have kb3 := (kb2.alloc (.cells #[.int .i64 ((a : Int) + 1), .int .i64 0] 53)).grown hg3 (by intro e; cases e; exact hgs rfl)
        have hq3 : Kept w.heap.size g g w w3 := (hq2.trans (Kept.grown hga (by have := hq2.size; omega) (fun k e => by cases e))).trans (Kept.grown hg3 (by have := hq2.size; simp; omega) (fun k e => by cases e; exact .inr (.inl rfl)))
        have hb9 : w.heap.size < w2.heap.size := by rw [hz2']; exact kb.lt
        rw [hz2'] at k9 hb9
        clear hga hg3 hz3' hg2 hz2' ho2 kb2 hq2 hgl2 rd2 d1 HO kb rd hq
        generalize wr.heap.size = b9 at *
        generalize hb0 : w.heap.size = b0 at *
        have HB0 := hide hb0
        clear hb0
        have x0 := k9.cell 0
        have x1 := k9.cell 1
        have xf := k9.frozen 1
        have y0 := kb3.cell 0
        have y1 := kb3.cell 1
        have z1 := Blk.cell rd3 1
        have zf := Blk.frozen rd3 1
        simp only [List.getElem?_toArray, List.getElem?_cons_zero, List.getElem?_cons_succ] at x0 x1 y0 y1 z1
        have lx := k9.lt
        have lg := Blk.lt rd3
        have n1 : ¬ (b9 = g) := by omega
        have n2 : ¬ (g = b9) := by omega
        have n3 : ¬ (b9 = b0) := by omega
        have n4 : ¬ (b0 = b9) := by omega
        have lb0 := kb3.lt
        have hEq := run_eql_run
        by_cases hgt : n - out.length < a + 1
        · have hgt' : (n : Int) - (out.length : Int) < (a : Int) + 1 := by omega
          have hres : (out, (s2.1, true)) = res := by rw [← HR.out, if_pos (.inl hgt)]
          have HRES := hide hres
          clear hres HR hgt
          go_wp2
          go_ret
          have hb1 := (grownBy_setCell w3 b9 1 (.int .i64 b))
          have rd4 := Blk.far rd3 (p := ⟨b9, 1, none⟩) (by simpa using n2) (.int .i64 b)
          have hb3 := grownBy_setCell (w3.setCell ⟨b9, 1, none⟩ (.int .i64 b)) g 1 (.bool true)
          have hb2 := World.grownBy_alloc ((w3.setCell ⟨b9, 1, none⟩ (.int .i64 b)).setCell ⟨g, 1, none⟩ (.bool true)) (.cells #[.int .i64 (last.1 : Int), .int .i64 b] 53) none
          have ho4 := ho3.kept hb1 (.inr (fun e => own_ne ho3 k9 (by decide) e.symm))
          have ho5 := ho4.kept hb3 (.inr (fun e => own_ne ho4 rd4 (by decide) e.symm))
          have ho6 := ho5.alloc (.cells #[.int .i64 (last.1 : Int), .int .i64 b] 53)
          have hs3 := hq3.size
          have h0 := HB0.out
          refine ⟨_, rfl, by rw [← HRES.out]; exact ho6, by rw [← HRES.out]; exact (rd4.set_ 1 (.bool true)).alloc _, ?_⟩
          rw [h0]
          exact (hq3.trans (Kept.grown hb1 (by omega) (fun k e => by cases e; exact .inl (by omega)))).trans ((Kept.grown hb3 (by simp; omega) (fun k e => by cases e; exact .inr (.inl rfl))).trans (Kept.grown hb2 (by simp; omega) (fun k e => by cases e)))
        · have hgt' : (a : Int) + 1 ≤ (n : Int) - (out.length : Int) := by omega
          by_cases hsame : last.2 = (b : Int)
          · rw [hsame] at y1
            by_cases hpos : 0 < last.1
            · have hpos' : (0 : Int) < (last.1 : Int) := by omega
              have hres : (out, (s2.1, true)) = res := by rw [← HR.out, if_pos (.inr ⟨hsame, hpos⟩)]
              clear hsame
              have HRES := hide hres
              clear hres HR
              go_wp2
              go_ret
              have hb1 := (grownBy_setCell w3 b9 1 (.int .i64 b))
              have rd4 := Blk.far rd3 (p := ⟨b9, 1, none⟩) (by simpa using n2) (.int .i64 b)
              have hb3 := grownBy_setCell (w3.setCell ⟨b9, 1, none⟩ (.int .i64 b)) g 1 (.bool true)
              have hb2 := World.grownBy_alloc ((w3.setCell ⟨b9, 1, none⟩ (.int .i64 b)).setCell ⟨g, 1, none⟩ (.bool true)) (.cells #[.int .i64 (last.1 : Int), .int .i64 b] 53) none
              have ho4 := ho3.kept hb1 (.inr (fun e => own_ne ho3 k9 (by decide) e.symm))
              have ho5 := ho4.kept hb3 (.inr (fun e => own_ne ho4 rd4 (by decide) e.symm))
              have ho6 := ho5.alloc (.cells #[.int .i64 (last.1 : Int), .int .i64 b] 53)
              have hs3 := hq3.size
              have h0 := HB0.out
              refine ⟨_, rfl, by rw [← HRES.out]; exact ho6, by rw [← HRES.out]; exact (rd4.set_ 1 (.bool true)).alloc _, ?_⟩
              rw [h0]
              exact (hq3.trans (Kept.grown hb1 (by omega) (fun k e => by cases e; exact .inl (by omega)))).trans ((Kept.grown hb3 (by simp; omega) (fun k e => by cases e; exact .inr (.inl rfl))).trans (Kept.grown hb2 (by simp; omega) (fun k e => by cases e)))
            · have HNO : ¬ (n - out.length < a + 1 ∨ (last.2 = (b : Int) ∧ 0 < last.1)) := fun h => h.elim hgt (fun h => hpos h.2)
              have hpos' : (last.1 : Int) ≤ 0 := by omega
              have hres : rFill rTwo n f (out ++ List.replicate (a + 1) (b : Int)) (a + 1, (b : Int)) s2 = res := by rw [← HR.out, if_neg HNO]
              have HRES := hide hres
              clear hres HR
              go_wp2_with fail
              clear HNO
              obtain ⟨W5, hW5⟩ : ∃ W5 : World, W5 = ((w3.setCell ⟨b9, 1, none⟩ (.int .i64 b)).alloc (.cells #[.int .i64 (last.1 : Int), .int .i64 b] 53)).alloc (.cells #[.int .i64 b] 3) := ⟨_, rfl⟩
              have hb1 := grownBy_setCell w3 b9 1 (.int .i64 b)
              have kX : Blk W5 (w3.heap.size + 1) 3 #[.int .i64 b] := by
                rw [hW5]
                have := Blk.new ((w3.setCell ⟨b9, 1, none⟩ (.int .i64 b)).alloc (.cells #[.int .i64 (last.1 : Int), .int .i64 b] 53)) 3 #[.int .i64 b]
                simpa using this
              have ho5 : W5.ownsRow b0 3 1 (.slice A out.length c) out.length (intCells out) := by
                rw [hW5]
                exact ((ho3.kept hb1 (.inr (fun e => own_ne ho3 k9 (by decide) e.symm))).alloc _).alloc _
              have k95 : Blk W5 b9 53 #[.int .i64 ((a : Int) + 1), .int .i64 b] := by rw [hW5]; exact ((k9.set_ 1 (.int .i64 b)).alloc _).alloc _
              have kb5 : Blk W5 b0 53 #[.int .i64 (last.1 : Int), .int .i64 last.2] := by rw [hW5]; exact ((kb3.far (p := ⟨b9, 1, none⟩) (by simpa using n4) (.int .i64 b)).alloc _).alloc _
              have rd5 : Rd W5 g s2 := by rw [hW5]; exact ((Blk.far rd3 (p := ⟨b9, 1, none⟩) (by simpa using n2) (.int .i64 b)).alloc _).alloc _
              have hq5 : Kept b0 g g w W5 := by
                have hs3 := hq3.size
                have h0 := HB0.out
                rw [hW5]
                exact (hq3.trans (Kept.grown hb1 (by omega) (fun k e => by cases e; exact .inl (by omega)))).trans ((Kept.grown (World.grownBy_alloc _ _ none) (by simp; omega) (fun k e => by cases e)).trans (Kept.grown (World.grownBy_alloc _ _ none) (by simp; omega) (fun k e => by cases e)))
              rw [← hW5]
              clear hW5 hb1 ho3 k9 kb3 rd3 hq3 x0 x1 xf y0 y1 z1 zf lx lg lb0
              generalize w3.heap.size + 1 = bX at *
              have hrep := repeat_any bX (b : Int) (a + 1) W5 kX (by omega) (by omega)
              rw [show (((a + 1 : Nat)) : Int) = (a : Int) + 1 by omega] at hrep
              refine hrep.mono ?_
              rintro e W6 ⟨g2, hg2, rfl, kR, hbR⟩
              clear hrep
              have hgR := grown_of_below hbR none
              have ho6 := ho5.kept hgR (by cases (Value.slice A out.length c).ownBlock <;> simp)
              have k96 := k95.below hbR k95.lt
              have kb6 := kb5.below hbR kb5.lt
              have rd6 := Blk.below rd5 hbR (Blk.lt rd5)
              have hs5 := hq5.size
              have h0 := HB0.out
              have hq6 : Kept b0 g g w W6 := hq5.trans (Kept.of_below (hbR.mono (by omega)))
              have hnews : ∀ j u, (List.replicate (a + 1) (Value.int .i64 b))[j]? = some u → W6.cell? ((⟨g2, 0, none⟩ : Addr).add j) = some u := fun j u hj => by
                have h2 := kR.cell j
                have hj2 : j < a + 1 := by have := (List.getElem?_eq_some_iff.1 hj).1; simpa using this
                have e1 : (repRow (b : Int) (a + 1) (a + 1))[j]? = some (.int .i64 b) := by simp [repRow, hj2]
                have e2 : u = .int .i64 b := by simp [hj2] at hj; exact hj.symm
                rw [e1] at h2
                have ea : (⟨g2, 0, none⟩ : Addr).add j = ⟨g2, j, none⟩ := by unfold Addr.add; split <;> simp_all
                rw [ea, e2]
                exact h2
              have HNW := hide hnews
              have HO6 := hide ho6
              have hbs : b0 ≤ W6.heap.size := by have := hq6.size; omega
              have hsum : out.length + (a + 1) ≤ n := by omega
              clear hnews ho6 ho5 k95 kb5 rd5 hq5 hgR kR kX hbR hg2 hs5 h0
              go_wp2_with (at_builtin; go_must (refine wpList_append_lies _ rfl (.tmp 55) (.tmp 61) 24 rfl b0 3 i0 (.int .i64 0) 1 8 Tryd.underlying24 hi hz0 hz1 hzb rfl (by decide) (.slice A out.length c) out.length (intCells out) rfl HO6.out ⟨g2, 0, none⟩ (a + 1) (a + 1) (List.replicate (a + 1) (.int .i64 b)) rfl (by simp) HNW.out (by intro u hu; rw [List.eq_of_mem_replicate hu]; rfl) (by omega) (by unfold maxLen; omega) (by omega) hbs _ rfl ?_); intro g' cap' W7 hown1 hgrow1 _ _; have HO7 := hide hown1; have HG := hide hgrow1; have k97 := k96.grown hgrow1 (own_ne HO6.out k96 (by decide)); have kb7 := kb6.grown hgrow1 (own_ne HO6.out kb6 (by decide)); have rd7 := Blk.grown rd6 hgrow1 (own_ne HO6.out rd6 (by decide)); have x0 := k97.cell 0; have x1 := k97.cell 1; have y0 := kb7.cell 0; have y1 := kb7.cell 1; have yf0 := kb7.frozen 0; have yf1 := kb7.frozen 1; have lx := k97.lt; have lb0 := kb7.lt; clear hown1 hgrow1; simp only [List.getElem?_toArray, List.getElem?_cons_zero, List.getElem?_cons_succ] at x0 x1 y0 y1)
              have hs0 := grownBy_setCell W7 b0 0 (.int .i64 ((a : Int) + 1))
              have hs1 := grownBy_setCell (W7.setCell ⟨b0, 0, none⟩ (.int .i64 ((a : Int) + 1))) b0 1 (.int .i64 b)
              have kf := (kb7.set_ 0 (.int .i64 ((a : Int) + 1))).set_ 1 (.int .i64 b)
              have rf := (Blk.far rd7 (p := ⟨b0, 0, none⟩) (by simpa using Ne.symm (show b0 ≠ g by omega)) (.int .i64 ((a : Int) + 1))).far (p := ⟨b0, 1, none⟩) (by simpa using Ne.symm (show b0 ≠ g by omega)) (.int .i64 b)
              have hof := (HO7.out.kept hs0 (.inr (fun e => own_ne HO7.out kb7 (by decide) e.symm))).kept hs1 (.inr (fun e => own_ne (HO7.out.kept hs0 (.inr (fun e => own_ne HO7.out kb7 (by decide) e.symm))) (kb7.set_ 0 _) (by decide) e.symm))
              have hle1 := hq6.size
              have hle2 := HG.out.size
              have hqf : Kept b0 g g w ((W7.setCell ⟨b0, 0, none⟩ (.int .i64 ((a : Int) + 1))).setCell ⟨b0, 1, none⟩ (.int .i64 b)) :=
                (hq6.trans (Kept.grown HG.out hbs (fun k e => .inl (HO6.out.lt k e).1))).trans ((Kept.grown hs0 (by omega) (fun k e => by cases e; exact .inl (Nat.le_refl _))).trans (Kept.grown hs1 (by simp; omega) (fun k e => by cases e; exact .inl (Nat.le_refl _))))
              have h0 := HB0.out
              subst h0
              go_roundw
              case rel =>
                refine ⟨f, some ⟨g', 0, none⟩, cap', out ++ List.replicate (a + 1) (b : Int), (a + 1, (b : Int)), s2, by rw [List.length_append, List.length_replicate], by rw [List.length_append, List.length_replicate]; omega, by rw [List.length_append, List.length_replicate]; omega, by simp only; omega, HRES.out, ?_, kf, rf, by omega, hqf⟩
                have e1 : intCells (out ++ List.replicate (a + 1) (b : Int)) = intCells out ++ List.replicate (a + 1) (.int .i64 b) := by simp [intCells]
                rw [e1, List.length_append, List.length_replicate]
                exact hof
              case measure => simp [lenOf]; omega
          · have HNO : ¬ (n - out.length < a + 1 ∨ (last.2 = (b : Int) ∧ 0 < last.1)) := fun h => h.elim hgt (fun h => hsame h.1)
            have hns : (last.2 = (b : Int)) = False := eq_false hsame
            have hres : rFill rTwo n f (out ++ List.replicate (a + 1) (b : Int)) (a + 1, (b : Int)) s2 = res := by rw [← HR.out, if_neg HNO]
            have HRES := hide hres
            clear hres HR
            go_wp2_with fail
            clear HNO
            obtain ⟨W5, hW5⟩ : ∃ W5 : World, W5 = ((w3.setCell ⟨b9, 1, none⟩ (.int .i64 b)).alloc (.cells #[.int .i64 (last.1 : Int), .int .i64 b] 53)).alloc (.cells #[.int .i64 b] 3) := ⟨_, rfl⟩
            have hb1 := grownBy_setCell w3 b9 1 (.int .i64 b)
            have kX : Blk W5 (w3.heap.size + 1) 3 #[.int .i64 b] := by
              rw [hW5]
              have := Blk.new ((w3.setCell ⟨b9, 1, none⟩ (.int .i64 b)).alloc (.cells #[.int .i64 (last.1 : Int), .int .i64 b] 53)) 3 #[.int .i64 b]
              simpa using this
            have ho5 : W5.ownsRow b0 3 1 (.slice A out.length c) out.length (intCells out) := by
              rw [hW5]
              exact ((ho3.kept hb1 (.inr (fun e => own_ne ho3 k9 (by decide) e.symm))).alloc _).alloc _
            have k95 : Blk W5 b9 53 #[.int .i64 ((a : Int) + 1), .int .i64 b] := by rw [hW5]; exact ((k9.set_ 1 (.int .i64 b)).alloc _).alloc _
            have kb5 : Blk W5 b0 53 #[.int .i64 (last.1 : Int), .int .i64 last.2] := by rw [hW5]; exact ((kb3.far (p := ⟨b9, 1, none⟩) (by simpa using n4) (.int .i64 b)).alloc _).alloc _
            have rd5 : Rd W5 g s2 := by rw [hW5]; exact ((Blk.far rd3 (p := ⟨b9, 1, none⟩) (by simpa using n2) (.int .i64 b)).alloc _).alloc _
            have hq5 : Kept b0 g g w W5 := by
              have hs3 := hq3.size
              have h0 := HB0.out
              rw [hW5]
              exact (hq3.trans (Kept.grown hb1 (by omega) (fun k e => by cases e; exact .inl (by omega)))).trans ((Kept.grown (World.grownBy_alloc _ _ none) (by simp; omega) (fun k e => by cases e)).trans (Kept.grown (World.grownBy_alloc _ _ none) (by simp; omega) (fun k e => by cases e)))
            rw [← hW5]
            clear hW5 hb1 ho3 k9 kb3 rd3 hq3 x0 x1 xf y0 y1 z1 zf lx lg lb0
            generalize w3.heap.size + 1 = bX at *
            have hrep := repeat_any bX (b : Int) (a + 1) W5 kX (by omega) (by omega)
            rw [show (((a + 1 : Nat)) : Int) = (a : Int) + 1 by omega] at hrep
            refine hrep.mono ?_
            rintro e W6 ⟨g2, hg2, rfl, kR, hbR⟩
            clear hrep
            have hgR := grown_of_below hbR none
            have ho6 := ho5.kept hgR (by cases (Value.slice A out.length c).ownBlock <;> simp)
            have k96 := k95.below hbR k95.lt
            have kb6 := kb5.below hbR kb5.lt
            have rd6 := Blk.below rd5 hbR (Blk.lt rd5)
            have hs5 := hq5.size
            have h0 := HB0.out
            have hq6 : Kept b0 g g w W6 := hq5.trans (Kept.of_below (hbR.mono (by omega)))
            have hnews : ∀ j u, (List.replicate (a + 1) (Value.int .i64 b))[j]? = some u → W6.cell? ((⟨g2, 0, none⟩ : Addr).add j) = some u := fun j u hj => by
              have h2 := kR.cell j
              have hj2 : j < a + 1 := by have := (List.getElem?_eq_some_iff.1 hj).1; simpa using this
              have e1 : (repRow (b : Int) (a + 1) (a + 1))[j]? = some (.int .i64 b) := by simp [repRow, hj2]
              have e2 : u = .int .i64 b := by simp [hj2] at hj; exact hj.symm
              rw [e1] at h2
              have ea : (⟨g2, 0, none⟩ : Addr).add j = ⟨g2, j, none⟩ := by unfold Addr.add; split <;> simp_all
              rw [ea, e2]
              exact h2
            have HNW := hide hnews
            have HO6 := hide ho6
            have hbs : b0 ≤ W6.heap.size := by have := hq6.size; omega
            have hsum : out.length + (a + 1) ≤ n := by omega
            clear hnews ho6 ho5 k95 kb5 rd5 hq5 hgR kR kX hbR hg2 hs5 h0
            go_wp2_with (at_builtin; go_must (refine wpList_append_lies _ rfl (.tmp 55) (.tmp 61) 24 rfl b0 3 i0 (.int .i64 0) 1 8 Tryd.underlying24 hi hz0 hz1 hzb rfl (by decide) (.slice A out.length c) out.length (intCells out) rfl HO6.out ⟨g2, 0, none⟩ (a + 1) (a + 1) (List.replicate (a + 1) (.int .i64 b)) rfl (by simp) HNW.out (by intro u hu; rw [List.eq_of_mem_replicate hu]; rfl) (by omega) (by unfold maxLen; omega) (by omega) hbs _ rfl ?_); intro g' cap' W7 hown1 hgrow1 _ _; have HO7 := hide hown1; have HG := hide hgrow1; have k97 := k96.grown hgrow1 (own_ne HO6.out k96 (by decide)); have kb7 := kb6.grown hgrow1 (own_ne HO6.out kb6 (by decide)); have rd7 := Blk.grown rd6 hgrow1 (own_ne HO6.out rd6 (by decide)); have x0 := k97.cell 0; have x1 := k97.cell 1; have y0 := kb7.cell 0; have y1 := kb7.cell 1; have yf0 := kb7.frozen 0; have yf1 := kb7.frozen 1; have lx := k97.lt; have lb0 := kb7.lt; clear hown1 hgrow1; simp only [List.getElem?_toArray, List.getElem?_cons_zero, List.getElem?_cons_succ] at x0 x1 y0 y1)
            have hs0 := grownBy_setCell W7 b0 0 (.int .i64 ((a : Int) + 1))
            have hs1 := grownBy_setCell (W7.setCell ⟨b0, 0, none⟩ (.int .i64 ((a : Int) + 1))) b0 1 (.int .i64 b)
            have kf := (kb7.set_ 0 (.int .i64 ((a : Int) + 1))).set_ 1 (.int .i64 b)
            have rf := (Blk.far rd7 (p := ⟨b0, 0, none⟩) (by simpa using Ne.symm (show b0 ≠ g by omega)) (.int .i64 ((a : Int) + 1))).far (p := ⟨b0, 1, none⟩) (by simpa using Ne.symm (show b0 ≠ g by omega)) (.int .i64 b)
            have hof := (HO7.out.kept hs0 (.inr (fun e => own_ne HO7.out kb7 (by decide) e.symm))).kept hs1 (.inr (fun e => own_ne (HO7.out.kept hs0 (.inr (fun e => own_ne HO7.out kb7 (by decide) e.symm))) (kb7.set_ 0 _) (by decide) e.symm))
            have hle1 := hq6.size
            have hle2 := HG.out.size
            have hqf : Kept b0 g g w ((W7.setCell ⟨b0, 0, none⟩ (.int .i64 ((a : Int) + 1))).setCell ⟨b0, 1, none⟩ (.int .i64 b)) :=
              (hq6.trans (Kept.grown HG.out hbs (fun k e => .inl (HO6.out.lt k e).1))).trans ((Kept.grown hs0 (by omega) (fun k e => by cases e; exact .inl (Nat.le_refl _))).trans (Kept.grown hs1 (by simp; omega) (fun k e => by cases e; exact .inl (Nat.le_refl _))))
            have h0 := HB0.out
            subst h0
            go_roundw
            case rel =>
              refine ⟨f, some ⟨g', 0, none⟩, cap', out ++ List.replicate (a + 1) (b : Int), (a + 1, (b : Int)), s2, by rw [List.length_append, List.length_replicate], by rw [List.length_append, List.length_replicate]; omega, by rw [List.length_append, List.length_replicate]; omega, by simp only; omega, HRES.out, ?_, kf, rf, by omega, hqf⟩
              have e1 : intCells (out ++ List.replicate (a + 1) (b : Int)) = intCells out ++ List.replicate (a + 1) (.int .i64 b) := by simp [intCells]
              rw [e1, List.length_append, List.length_replicate]
              exact hof
            case measure => simp [lenOf]; omega
    · have HR : Hid ((out, (l, bad)) = res) := hide (by rw [← hr]; simp [rFill, hlt])
      clear hr
      obtain rfl : n = out.length := by omega
      go_wp2
      go_ret
      exact ⟨_, rfl, by rw [← HR.out]; exact ho, by rw [← HR.out]; exact rd, hq⟩
end Go.Proofs.YtibndkkbmgbogaaDoor
