/- slices.Collect over the iterator of runs; the program's pack.Runs. Conditions: the slice reads as the list. -/
import Derived.RangeFuncBox
import Derived.RangeFuncLeaves
import Derived.RangeFuncWrites
import Derived.RangeFuncCalls
import Derived.RangeFuncNested
import Derived.Shelf.Abstract
import Derived.Shelf.RegionOpen
import Derived.WalkKit
import Derived.OwnWalkIn
import Derived.TacticsInMore
import Derived.LoopNIn
import Derived.LoopIn
import Derived.Outline
import Derived.Test.YtibndkkbmgbogaaDoorProg
import Derived.Test.YtibndkkbmgbogaaDoorBase
import Derived.Test.YtibndkkbmgbogaaDoorClone
import Derived.Test.YtibndkkbmgbogaaDoorAdd
import Derived.Test.YtibndkkbmgbogaaDoorBuild
import Derived.Test.YtibndkkbmgbogaaDoorPRuns
namespace Go.Proofs.YtibndkkbmgbogaaDoor
open Go Go.RowKit

attribute [local go_sem] Oper.semAt_some

def runCells (r : List (Int × Int)) : List Value := r.flatMap fun p => [.int .i64 p.1, .int .i64 p.2]
theorem runCells_snoc (r : List (Int × Int)) (x : Int × Int) : runCells (r ++ [x]) = runCells r ++ [.int .i64 x.1, .int .i64 x.2] := by simp [runCells]
theorem runCells_length (r : List (Int × Int)) : (runCells r).length = r.length * 2 := by
  induction r with
  | nil => rfl
  | cons x r ih =>
    have e : runCells (x :: r) = [.int .i64 x.1, .int .i64 x.2] ++ runCells r := rfl
    rw [e, List.length_append, ih, List.length_cons]
    simp
    omega
theorem infoRun : (Tryd.prog.info? 53).map (fun i => (i.zero, i.size, i.bytes)) = some (some (.agg #[.int .i64 0, .int .i64 0]), 2, 16) := by kernel_rfl

theorem KeepsFrom.of_cells {B : Nat} {W W' : World} {row : Option Nat} (hg : W.grownBy W' row) (hrow : ∀ j, row = some j → ∃ cs t fr, W.heap[j]? = some (.cells cs t fr)) : KeepsFrom B W W' :=
  ⟨hg.size, fun k o _ hk ho => (hg.block k (Array.getElem?_eq_some_iff.1 hk).1 (fun e => by
    obtain ⟨cs, t, fr, hc⟩ := hrow k e.symm
    rw [hk] at hc
    injection hc with hc
    subst hc
    cases ho)).trans hk⟩
theorem KRows.of_below {n₀ Bs : Nat} {W W' : World} (h : Below n₀ W W') (hB : Bs < n₀) : KRows n₀ Bs W W' := ⟨h, fun _ hv => (h.cell (p := ⟨Bs, 0, none⟩) hB).trans hv⟩

/-- Runs are handed back; what lay is as it was. -/
def OutR (w : World) (r : List (Int × Int)) (e : Ending) (w' : World) : Prop :=
  ∃ A n c, e = .returned (.slice A n c) ∧ Rds w' w'.heap.size 2 A n (runCells r) ∧ n ≤ c ∧ Below w.heap.size w w'

set_option maxRecDepth 100000 in
set_option maxHeartbeats 2000000 in
theorem appendSeq_any (A : Option Addr) (len cap Bs : Nat) (l : List Int) (w : World) (hr : Rds w w.heap.size 1 A len (intCells l)) (hBs : w.cell? ⟨Bs, 0, none⟩ = some (.slice A len cap)) (hBl : Bs < w.heap.size) (hlen : len ≤ 1000000) :
    Calls Tryd.prog 81 #[.slice none 0 0, .func (.func 82) #[] #[.pointer (some ⟨Bs, 0, none⟩)]] w (OutR w (runsOf l)) := by
  obtain ⟨i0, hi, hz0, hz1, hz2⟩ := info_parts infoRun
  have hro : Fence.wide.round = none := rfl
  have h1 : 1 ≤ 10 := by omega
  have hll := hr.int_len
  refine (callsIn_wide (n := 10)).1 ?_
  refine callsIn_of_wp_marks Tryd.func81 rfl trivial ?_ rfl
  simp only [Tryd.ntmps81, List.size_toArray, List.length_cons, List.length_nil, Nat.reduceAdd, Nat.reduceSub, Array.replicate_succ, Array.replicate_zero, List.push_toArray, List.append_toArray, List.nil_append, List.cons_append]
  gi_wp2
  obtain ⟨W0, hW0⟩ : ∃ W0 : World, W0 = w.alloc (.cells #[.slice none 0 0] 51) := ⟨_, rfl⟩
  have hb0 : Below w.heap.size w W0 := by rw [hW0]; exact (Below.refl _ _).alloc (Nat.le_refl _) _
  have k0 : Blk W0 w.heap.size 51 #[.slice none 0 0] := by rw [hW0]; exact Blk.new _ _ _
  have hs0 : w.heap.size + 1 ≤ W0.heap.size := by rw [hW0]; simp
  rw [← hW0]
  clear hW0
  refine wpIn_rangeFunc_ownH hro h1 (gf := 82) (lb := #[.pointer (some ⟨Bs, 0, none⟩)]) rfl trivial (enters_of Tryd.func82 (by kernel_rfl) rfl)
    (runs_stops 9 (by omega) l Bs w.heap.size A len cap w W0 hr hb0 (by omega) ((hb0.cell (p := ⟨Bs, 0, none⟩) hBl).trans hBs) (by omega)) KRows.trans (KRows.put (by omega)) (Below.refl _ _) (fun _ => rfl)
    (fun pre W => ∃ vs, W.ownsRow W0.heap.size 53 2 vs pre.length (runCells pre) ∧ Blk W w.heap.size 51 #[vs] ∧ Below w.heap.size w W ∧ W0.heap.size ≤ W.heap.size)
    (fun _ _ _ => False)
    (fun s X Y row hs hg hrw => by
      obtain ⟨vs, q1, q2, q3, q4⟩ := hs
      refine ⟨vs, q1.kept hg ?_, q2.grown hg (fun e => by have := (hrw _ e.symm).1; omega), q3.grown hg q3.size (fun k e => by have := (hrw k e).1; omega), Nat.le_trans q4 hg.size⟩
      cases hv : vs.ownBlock with
      | none => exact .inl rfl
      | some k =>
        right
        intro e
        obtain ⟨cs, t, fr, hc⟩ := own_cells q1 hv
        obtain ⟨_, o, ho', hoc⟩ := hrw k e.symm
        rw [hc] at ho'
        injection ho' with ho'
        subst ho'
        cases hoc)
    (fun _ _ _ _ _ hs _ _ => hs)
    ⟨_, World.ownsRow_nil _ _ _ _, k0, hb0, Nat.le_refl _⟩
    (fun x a' W => ∃ b, W0.heap.size ≤ b ∧ Blk W b 53 #[.int .i64 x.1, .int .i64 x.2] ∧ a' = { tmps := #[.slice none 0 0, .func (.func 82) #[] #[.pointer (some ⟨Bs, 0, none⟩)], .pointer (some ⟨w.heap.size, 0, none⟩), undef, .slice none 0 0, .pointer (some ⟨b, 0, none⟩), .func (.func 82) #[] #[.pointer (some ⟨Bs, 0, none⟩)], runV x, undef, undef, undef, undef, undef], defers := [] })
    (fun x a' s X Y row hs hg hrw => by
      obtain ⟨b, q1, q2, q3⟩ := hs
      refine ⟨b, q1, q2.grown hg (fun e => ?_), q3⟩
      obtain ⟨_, o, ho', hoc⟩ := hrw b e.symm
      unfold Blk at q2
      rw [q2] at ho'
      injection ho' with ho'
      subst ho'
      cases hoc)
    ?assign ?body ?done ?stop
  case assign =>
    rintro lp pre ⟨x1, x2⟩ W K ⟨vs, q1, q2, q3, q4⟩ hK
    dsimp only [runEnc, runV]
    gi_wp2
    have hg := World.grownBy_alloc W (.cells #[.int .i64 x1, .int .i64 x2] 53) none
    exact hK _ _ (KeepsFrom.of_grownBy hg (by simp)) ⟨(Below.refl _ _).alloc q3.size _, fun v hv => (World.cell?_alloc_lt _ _ _ (World.block_lt_of_cell? _ _ hv)).trans hv⟩
      ⟨vs, q1.alloc _, q2.alloc _, q3.alloc q3.size _, by simp; omega⟩ ⟨W.heap.size, q4, Blk.new _ _ _, rfl⟩
  case body =>
    rintro lp pre ⟨x1, x2⟩ a' W hlp hrec ⟨vs, q1, q2, q3, q4⟩ ⟨b, hb, kb, rfl⟩ hlt
    dsimp only [runV]
    have c0 := q2.cell 0
    have d0 := kb.cell 0
    have d1 := kb.cell 1
    have cl := q2.lt
    have dl := kb.lt
    simp only [List.getElem?_toArray, List.getElem?_cons_zero, List.getElem?_cons_succ] at c0 d0 d1
    have hne := own_ne (q1.alloc (.cells #[.int .i64 x1, .int .i64 x2] 53)) (q2.alloc _) (by decide)
    have HN := hide (show ∀ j' u, [Value.int .i64 x1, Value.int .i64 x2][j']? = some u → (W.alloc (.cells #[.int .i64 x1, .int .i64 x2] 53)).cell? ((⟨W.heap.size, 0, none⟩ : Addr).add j') = some u from World.news_of_block (cs := #[.int .i64 x1, .int .i64 x2]) (t := 53) (fr := (0, 0)) (heap_alloc_new W _))
    have HQ := hide q1
    have hltl : pre.length < l.length := hlt
    clear q1 hlt
    gi_wp2_with (gi_at_builtin; go_must (refine wpListIn_append_own _ rfl (.tmp 8) (.tmp 10) 51 rfl W0.heap.size 53 i0 _ 2 16 Tryd.underlying51 hi hz0 hz1 hz2 rfl (by decide) vs pre.length (runCells pre) rfl (HQ.out.alloc _) ⟨W.heap.size, 0, none⟩ 1 1 [.int .i64 x1, .int .i64 x2] rfl rfl HN.out (by intro u hu; simp at hu; rcases hu with rfl | rfl <;> rfl) (by unfold maxLen; omega) (by omega) (by simp; omega) ?_); intro v' w1 hown1 hgrow1 _; obtain ⟨g', cap', rfl⟩ := own_some hown1 (by omega); have HO := hide hown1; have HG := hide hgrow1; have k1 := (q2.alloc (.cells #[.int .i64 x1, .int .i64 x2] 53)).grown hgrow1 hne; have e0 := k1.cell 0; have ef := k1.frozen 0; have el := k1.lt; clear hown1 hgrow1; simp only [List.getElem?_toArray, List.getElem?_cons_zero] at e0)
    have hga := World.grownBy_alloc W (.cells #[.int .i64 x1, .int .i64 x2] 53) none
    have hgs := grownBy_setCell w1 w.heap.size 0 (.slice (some ⟨g', 0, none⟩) (pre.length + 1) cap')
    have hbW : Below w.heap.size W (w1.setCell ⟨w.heap.size, 0, none⟩ (.slice (some ⟨g', 0, none⟩) (pre.length + 1) cap')) :=
      (((Below.refl _ _).alloc q3.size _).grown HG.out (by simp; have := q3.size; omega) (fun k e => by have := (HQ.out.lt k e).1; omega)).grown hgs (by have := HG.out.size; simp at this; have := q3.size; omega) (fun k e => by cases e; exact Nat.le_refl _)
    refine ⟨(KeepsFrom.of_cells hga (by simp)).trans ((KeepsFrom.of_cells HG.out (fun j e => own_cells (HQ.out.alloc _) e)).trans (KeepsFrom.of_cells hgs (fun j e => by cases e; exact ⟨_, _, _, k1⟩))),
      KRows.of_below hbW hBl, .slice (some ⟨g', 0, none⟩) (pre.length + 1) cap', ?_, k1.set_ 0 _, q3.trans hbW, by have := HG.out.size; simp at this ⊢; omega⟩
    rw [List.length_append, runCells_snoc]
    exact HO.out.kept hgs (.inr (fun e => own_ne HO.out k1 (by decide) e.symm))
  case done =>
    rintro D ys W hD rfl ⟨vs, q1, q2, q3, q4⟩ hK
    have c0 := q2.cell 0
    have cl := q2.lt
    simp only [List.getElem?_toArray, List.getElem?_cons_zero] at c0
    have hrl := runsOf_len l
    gi_wp2
    refine ⟨by simp, .inl ⟨_, _, rfl, run_takeDeferred hK, ?_⟩⟩
    refine ⟨vs, by simp [results, Tryd.results81, go_sem], ?_⟩
    have HG3 := grownBy_putObj' W D (.deferred none)
    have q5 := q1.kept HG3 (by
      cases hv : vs.ownBlock with
      | none => exact .inl rfl
      | some k =>
        right
        intro e
        injection e with e
        obtain ⟨cs, t, fr, hc⟩ := own_cells q1 hv
        rw [e, hK] at hc
        cases hc)
    obtain ⟨A', c', e1, e2, e3⟩ := own_rds q5 (Nat.le_refl _) (by omega)
    refine ⟨A', _, c', by rw [e1], e3, e2, q3.grown HG3 q3.size (fun k e => by cases e; omega)⟩
  case stop =>
    rintro D c pre W _ _ h _
    exact h.elim

theorem collect_any (A : Option Addr) (len cap Bs : Nat) (l : List Int) (w : World) (hr : Rds w w.heap.size 1 A len (intCells l)) (hBs : w.cell? ⟨Bs, 0, none⟩ = some (.slice A len cap)) (hBl : Bs < w.heap.size) (hlen : len ≤ 1000000) :
    Calls Tryd.prog 64 #[.func (.func 82) #[] #[.pointer (some ⟨Bs, 0, none⟩)]] w (OutR w (runsOf l)) := by
  go_enter Tryd.func64, Tryd.ntmps64
  go_wp2_with fail
  refine (appendSeq_any A len cap Bs l w hr hBs hBl hlen).mono ?_
  rintro e w1 ⟨A', n', c', rfl, h1, h2, h3⟩
  go_wp2
  go_ret
  exact ⟨A', n', c', rfl, h1, h2, h3⟩

theorem packRunsFn_any (A : Option Addr) (len cap : Nat) (l : List Int) (w : World) (hr : Rds w w.heap.size 1 A len (intCells l)) (hlen : len ≤ 1000000) :
    Calls Tryd.prog 37 #[.slice A len cap] w (OutR w (runsOf l)) := by
  go_enter Tryd.func37, Tryd.ntmps37
  go_wp2_with fail
  refine ((callsIn_wide (n := 10)).1 (runs_in Fence.wide 10 trivial rfl A len cap w)).mono ?_
  rintro e w1 ⟨rfl, rfl⟩
  go_wp2_with fail
  have hb := (Below.refl w.heap.size w).alloc (Nat.le_refl _) (.cells #[.slice A len cap] 24)
  refine (collect_any A len cap w.heap.size l _ (hr.alloc (Nat.le_refl _) _) (cell_new_c w (.slice A len cap) 24).1 (by simp) hlen).mono ?_
  rintro e w2 ⟨A', n', c', rfl, h1, h2, h3⟩
  go_wp2
  go_ret
  exact ⟨A', n', c', rfl, h1, h2, hb.trans (h3.mono hb.size)⟩
end Go.Proofs.YtibndkkbmgbogaaDoor
