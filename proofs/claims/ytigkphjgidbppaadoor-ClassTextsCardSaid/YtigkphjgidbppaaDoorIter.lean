/- The program's class.classes: the iterator over a set's classes, for a body that knows what each class is like; class.Classes. Conditions: none. -/
import Derived.RangeFuncBox
import Derived.RangeFuncLeaves
import Derived.RangeFuncWrites
import Derived.RangeFuncCalls
import Derived.RangeFuncNested
import Derived.Shelf.RegionOpen
import Derived.Shelf.Abstract
import Derived.WalkKit
import Derived.OwnWalkIn
import Derived.TacticsInMore
import Derived.LoopNIn
import Derived.LoopIn
import Derived.Sort.CutIn
import Derived.WalkMore
import Derived.ControlIn
import Derived.BigQuiet
import Derived.Deep.QuietTactic
import Derived.Outline
import Derived.Test.YtigkphjgidbppaaDoorProg
import Derived.Test.YtigkphjgidbppaaDoorSet
namespace Go.Proofs.YtigkphjgidbppaaDoor
open Go Go.RowKit

/-- the classes from k on -/
def clsFrom (set : Int) (k : Nat) : List Int := (((List.range 32).drop k).filter fun c => hasB set (c : Nat)).map fun c => ((c : Nat) : Int)
theorem cls_0 (set : Int) : clsFrom set 0 = classesB set := rfl
theorem cls_32 (set : Int) : clsFrom set 32 = [] := rfl
theorem cls_step (set : Int) {k : Nat} (h : k < 32) : clsFrom set k = (if hasB set k then [(k : Int)] else []) ++ clsFrom set (k + 1) := by
  unfold clsFrom
  rw [drop_cons (show k < (List.range 32).length by simpa using h), List.getElem_range, List.filter_cons]
  split <;> rfl
theorem cls_len (set : Int) : (classesB set).length ≤ 32 := by
  unfold classesB
  rw [List.length_map]
  have := List.length_filter_le (fun c => hasB set (c : Nat)) (List.range 32)
  simpa using this

/-- what lay below n₀ lies as it lay, and the box Bs holds what it held -/
def KRows (n₀ Bs : Nat) (W W' : World) : Prop := Below n₀ W W' ∧ ∀ v, W.cell? ⟨Bs, 0, none⟩ = some v → W'.cell? ⟨Bs, 0, none⟩ = some v
theorem KRows.refl (n₀ Bs : Nat) (W : World) : KRows n₀ Bs W W := ⟨Below.refl _ _, fun _ h => h⟩
theorem KRows.trans {n₀ Bs : Nat} {A B C : World} (h : KRows n₀ Bs A B) (k : KRows n₀ Bs B C) : KRows n₀ Bs A C := ⟨h.1.trans k.1, fun v e => k.2 v (h.2 v e)⟩

def intEnc (x : Int) : Array Value := #[.int .i64 x]

set_option maxHeartbeats 1000000 in
theorem classes_in (F : Fence) (n : Nat) (hf : F.fn 28) (hro : F.round = none) (set : Int) (w : World) :
    CallsIn F n Tryd.prog 28 #[.int .i64 set] w fun e w' => e = .returned (.func (.func 38) #[] #[.pointer (some ⟨w.heap.size, 0, none⟩)]) ∧ w' = w.alloc (.cells #[.int .i64 set] 2) := by
  refine callsIn_of_wp Tryd.func28 rfl hf ?_ hro
  simp only [Tryd.ntmps28, List.size_toArray, List.length_cons, List.length_nil, Nat.reduceAdd, Nat.reduceSub, Array.replicate_succ, Array.replicate_zero, List.push_toArray, List.append_toArray, List.nil_append, List.cons_append]
  gi_wp2
  go_ret
  exact ⟨rfl, rfl⟩

attribute [local go_sem] Oper.semAt_some

set_option maxRecDepth 100000 in
set_option maxHeartbeats 2000000 in
theorem classes1_in (P : Int → Prop) (n : Nat) (hn : 1 ≤ n) (set : Int) (hP : ∀ c : Int, hasB set c = true → P c) (lp Bs n₀ : Nat) (W : World)
    (J Jx : List {x : Int // P x} → World → Prop)
    (hY : ∀ pre x W, J pre W → pre.length < 32 → YieldAt Fence.wide (n - 1) Tryd.prog lp (intEnc x.1) W fun e W' =>
      (e = .returned (.bool true) ∧ J (pre ++ [x]) W' ∧ KRows n₀ Bs W W') ∨ (e = .returned (.bool false) ∧ Jx (pre ++ [x]) W'))
    (hBs : W.cell? ⟨Bs, 0, none⟩ = some (.int .i64 set)) (h0 : J [] W) :
    CallsIn Fence.wide n Tryd.prog 38 #[.func (.yield lp) #[] #[], .pointer (some ⟨Bs, 0, none⟩)] W fun e W' => (∃ v, e = .returned v) ∧
      ((∃ ys, ys.map Subtype.val = classesB set ∧ J ys W') ∨ (∃ pre, True ∧ Jx pre W')) := by
  have hro : Fence.wide.round = none := rfl
  refine callsIn_of_wp Tryd.func38 rfl trivial ?_ hro
  simp only [Tryd.ntmps38, List.size_toArray, List.length_cons, List.length_nil, Nat.reduceAdd, Nat.reduceSub, Array.replicate_succ, Array.replicate_zero, List.push_toArray, List.append_toArray, List.nil_append, List.cons_append]
  refine wpIn_wide.2 (wp_scope_straight (wpIn_wide (n := n).1 ?_))
  gi_wp2
  refine wpIn_label ?_
  gi_wp2
  gi_loopw [4] (fun i wr => ∃ (k : Nat) (pre : List {x : Int // P x}), k ≤ 32 ∧ i = .int .i64 k ∧ pre.map Subtype.val ++ clsFrom set k = classesB set ∧ J pre wr ∧ KRows n₀ Bs W wr) (fun i _ => 32 - (intOf i).toNat)
  case atStart => exact ⟨0, [], by omega, rfl, rfl, h0, KRows.refl _ _ _⟩
  case round =>
    obtain ⟨k, pre, hk, rfl, hp, hJ, hW⟩ := hrel
    have hBs' : wr.cell? ⟨Bs, 0, none⟩ = some (.int .i64 set) := hW.2 _ hBs
    have HP := hide hp
    clear hp
    by_cases hlt : k < 32
    · obtain ⟨wo, rfl⟩ : ∃ wo : World, wo = wr := ⟨_, rfl⟩
      have HST := hide (cls_step set hlt)
      have hh := (callsIn_wide (n := n - 1)).2 (has_any set (k : Int) wo)
      cases hb : hasB set (k : Int) with
      | true =>
        rw [hb] at hh
        have hPk := hP _ hb
        have hpl : pre.length < 32 := by
          have h1 := cls_len set
          rw [← HP.out, HST.out, hb] at h1
          simp at h1
          omega
        have HS := hide (show clsFrom set k = (k : Int) :: clsFrom set (k + 1) by rw [HST.out, hb]; rfl)
        clear hb
        obtain ⟨fn, tmps, assign, body, hy, hRy⟩ := hY pre ⟨(k : Int), hPk⟩ wo hJ hpl
        dsimp only [intEnc] at hy
        gi_wp2_with fail
        refine ⟨trivial, hh.mono ?_⟩
        rintro e _ ⟨rfl, rfl⟩
        gi_wp2
        refine hRy.mono ?_
        rintro e W3 (⟨rfl, hJ3, hk3⟩ | ⟨rfl, hJx3⟩)
        · gi_wp2
          go_roundw
          case rel => exact ⟨k + 1, _, by omega, by simp, by rw [List.map_append, List.append_assoc]; exact Eq.trans (congrArg (fun z => pre.map Subtype.val ++ z) HS.out.symm) HP.out, hJ3, hW.trans hk3⟩
          case measure => simp [intOf]; omega
        · gi_wp2
          simp only [Exit.noGoto_normal]
          go_end0
          exact ⟨⟨_, rfl⟩, .inr ⟨_, trivial, hJx3⟩⟩
      | false =>
        rw [hb] at hh
        have HS := hide (show clsFrom set k = clsFrom set (k + 1) by rw [HST.out, hb]; rfl)
        clear hb
        gi_wp2_with fail
        refine ⟨trivial, hh.mono ?_⟩
        rintro e _ ⟨rfl, rfl⟩
        gi_wp2
        refine ⟨fun f h => (by cases h), ?_⟩
        gi_wp2
        go_roundw
        case rel => exact ⟨k + 1, pre, by omega, by simp, by rw [← HS.out]; exact HP.out, hJ, hW⟩
        case measure => simp [intOf]; omega
    · obtain rfl : k = 32 := by omega
      gi_wp2
      simp only [Exit.noGoto_normal]
      go_end0
      refine ⟨⟨_, rfl⟩, .inl ⟨pre, ?_, hJ⟩⟩
      rw [← HP.out, cls_32, List.append_nil]

theorem classes_stops (P : Int → Prop) (n : Nat) (hn : 1 ≤ n) (set : Int) (hP : ∀ c : Int, hasB set c = true → P c) (Bs n₀ : Nat) (w : World) (_ : n₀ ≤ w.heap.size)
    (hBs : w.cell? ⟨Bs, 0, none⟩ = some (.int .i64 set)) (hBl : Bs < w.heap.size) :
    SeqStopsK (α := {x : Int // P x}) Fence.wide n Tryd.prog 38 #[.pointer (some ⟨Bs, 0, none⟩)] (fun x => intEnc x.1) (KRows n₀ Bs) (fun ys => ys.map Subtype.val = classesB set) (fun _ => True) 32 w :=
  fun lp J Jx W hW _ _ hY h0 => classes1_in P n hn set hP lp Bs n₀ W J Jx hY ((hW.cell (p := ⟨Bs, 0, none⟩) hBl).trans hBs) h0

theorem KRows.put {n₀ Bs : Nat} {w : World} (hn : n₀ ≤ w.heap.size) (W : World) (l : Nat) (o o' : Obj) (hl : w.heap.size ≤ l) (h : W.heap[l]? = some o) (hc : o.isCells = false) (hw : o.isWalk = false) : KRows n₀ Bs W (W.putObj l o') :=
  ⟨belowK_b hn W l o o' hl h hc hw, fun v e => cell_kept e (grownBy_putObj' W l o') (fun r hr => by cases hr; exact ⟨o, h, hc⟩)⟩
theorem KeepsFrom.of_cells {B : Nat} {W W' : World} {row : Option Nat} (hg : W.grownBy W' row) (hrow : ∀ j, row = some j → ∃ cs t fr, W.heap[j]? = some (.cells cs t fr)) : KeepsFrom B W W' :=
  ⟨hg.size, fun k o _ hk ho => (hg.block k (Array.getElem?_eq_some_iff.1 hk).1 (fun e => by
    obtain ⟨cs, t, fr, hc⟩ := hrow k e.symm
    rw [hk] at hc
    injection hc with hc
    subst hc
    cases ho)).trans hk⟩
theorem info3 : (Tryd.prog.info? 3).map (fun i => (i.zero, i.size, i.bytes)) = some (some (.int .i64 0), 1, 8) := by kernel_rfl
theorem info_parts {P : Program} {t : TypeId} {z : Option Value} {s b : Nat} (h : (P.info? t).map (fun i => (i.zero, i.size, i.bytes)) = some (z, s, b)) : ∃ i, P.info? t = some i ∧ i.zero = z ∧ i.size = s ∧ i.bytes = b := by
  cases hi : P.info? t with
  | none => rw [hi] at h; cases h
  | some i =>
    rw [hi] at h
    simp only [Option.map_some, Option.some.injEq, Prod.mk.injEq] at h
    exact ⟨i, rfl, h.1, h.2.1, h.2.2⟩
/-- Numbers are handed back, in memory of one's own; what lay is as it was. -/
def OutI (w : World) (l : List Int) (e : Ending) (w' : World) : Prop :=
  ∃ A c, e = .returned (.slice A l.length c) ∧ l.length ≤ c ∧ Rds w' w'.heap.size 1 A l.length (intCells l) ∧ Below w.heap.size w w'

def valsOf {P : Int → Prop} (l : List {x : Int // P x}) : List Int := l.map Subtype.val
theorem valsOf_snoc {P : Int → Prop} (l : List {x : Int // P x}) (x : {x : Int // P x}) : valsOf (l ++ [x]) = valsOf l ++ [x.1] := by simp [valsOf]
theorem valsOf_length {P : Int → Prop} (l : List {x : Int // P x}) : (valsOf l).length = l.length := by simp [valsOf]

set_option maxRecDepth 100000 in
set_option maxHeartbeats 2000000 in
theorem Classes_any (set : Int) (w : World) : Calls Tryd.prog 14 #[.int .i64 set] w (OutI w (classesB set)) := by
  obtain ⟨i0, hi, hz0, hz1, hz2⟩ := info_parts info3
  have hro : Fence.wide.round = none := rfl
  have h1 : 1 ≤ 10 := by omega
  have hrl := cls_len set
  have hcls := fun Bs n₀ w a b c => classes_stops (fun _ => True) 9 (by omega) set (fun _ _ => trivial) Bs n₀ w a b c
  generalize classesB set = L at *
  refine (callsIn_wide (n := 10)).1 ?_
  refine callsIn_of_wp_marks Tryd.func14 rfl trivial ?_ rfl
  simp only [Tryd.ntmps14, List.size_toArray, List.length_cons, List.length_nil, Nat.reduceAdd, Nat.reduceSub, Array.replicate_succ, Array.replicate_zero, List.push_toArray, List.append_toArray, List.nil_append, List.cons_append]
  gi_wp2_with fail
  obtain ⟨W0, hW0⟩ : ∃ W0 : World, W0 = w.alloc (.cells #[.slice none 0 0] 25) := ⟨_, rfl⟩
  have hb0 : Below w.heap.size w W0 := by rw [hW0]; exact (Below.refl _ _).alloc (Nat.le_refl _) _
  have k0 : Blk W0 w.heap.size 25 #[.slice none 0 0] := by rw [hW0]; exact Blk.new _ _ _
  have hs0 : w.heap.size + 1 ≤ W0.heap.size := by rw [hW0]; simp
  rw [← hW0]
  clear hW0
  refine ⟨trivial, (classes_in Fence.wide _ trivial rfl set W0).mono ?_⟩
  rintro e _ ⟨rfl, rfl⟩
  obtain ⟨W1, hW1⟩ : ∃ W1 : World, W1 = W0.alloc (.cells #[.int .i64 set] 2) := ⟨_, rfl⟩
  obtain ⟨bs, hbs⟩ : ∃ bs : Nat, bs = W0.heap.size := ⟨_, rfl⟩
  have hb1 : Below w.heap.size w W1 := by rw [hW1]; exact hb0.alloc hb0.size _
  have k1 : Blk W1 w.heap.size 25 #[.slice none 0 0] := by rw [hW1]; exact k0.alloc _
  have ks : Blk W1 bs 2 #[.int .i64 set] := by rw [hW1, hbs]; exact Blk.new _ _ _
  have hs1 : bs + 1 ≤ W1.heap.size := by rw [hW1, hbs]; simp
  have hcs : W1.cell? ⟨bs, 0, none⟩ = some (.int .i64 set) := by have := ks.cell 0; simpa using this
  have hwb : w.heap.size < bs := by omega
  rw [← hW1, ← hbs]
  clear hW1 hbs hb0 k0 hs0 ks
  gi_wp2
  refine wpIn_rangeFunc_ownH hro h1 (gf := 38) (lb := #[.pointer (some ⟨bs, 0, none⟩)]) rfl trivial (enters_of Tryd.func38 (by kernel_rfl) rfl)
    (hcls bs w.heap.size W1 hb1.size hcs (by omega)) KRows.trans (KRows.put hb1.size) (Below.refl _ _) (fun _ => rfl)
    (fun pre W => ∃ vs, W.ownsRow W1.heap.size 3 1 vs pre.length (intCells (valsOf pre)) ∧ Blk W w.heap.size 25 #[vs] ∧ Below w.heap.size w W ∧ W1.heap.size ≤ W.heap.size)
    (fun _ _ _ => False)
    (fun s X Y row hs hg hrw => by
      obtain ⟨vs, q1, q2, q3, q4⟩ := hs
      refine ⟨vs, q1.kept hg ?_, q2.grown hg (fun e => by have := (hrw _ e.symm).1; omega), q3.grown hg q3.size (fun k e => by have := (hrw k e).1; omega), Nat.le_trans q4 hg.size⟩
      cases hv : vs.ownBlock with
      | none => exact .inl rfl
      | some k =>
        right
        intro e
        obtain ⟨cs, t, fr, hc⟩ := own_cells q1 hv
        obtain ⟨_, o, ho', hoc⟩ := hrw k e.symm
        rw [hc] at ho'
        injection ho' with ho'
        subst ho'
        cases hoc)
    (fun _ _ _ _ _ hs _ _ => hs)
    ⟨_, World.ownsRow_nil _ _ _ _, k1, hb1, Nat.le_refl _⟩
    (fun x a' W => a' = { tmps := #[.int .i64 set, undef, .slice none 0 0, .pointer (some ⟨w.heap.size, 0, none⟩), .int .i64 x.1, .int .i64 set, .func (.func 38) #[] #[.pointer (some ⟨bs, 0, none⟩)], .int .i64 x.1, undef, undef, undef, undef, undef], defers := [] })
    (fun x a' s X Y row hs hg hrw => hs)
    ?assign ?body ?done ?stop
  case assign =>
    rintro lp pre ⟨x, hx⟩ W K hs hK
    dsimp only [intEnc]
    gi_wp2
    exact hK _ _ (KeepsFrom.of_grownBy (row := none) ⟨rfl, rfl, rfl, Nat.le_refl _, fun _ _ _ => rfl⟩ (by simp)) (KRows.refl _ _ _) hs rfl
  case body =>
    rintro lp pre ⟨x, hx⟩ a' W hlp hrec ⟨vs, q1, q2, q3, q4⟩ rfl hlt
    dsimp only
    have c0 := q2.cell 0
    have cl := q2.lt
    simp only [List.getElem?_toArray, List.getElem?_cons_zero] at c0
    have hne := own_ne (q1.alloc (.cells #[.int .i64 x] 3)) (q2.alloc (.cells #[.int .i64 x] 3)) (by decide)
    have HQ := hide q1
    have hltl : pre.length < 32 := hlt
    clear q1 hlt hcls hcs hrl
    gi_wp2_with (gi_at_builtin; (refine wpListIn_append_own _ rfl (.tmp 8) (.tmp 10) 25 rfl W1.heap.size 3 i0 (.int .i64 0) 1 8 Tryd.underlying25 hi hz0 hz1 hz2 rfl (by decide) vs pre.length (intCells (valsOf pre)) rfl (HQ.out.alloc _) ⟨W.heap.size, 0, none⟩ 1 1 [.int .i64 x] rfl rfl (cell_one_new _ _ _) (by simp [Value.oneCell']) (by unfold maxLen; omega) (by omega) (by simp; omega) ?_); intro v' w1 hown1 hgrow1 _; obtain ⟨g', cap', rfl⟩ := own_some hown1 (by omega); have HO := hide hown1; have HG := hide hgrow1; have k1 := (q2.alloc (.cells #[.int .i64 x] 3)).grown hgrow1 hne; have e0 := k1.cell 0; have ef := k1.frozen 0; have el := k1.lt; clear hown1 hgrow1; simp only [List.getElem?_toArray, List.getElem?_cons_zero] at e0)
    have hga := World.grownBy_alloc W (.cells #[.int .i64 x] 3) none
    have hgs := grownBy_setCell w1 w.heap.size 0 (.slice (some ⟨g', 0, none⟩) (pre.length + 1) cap')
    have hbW : Below w.heap.size W (w1.setCell ⟨w.heap.size, 0, none⟩ (.slice (some ⟨g', 0, none⟩) (pre.length + 1) cap')) :=
      (((Below.refl _ _).alloc q3.size _).grown HG.out (by simp; have := q3.size; omega) (fun k e => by have := (HQ.out.lt k e).1; omega)).grown hgs (by have := HG.out.size; simp at this; have := q3.size; omega) (fun k e => by cases e; exact Nat.le_refl _)
    have hbox : ∀ v, W.cell? ⟨bs, 0, none⟩ = some v → (w1.setCell ⟨w.heap.size, 0, none⟩ (.slice (some ⟨g', 0, none⟩) (pre.length + 1) cap')).cell? ⟨bs, 0, none⟩ = some v := fun v hv =>
      hgs.cell (HG.out.cell (hga.cell hv (by simp)) (fun e => by have := (HQ.out.lt bs e.symm).1; omega)) (fun e => by injection e with e; simp only at e; omega)
    refine ⟨(KeepsFrom.of_cells hga (by simp)).trans ((KeepsFrom.of_cells HG.out (fun j e => own_cells (HQ.out.alloc (.cells #[.int .i64 x] 3)) e)).trans (KeepsFrom.of_cells hgs (fun j e => by cases e; exact ⟨_, _, _, k1⟩))),
      ⟨hbW, hbox⟩, .slice (some ⟨g', 0, none⟩) (pre.length + 1) cap', ?_, k1.set_ 0 _, q3.trans hbW, by have := HG.out.size; simp at this ⊢; omega⟩
    rw [List.length_append, valsOf_snoc]
    have h2 := HO.out.kept hgs (.inr (fun e => own_ne HO.out k1 (by decide) e.symm))
    simpa [intCells] using h2
  case done =>
    rintro D ys W hD hys ⟨vs, q1, q2, q3, q4⟩ hK
    have c0 := q2.cell 0
    have cl := q2.lt
    simp only [List.getElem?_toArray, List.getElem?_cons_zero] at c0
    have hyl : ys.length = L.length := by rw [← hys, List.length_map]
    rw [show valsOf ys = L from hys, hyl] at q1
    gi_wp2
    refine ⟨by simp, .inl ⟨_, _, rfl, run_takeDeferred hK, ?_⟩⟩
    refine ⟨vs, by simp [results, Tryd.results14, go_sem], ?_⟩
    have HG3 := grownBy_putObj' W D (.deferred none)
    have q5 := q1.kept HG3 (by
      cases hv : vs.ownBlock with
      | none => exact .inl rfl
      | some k =>
        right
        intro e
        injection e with e
        obtain ⟨cs, t, fr, hc⟩ := own_cells q1 hv
        rw [e, hK] at hc
        cases hc)
    obtain ⟨A', c', e1, e2, e3⟩ := own_rds q5 (Nat.le_refl _) (by omega)
    exact ⟨A', c', by rw [e1], e2, e3, q3.grown HG3 q3.size (fun k e => by cases e; omega)⟩
  case stop =>
    rintro D c pre W _ _ h _
    exact h.elim
end Go.Proofs.YtigkphjgidbppaaDoor
