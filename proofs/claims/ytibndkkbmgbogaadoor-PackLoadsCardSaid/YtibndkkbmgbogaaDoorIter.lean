/- The program's trie.rows: the iterator over a map's rows, each with the ranges that have numbers in it, and the function that makes it. Conditions: the slice reads as the list, and lies within its capacity. -/
import Derived.RangeFuncBox
import Derived.RangeFuncLeaves
import Derived.RangeFuncWrites
import Derived.Shelf.Abstract
import Derived.WalkKit
import Derived.OwnWalkIn
import Derived.TacticsInMore
import Derived.LoopNIn
import Derived.LoopIn
import Derived.Sort.CutIn
import Derived.WalkMore
import Derived.ControlIn
import Derived.Test.YtibndkkbmgbogaaDoorProg
import Derived.Test.YtibndkkbmgbogaaDoorBase
namespace Go.Proofs.YtibndkkbmgbogaaDoor
open Go Go.RowKit

/-- from k on, past the ranges that end ahead of f -/
def skipTo (l : List Rg) (f : Int) (k : Nat) : Nat := k + ((l.drop k).takeWhile (fun x => decide (x.to < f))).length
/-- from k on, past the ranges that begin at g at most -/
def endTo (l : List Rg) (g : Int) (k : Nat) : Nat := k + ((l.drop k).takeWhile (fun x => decide (x.fr ≤ g))).length

theorem tw_step {p : Rg → Bool} {l : List Rg} {k : Nat} (hk : k < l.length) (h : p l[k] = true) : k + ((l.drop k).takeWhile p).length = (k + 1) + ((l.drop (k + 1)).takeWhile p).length := by
  rw [List.drop_eq_getElem_cons hk, List.takeWhile_cons, if_pos h, List.length_cons]; omega
theorem tw_stop {p : Rg → Bool} {l : List Rg} {k : Nat} (hk : k < l.length) (h : p l[k] = false) : k + ((l.drop k).takeWhile p).length = k := by
  rw [List.drop_eq_getElem_cons hk, List.takeWhile_cons, if_neg (by simp [h])]; simp
theorem tw_end {p : Rg → Bool} (l : List Rg) : l.length + ((l.drop l.length).takeWhile p).length = l.length := by simp
theorem tw_le {p : Rg → Bool} (l : List Rg) {k : Nat} (hk : k ≤ l.length) : k + ((l.drop k).takeWhile p).length ≤ l.length := by
  have : ((l.drop k).takeWhile p).length ≤ (l.drop k).length := (List.takeWhile_sublist p).length_le
  rw [List.length_drop] at this
  omega
theorem skipTo_ge (l : List Rg) (f : Int) (k : Nat) : k ≤ skipTo l f k := by unfold skipTo; omega
theorem endTo_ge (l : List Rg) (f : Int) (k : Nat) : k ≤ endTo l f k := by unfold endTo; omega

/-- where row i's ranges begin -/
def atRow (l : List Rg) : Nat → Nat
  | 0 => skipTo l 0 0
  | i + 1 => skipTo l (((i + 1 : Nat) : Int) * 256) (atRow l i)
/-- where the walk for row i begins -/
def fromRow (l : List Rg) : Nat → Nat
  | 0 => 0
  | i + 1 => atRow l i
theorem atRow_eq (l : List Rg) (i : Nat) : atRow l i = skipTo l ((i : Int) * 256) (fromRow l i) := by cases i <;> simp [atRow, fromRow]
def endRow (l : List Rg) (i : Nat) : Nat := endTo l ((i : Int) * 256 + 255) (atRow l i)
theorem atRow_le (l : List Rg) : ∀ i, atRow l i ≤ l.length
  | 0 => tw_le l (Nat.zero_le _)
  | i + 1 => tw_le l (atRow_le l i)
theorem fromRow_le (l : List Rg) : ∀ i, fromRow l i ≤ l.length
  | 0 => Nat.zero_le _
  | i + 1 => atRow_le l i
theorem endRow_le (l : List Rg) (i : Nat) : endRow l i ≤ l.length := tw_le l (atRow_le l i)
/-- the ranges that row i is handed -/
def subRow (l : List Rg) (i : Nat) : List Rg := (l.drop (atRow l i)).take (endRow l i - atRow l i)

/-- what a round is handed: a row's number, and a slice that reads as some ranges -/
abbrev RowIn (w : World) (B : Nat) := { x : Nat × (Option Addr × Nat) × List Rg // x.1 < 4352 ∧ Rds w B 3 x.2.1.1 x.2.1.2 (rgCells x.2.2) }
def RowIn.encs {w : World} {B : Nat} (x : RowIn w B) : Array Value := #[.int .i64 (x.1.1 : Int), .slice x.1.2.1.1 x.1.2.1.2 x.1.2.1.2]
def RowIn.key {w : World} {B : Nat} (x : RowIn w B) : Nat × List Rg := (x.1.1, x.1.2.2)

theorem Rds.sub {w : World} {B n lo hi : Nat} {b o : Nat} {l : List Rg} (h : Rds w B 3 (some ⟨b, o, none⟩) n (rgCells l)) (h1 : lo ≤ hi) (h2 : hi ≤ n) :
    Rds w B 3 (some ⟨b, o + lo * 3, none⟩) (hi - lo) (rgCells ((l.drop lo).take (hi - lo))) := by
  have hl := h.rg_len
  refine ⟨by rw [rgCells_length, List.length_take, List.length_drop]; omega, by have := h.2.1; omega, fun h0 => ⟨b, o + lo * 3, rfl, ?_, ?_⟩⟩
  · obtain ⟨b', o', e, hb, _⟩ := h.2.2 (by omega)
    injection e with e; injection e with e1 e2
    subst e1; exact hb
  · obtain ⟨b', o', e, hb, hc⟩ := h.2.2 (by omega)
    injection e with e; injection e with e1 e2
    subst e1; subst e2
    intro j u hu
    have := hc (lo * 3 + j) u ?_
    · rwa [← Nat.add_assoc] at this
    · have hd : ∀ (m : Nat) (q : List Rg), rgCells (q.drop m) = (rgCells q).drop (m * 3) := fun m q => by
        induction m generalizing q with
        | zero => simp
        | succ m ih => cases q with
          | nil => simp [rgCells]
          | cons x q => simp only [List.drop_succ_cons]; rw [ih, Nat.add_mul]; simp [rgCells, Rg.cells]
      have ht : ∀ (m : Nat) (q : List Rg), rgCells (q.take m) = (rgCells q).take (m * 3) := fun m q => by
        induction m generalizing q with
        | zero => simp [rgCells]
        | succ m ih => cases q with
          | nil => simp [rgCells]
          | cons x q => simp only [List.take_succ_cons]; have := ih q; rw [Nat.add_mul]; simp [rgCells, Rg.cells] at this ⊢; exact this
      rw [ht, hd, List.getElem?_take] at hu
      split at hu
      · rwa [List.getElem?_drop] at hu
      · cases hu
theorem Rds.none_sub {w : World} {B : Nat} {A : Option Addr} : Rds w B 3 A 0 (rgCells []) := ⟨rfl, by omega, fun h => by omega⟩

set_option maxHeartbeats 1000000 in
/-- the slice is boxed; the function value captures the box -/
theorem rows_in (F : Fence) (n : Nat) (hf : F.fn 46) (hro : F.round = none) (a : Option Addr) (len cap : Nat) (w : World) :
    CallsIn F n Tryd.prog 46 #[.slice a len cap] w fun e w' => e = .returned (.func (.func 69) #[] #[.pointer (some ⟨w.heap.size, 0, none⟩)]) ∧ w' = w.alloc (.cells #[.slice a len cap] 22) := by
  refine callsIn_of_wp Tryd.func46 rfl hf ?_ hro
  simp only [Tryd.ntmps46, List.size_toArray, List.length_cons, List.length_nil, Nat.reduceAdd, Nat.reduceSub, Array.replicate_succ, Array.replicate_zero, List.push_toArray, List.append_toArray, List.nil_append, List.cons_append]
  gi_wp2
  go_ret
  exact ⟨rfl, rfl⟩

/-- what lay below n₀ lies as it lay, and the box Bs holds what it held -/
def KRows (n₀ Bs : Nat) (W W' : World) : Prop := Below n₀ W W' ∧ ∀ v, W.cell? ⟨Bs, 0, none⟩ = some v → W'.cell? ⟨Bs, 0, none⟩ = some v
theorem KRows.refl (n₀ Bs : Nat) (W : World) : KRows n₀ Bs W W := ⟨Below.refl _ _, fun _ h => h⟩
theorem KRows.trans {n₀ Bs : Nat} {A B C : World} (h : KRows n₀ Bs A B) (k : KRows n₀ Bs B C) : KRows n₀ Bs A C := ⟨h.1.trans k.1, fun v e => k.2 v (h.2 v e)⟩
theorem KRows.put {n₀ Bs : Nat} {w : World} (hn : n₀ ≤ w.heap.size) (W : World) (l : Nat) (o o' : Obj) (hl : w.heap.size ≤ l) (h : W.heap[l]? = some o) (hc : o.isCells = false) (hw : o.isWalk = false) : KRows n₀ Bs W (W.putObj l o') :=
  ⟨belowK_b hn W l o o' hl h hc hw, fun v e => cell_kept e (grownBy_putObj' W l o') (fun r hr => by cases hr; exact ⟨o, h, hc⟩)⟩

attribute [local go_sem] Oper.semAt_some

set_option maxRecDepth 100000 in
set_option maxHeartbeats 2000000 in
theorem rows1_in (n : Nat) (hn : 1 ≤ n) (l : List Rg) (lp Bs n₀ : Nat) (A : Option Addr) (len cap : Nat) (w0 W : World) (hcap : len ≤ cap) (hr : Rds w0 n₀ 3 A len (rgCells l)) (hb0 : Below n₀ w0 W)
    (J Jx : List (RowIn w0 n₀) → World → Prop)
    (hY : ∀ pre x W, J pre W → pre.length < 4352 → YieldAt Fence.wide (n - 1) Tryd.prog lp (RowIn.encs x) W fun e W' =>
      (e = .returned (.bool true) ∧ J (pre ++ [x]) W' ∧ KRows n₀ Bs W W') ∨ (e = .returned (.bool false) ∧ Jx (pre ++ [x]) W'))
    (hBs : W.cell? ⟨Bs, 0, none⟩ = some (.slice A len cap)) (h0 : J [] W) :
    CallsIn Fence.wide n Tryd.prog 69 #[.func (.yield lp) #[] #[], .pointer (some ⟨Bs, 0, none⟩)] W fun e W' => (∃ v, e = .returned v) ∧
      ((∃ ys, ys.map RowIn.key = (List.range 4352).map (fun i => (i, subRow l i)) ∧ J ys W') ∨ (∃ pre, True ∧ Jx pre W')) := by
  have hl := hr.rg_len
  subst hl
  have hm := hr.2.1
  have hro : Fence.wide.round = none := rfl
  refine callsIn_of_wp Tryd.func69 rfl trivial ?_ hro
  simp only [Tryd.ntmps69, List.size_toArray, List.length_cons, List.length_nil, Nat.reduceAdd, Nat.reduceSub, Array.replicate_succ, Array.replicate_zero, List.push_toArray, List.append_toArray, List.nil_append, List.cons_append]
  refine wpIn_wide.2 (wp_scope_straight (wpIn_wide (n := n).1 ?_))
  gi_wp2
  refine wpIn_label ?_
  gi_wp2
  gi_loopw [3, 8] (fun s i wr => ∃ (k : Nat) (pre : List (RowIn w0 n₀)), k ≤ 4352 ∧ i = .int .i64 k ∧ s = .int .i64 (fromRow l k) ∧ pre.map RowIn.key = (List.range k).map (fun i => (i, subRow l i)) ∧ J pre wr ∧ KRows n₀ Bs W wr) (fun _ i _ => 4352 - (intOf i).toNat)
  case atStart => exact ⟨0, [], by omega, rfl, rfl, rfl, h0, KRows.refl _ _ _⟩
  case round =>
    obtain ⟨k, pre, hk, rfl, rfl, hp, hJ, hW⟩ := hrel
    have hBs' : wr.cell? ⟨Bs, 0, none⟩ = some (.slice A l.length cap) := hW.2 _ hBs
    have HP := hide hp
    clear hp
    by_cases hlt : k < 4352
    · obtain ⟨wo, rfl⟩ : ∃ wo : World, wo = wr := ⟨_, rfl⟩
      have hrd := hr.below (hb0.trans hW.1)
      have HR := hide hrd
      have HR0 := hide hr
      clear hrd hr
      have hkb : decide ((k : Int) < 4352) = true := by simp; omega
      gi_wp2
      gi_loopw [3] (fun s wr => wr = wo ∧ ∃ j : Nat, j ≤ l.length ∧ s = .int .i64 j ∧ skipTo l ((k : Int) * 256) j = atRow l k) (fun s _ => l.length - (intOf s).toNat)
      case atStart => exact ⟨rfl, fromRow l k, fromRow_le l k, rfl, (atRow_eq l k).symm⟩
      case round =>
        obtain ⟨rfl, j, hj, rfl, hs⟩ := hrel
        have HS := hide hs
        clear hs
        obtain ⟨cont, hcont⟩ : ∃ cont : Bool, cont = (match l[j]? with | some x => decide (x.to < (k : Int) * 256) | none => false) := ⟨_, rfl⟩
        have HC := hide hcont
        clear hcont
        gi_upto_region 5 with fail
        gi_cut [29] from 58 (fun s29 wx => s29 = .bool cont ∧ wx = wr)
        case first =>
          by_cases hjl : j < l.length
          · obtain ⟨b, o, rfl, hbl, c0, c1, c2⟩ := HR.out.rg hjl
            by_cases ht : (l[j].to : Int) < (k : Int) * 256
            · gi_wp2
              gi_meet
              exact ⟨by rw [HC.out, List.getElem?_eq_getElem hjl]; simp [ht], rfl⟩
            · gi_wp2
              gi_meet
              exact ⟨by rw [HC.out, List.getElem?_eq_getElem hjl]; simp; omega, rfl⟩
          · gi_wp2
            gi_meet
            exact ⟨by rw [HC.out, List.getElem?_eq_none (by omega)], rfl⟩
        case rest =>
          obtain ⟨rfl, rfl⟩ := hcut
          cases cont with
          | true =>
            have hjl : j < l.length := by
              rcases Nat.lt_or_ge j l.length with h | h
              · exact h
              · have := HC.out; rw [List.getElem?_eq_none h] at this; cases this
            have ht : l[j].to < (k : Int) * 256 := by have := HC.out; rw [List.getElem?_eq_getElem hjl] at this; simpa using this.symm
            gi_wp2
            go_roundw
            case rel => exact ⟨trivial, j + 1, by omega, by simp, by rw [← HS.out]; exact (tw_step (p := fun x => decide (x.to < (k : Int) * 256)) hjl (by simpa using ht)).symm⟩
            case measure => simp [intOf]; omega
          | false =>
            obtain rfl : j = atRow l k := by
              rw [← HS.out]
              rcases Nat.lt_or_ge j l.length with h | h
              · have := HC.out; rw [List.getElem?_eq_getElem h] at this
                exact (tw_stop h (by simpa using this.symm)).symm
              · obtain rfl : j = l.length := by omega
                exact (tw_end l).symm
            obtain ⟨wo, rfl⟩ : ∃ wo : World, wo = wc := ⟨_, rfl⟩
            gi_wp2
            gi_loopw [7] (fun s wr => wr = wo ∧ ∃ j : Nat, atRow l k ≤ j ∧ j ≤ l.length ∧ s = .int .i64 j ∧ endTo l ((k : Int) * 256 + 255) j = endRow l k) (fun s _ => l.length - (intOf s).toNat)
            case atStart => exact ⟨rfl, atRow l k, Nat.le_refl _, atRow_le l k, rfl, rfl⟩
            case round =>
              obtain ⟨rfl, j, hja, hj, rfl, hs⟩ := hrel
              have HS2 := hide hs
              clear hs
              obtain ⟨cont, hcont⟩ : ∃ cont : Bool, cont = (match l[j]? with | some x => decide (x.fr ≤ (k : Int) * 256 + 255) | none => false) := ⟨_, rfl⟩
              have HC2 := hide hcont
              clear hcont
              gi_upto_region 8 with fail
              gi_cut [45] from 58 (fun s45 wx => s45 = .bool cont ∧ wx = wr)
              case first =>
                by_cases hjl : j < l.length
                · obtain ⟨b, o, rfl, hbl, c0, c1, c2⟩ := HR.out.rg hjl
                  by_cases ht : (l[j].fr : Int) ≤ ((k : Int) + 1) * 256 - 1
                  · gi_wp2
                    gi_meet
                    exact ⟨by rw [HC2.out, List.getElem?_eq_getElem hjl]; simp; omega, rfl⟩
                  · gi_wp2
                    gi_meet
                    exact ⟨by rw [HC2.out, List.getElem?_eq_getElem hjl]; simp; omega, rfl⟩
                · gi_wp2
                  gi_meet
                  exact ⟨by rw [HC2.out, List.getElem?_eq_none (by omega)], rfl⟩
              case rest =>
                obtain ⟨rfl, rfl⟩ := hcut
                cases cont with
                | true =>
                  have hjl : j < l.length := by
                    rcases Nat.lt_or_ge j l.length with h | h
                    · exact h
                    · have := HC2.out; rw [List.getElem?_eq_none h] at this; cases this
                  have ht : l[j].fr ≤ (k : Int) * 256 + 255 := by have := HC2.out; rw [List.getElem?_eq_getElem hjl] at this; simpa using this.symm
                  gi_wp2
                  go_roundw
                  case rel => exact ⟨trivial, j + 1, by omega, by omega, by simp, by rw [← HS2.out]; exact (tw_step (p := fun x => decide (x.fr ≤ (k : Int) * 256 + 255)) hjl (by simpa using ht)).symm⟩
                  case measure => simp [intOf]; omega
                | false =>
                  obtain rfl : j = endRow l k := by
                    rw [← HS2.out]
                    rcases Nat.lt_or_ge j l.length with h | h
                    · have := HC2.out; rw [List.getElem?_eq_getElem h] at this
                      exact (tw_stop h (by simpa using this.symm)).symm
                    · obtain rfl : j = l.length := by omega
                      exact (tw_end l).symm
                  have hpl : pre.length = k := by have := congrArg List.length HP.out; simpa using this
                  have hse : endRow l k ≤ l.length := endRow_le l k
                  have hsa : atRow l k ≤ l.length := atRow_le l k
                  obtain ⟨wo, rfl⟩ : ∃ wo : World, wo = wc := ⟨_, rfl⟩
                  have hrw : Rds w0 n₀ 3 A l.length (rgCells l) := HR0.out
                  by_cases heq : endRow l k = atRow l k
                  · have hx : k < 4352 ∧ Rds w0 n₀ 3 A 0 (rgCells (subRow l k)) := ⟨hlt, by unfold subRow; rw [heq]; simp; exact Rds.none_sub⟩
                    obtain ⟨fn, tmps, assign, body, hy, hR⟩ := hY pre ⟨(k, (A, 0), subRow l k), hx⟩ wo hJ (by omega)
                    dsimp only [RowIn.encs] at hy
                    gi_wp2
                    refine hR.mono ?_
                    rintro e W3 (⟨rfl, hJ3, hk3⟩ | ⟨rfl, hJx3⟩)
                    · gi_wp2
                      go_roundw
                      case rel => exact ⟨k + 1, _, by omega, by simp, rfl, by rw [List.range_succ, List.map_append, List.map_append, HP.out]; rfl, hJ3, hW.trans hk3⟩
                      case measure => simp [intOf]; omega
                    · gi_wp2
                      simp only [Exit.noGoto_normal]
                      go_end0
                      exact ⟨⟨_, rfl⟩, .inr ⟨_, trivial, hJx3⟩⟩
                  · have hge : atRow l k ≤ endRow l k := endTo_ge l _ _
                    obtain ⟨b, o, rfl, hbl, _⟩ := hrw.2.2 (by omega)
                    have hx : k < 4352 ∧ Rds w0 n₀ 3 (some ⟨b, o + atRow l k * 3, none⟩) (endRow l k - atRow l k) (rgCells (subRow l k)) := ⟨hlt, hrw.sub hge hse⟩
                    obtain ⟨fn, tmps, assign, body, hy, hR⟩ := hY pre ⟨(k, (some ⟨b, o + atRow l k * 3, none⟩, endRow l k - atRow l k), subRow l k), hx⟩ wo hJ (by omega)
                    dsimp only [RowIn.encs] at hy
                    gi_wp2
                    refine hR.mono ?_
                    rintro e W3 (⟨rfl, hJ3, hk3⟩ | ⟨rfl, hJx3⟩)
                    · gi_wp2
                      go_roundw
                      case rel => exact ⟨k + 1, _, by omega, by simp, rfl, by rw [List.range_succ, List.map_append, List.map_append, HP.out]; rfl, hJ3, hW.trans hk3⟩
                      case measure => simp [intOf]; omega
                    · gi_wp2
                      simp only [Exit.noGoto_normal]
                      go_end0
                      exact ⟨⟨_, rfl⟩, .inr ⟨_, trivial, hJx3⟩⟩
    · obtain rfl : k = 4352 := by omega
      gi_wp2
      simp only [Exit.noGoto_normal]
      go_end0
      exact ⟨⟨_, rfl⟩, .inl ⟨pre, HP.out, hJ⟩⟩

theorem rows_stops (n : Nat) (hn : 1 ≤ n) (l : List Rg) (Bs n₀ : Nat) (A : Option Addr) (len cap : Nat) (w0 w : World) (hcap : len ≤ cap) (hr : Rds w0 n₀ 3 A len (rgCells l)) (hb0 : Below n₀ w0 w) (hn₀ : n₀ ≤ w.heap.size)
    (hBs : w.cell? ⟨Bs, 0, none⟩ = some (.slice A len cap)) (hBl : Bs < w.heap.size) :
    SeqStopsK Fence.wide n Tryd.prog 69 #[.pointer (some ⟨Bs, 0, none⟩)] (RowIn.encs (w := w0) (B := n₀)) (KRows n₀ Bs) (fun ys => ys.map RowIn.key = (List.range 4352).map (fun i => (i, subRow l i))) (fun _ => True) 4352 w :=
  fun lp J Jx W hW _ _ hY h0 => rows1_in n hn l lp Bs n₀ A len cap w0 W hcap hr (hb0.trans (hW.mono hn₀)) J Jx hY ((hW.cell (p := ⟨Bs, 0, none⟩) hBl).trans hBs) h0

end Go.Proofs.YtibndkkbmgbogaaDoor
