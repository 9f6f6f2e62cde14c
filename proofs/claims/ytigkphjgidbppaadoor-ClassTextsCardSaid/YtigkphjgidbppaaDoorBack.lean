/- slices.Backward over a slice of texts: its iterator. Conditions: the slice reads as the list of texts. -/
import Derived.Test.YtigkphjgidbppaaDoorIter
namespace Go.Proofs.YtigkphjgidbppaaDoor
open Go Go.RowKit

/-- the last j texts' numbers and texts, from above -/
def bwdTo (l : List ByteArray) : Nat → List (Int × ByteArray)
  | 0 => []
  | j + 1 => ((j : Int), l.getD j ByteArray.empty) :: bwdTo l j
theorem bwdTo_len (l : List ByteArray) : ∀ j, (bwdTo l j).length = j
  | 0 => rfl
  | j + 1 => by rw [bwdTo, List.length_cons, bwdTo_len l j]
def twoEnc (x : Int × ByteArray) : Array Value := #[.int .i64 x.1, .string x.2]

set_option maxHeartbeats 1000000 in
theorem backward_in (F : Fence) (n : Nat) (hf : F.fn 56) (hro : F.round = none) (a : Option Addr) (len cap : Nat) (w : World) :
    CallsIn F n Tryd.prog 56 #[.slice a len cap] w fun e w' => e = .returned (.func (.func 71) #[] #[.pointer (some ⟨w.heap.size, 0, none⟩)]) ∧ w' = w.alloc (.cells #[.slice a len cap] 35) := by
  refine callsIn_of_wp Tryd.func56 rfl hf ?_ hro
  simp only [Tryd.ntmps56, List.size_toArray, List.length_cons, List.length_nil, Nat.reduceAdd, Nat.reduceSub, Array.replicate_succ, Array.replicate_zero, List.push_toArray, List.append_toArray, List.nil_append, List.cons_append]
  gi_wp2
  go_ret
  exact ⟨rfl, rfl⟩

attribute [local go_sem] Oper.semAt_some

set_option maxRecDepth 100000 in
set_option maxHeartbeats 2000000 in
theorem backward1_in (P : Int × ByteArray → Prop) (n : Nat) (hn : 1 ≤ n) (l : List ByteArray) (hP : ∀ (j : Nat) (h : j < l.length), P ((j : Int), l[j])) (lp Bs n₀ : Nat) (A : Option Addr) (len cap : Nat) (w0 W : World) (hr : Rds w0 n₀ 1 A len (strCells l)) (hb0 : Below n₀ w0 W)
    (J Jx : List {x : Int × ByteArray // P x} → World → Prop)
    (hY : ∀ pre x W, J pre W → pre.length < l.length → YieldAt Fence.wide (n - 1) Tryd.prog lp (twoEnc x.1) W fun e W' =>
      (e = .returned (.bool true) ∧ J (pre ++ [x]) W' ∧ KRows n₀ Bs W W') ∨ (e = .returned (.bool false) ∧ Jx (pre ++ [x]) W'))
    (hBs : W.cell? ⟨Bs, 0, none⟩ = some (.slice A len cap)) (h0 : J [] W) :
    CallsIn Fence.wide n Tryd.prog 71 #[.func (.yield lp) #[] #[], .pointer (some ⟨Bs, 0, none⟩)] W fun e W' => (∃ v, e = .returned v) ∧
      ((∃ ys, ys.map Subtype.val = bwdTo l l.length ∧ J ys W') ∨ (∃ pre, True ∧ Jx pre W')) := by
  have hl := hr.str_len
  subst hl
  have hm := hr.2.1
  have hro : Fence.wide.round = none := rfl
  refine callsIn_of_wp Tryd.func71 rfl trivial ?_ hro
  simp only [Tryd.ntmps71, List.size_toArray, List.length_cons, List.length_nil, Nat.reduceAdd, Nat.reduceSub, Array.replicate_succ, Array.replicate_zero, List.push_toArray, List.append_toArray, List.nil_append, List.cons_append]
  gi_wp2
  gi_loopw [3] (fun i wr => ∃ (j : Nat) (pre : List {x : Int × ByteArray // P x}), j ≤ l.length ∧ i = .int .i64 ((j : Int) - 1) ∧ pre.map Subtype.val ++ bwdTo l j = bwdTo l l.length ∧ J pre wr ∧ KRows n₀ Bs W wr) (fun i _ => (intOf i + 1).toNat)
  case atStart => exact ⟨l.length, [], Nat.le_refl _, rfl, rfl, h0, KRows.refl _ _ _⟩
  case round =>
    obtain ⟨j, pre, hj, rfl, hp, hJ, hW⟩ := hrel
    have hBs' : wr.cell? ⟨Bs, 0, none⟩ = some (.slice A l.length cap) := hW.2 _ hBs
    have HP := hide hp
    clear hp
    cases j with
    | succ j =>
      have hlt : j < l.length := by omega
      have hpl : pre.length < l.length := by
        have h1 := congrArg List.length HP.out
        rw [List.length_append, List.length_map, bwdTo_len, bwdTo_len] at h1
        omega
      obtain ⟨wo, rfl⟩ : ∃ wo : World, wo = wr := ⟨_, rfl⟩
      have hrd := hr.below (hb0.trans hW.1)
      obtain ⟨b, o, rfl, hbl, ck⟩ := hrd.str hlt
      have hS : bwdTo l (j + 1) = ((j : Int), l[j]) :: bwdTo l j := by rw [bwdTo, getD_get hlt]
      have HS := hide hS
      clear hrd hS
      rw [show (((j + 1 : Nat) : Int) - 1) = (j : Int) by omega]
      obtain ⟨fn, tmps, assign, body, hy, hRy⟩ := hY pre ⟨((j : Int), l[j]), hP j hlt⟩ wo hJ hpl
      dsimp only [twoEnc] at hy
      gi_wp2
      refine hRy.mono ?_
      rintro e W3 (⟨rfl, hJ3, hk3⟩ | ⟨rfl, hJx3⟩)
      · gi_wp2
        go_roundw
        case rel => exact ⟨j, _, by omega, by simp, by rw [List.map_append, List.append_assoc]; exact Eq.trans (congrArg (fun z => pre.map Subtype.val ++ z) HS.out.symm) HP.out, hJ3, hW.trans hk3⟩
        case measure => simp [intOf]
      · gi_wp2
        refine bodyPost_ret (results_none rfl _ _ _) rfl ?_
        exact ⟨⟨_, rfl⟩, .inr ⟨_, trivial, hJx3⟩⟩
    | zero =>
      gi_wp2
      try simp only [Exit.noGoto_normal]
      go_end0
      refine ⟨⟨_, rfl⟩, .inl ⟨pre, ?_, hJ⟩⟩
      rw [← HP.out, bwdTo, List.append_nil]

theorem backward_stops (P : Int × ByteArray → Prop) (n : Nat) (hn : 1 ≤ n) (l : List ByteArray) (hP : ∀ (j : Nat) (h : j < l.length), P ((j : Int), l[j])) (Bs n₀ : Nat) (A : Option Addr) (len cap : Nat) (w0 w : World) (hr : Rds w0 n₀ 1 A len (strCells l)) (hb0 : Below n₀ w0 w) (hn₀ : n₀ ≤ w.heap.size)
    (hBs : w.cell? ⟨Bs, 0, none⟩ = some (.slice A len cap)) (hBl : Bs < w.heap.size) :
    SeqStopsK (α := {x : Int × ByteArray // P x}) Fence.wide n Tryd.prog 71 #[.pointer (some ⟨Bs, 0, none⟩)] (fun x => twoEnc x.1) (KRows n₀ Bs) (fun ys => ys.map Subtype.val = bwdTo l l.length) (fun _ => True) l.length w :=
  fun lp J Jx W hW _ _ hY h0 => backward1_in P n hn l hP lp Bs n₀ A len cap w0 W hr (hb0.trans (hW.mono hn₀)) J Jx hY ((hW.cell (p := ⟨Bs, 0, none⟩) hBl).trans hBs) h0
end Go.Proofs.YtigkphjgidbppaaDoor
