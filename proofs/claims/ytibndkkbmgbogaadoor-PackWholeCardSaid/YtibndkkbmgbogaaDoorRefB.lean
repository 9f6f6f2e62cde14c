/- The reference's Build of no ranges. Conditions: none. -/
import Derived.Test.YtibndkkbmgbogaaDoorProg
import Derived.Test.YtibndkkbmgbogaaDoorBase
import Derived.Test.YtibndkkbmgbogaaDoorPut
import Derived.Test.YtibndkkbmgbogaaDoorPRepeat
import Derived.Test.YtibndkkbmgbogaaDoorRegion
import Derived.Outline
namespace Go.Proofs.YtibndkkbmgbogaaDoor
open Go Go.RowKit

theorem refRightNil_any (w : World) : Calls Tryd.prog 74 #[.slice none 0 0] w fun e w' => e = .returned (.bool true) ∧ w = w' := by
  go_enter Tryd.func74, Tryd.ntmps74
  go_wp2
  refine wp_loop_rounds 1 ?_
  rw [rounds_succ]
  go_wp2
  go_ret
  exact ⟨rfl, rfl⟩

def zrow : Array Value := Array.replicate 256 (.int .i64 0)
set_option maxRecDepth 100000 in
theorem refBlockNil_any (i : Nat) (w : World) (hi : i < 5000) : Calls Tryd.prog 75 #[.slice none 0 0, .int .i64 i] w fun e w' => e = .returned (.slice (some ⟨w.heap.size, 0, none⟩) 256 256) ∧ w' = w.alloc (.cells zrow 3) := by
  obtain ⟨i0, hi', hz0, hz1, hz2⟩ := info_parts info_int
  have hmk : ∀ W : World, (Instr.makeSlice 24 (.int .i64 256) (.int .i64 256)).run Tryd.prog W = .ok (.slice (some ⟨W.heap.size, 0, none⟩) 256 256) (W.alloc (.cells zrow 3)) := fun W => by
    have h := run_makeSlice (P := Tryd.prog) W 24 3 i0 (.int .i64 0) Tryd.underlying24 hi' hz0 .i64 .i64 256 256 (by omega) (Int.le_refl _) (by rw [hz1]; decide) (by rw [hz2]; decide) (by omega)
    have hmc : ∀ k, madeCells (Value.int .i64 0).cells k = Array.replicate k (.int .i64 0) := fun k => by
      apply Array.ext
      · simp [madeCells]
      · intro i h1 h2
        simp [madeCells, Value.cells, Nat.mod_one]
    rw [hz1, hmc] at h
    exact h
  go_enter Tryd.func75, Tryd.ntmps75
  generalize zrow = row at *
  go_wp2
  refine wp_loop_rounds 1 ?_
  rw [rounds_succ]
  go_wp2
  go_ret
  exact ⟨rfl, rfl⟩

def zB : List Int := List.replicate 256 0
theorem zB_cells : (intCells zB).toArray = zrow := by
  unfold zB intCells zrow
  rw [List.map_replicate, List.toArray_replicate]
theorem zB_len : zB.length = 256 := List.length_replicate
/-- the trie of no ranges, after so many rows -/
def T0at (k : Nat) : Tr := ⟨List.replicate k 0, if k = 0 then [] else [zB]⟩
theorem T0at_lens (k : Nat) : (T0at k).ix.length = k ∧ (T0at k).bl.length ≤ 1 := by
  unfold T0at
  refine ⟨List.length_replicate, ?_⟩
  simp only
  split <;> simp
theorem T0at_add (k : Nat) : (T0at k).add zB = T0at (k + 1) := by
  cases k with
  | zero => simp [T0at, Tr.add, blkIn]
  | succ k =>
    have h : ([zB].findIdx? fun b => decide (zB = b)) = some 0 := by simp
    simp only [T0at, Tr.add, blkIn, blkNo, if_neg (Nat.succ_ne_zero k), if_neg (Nat.succ_ne_zero (k + 1)), h, Option.isSome_some, if_true, Option.getD_some]
    rw [show ([((0 : Nat) : Int)] : List Int) = List.replicate 1 0 from rfl, List.replicate_append_replicate]

set_option maxRecDepth 100000 in
set_option maxHeartbeats 1000000 in
theorem refBuildNil_any (w : World) : Calls Tryd.prog 59 #[.slice none 0 0] w (Out w (T0at 4352) 0) := by
  generalize hN : T0at 4352 = TN
  have HN := hide hN
  clear hN
  go_enter Tryd.func59, Tryd.ntmps59
  go_wp2_with ((go_at_call 74; refine (refRightNil_any _).mono ?_; rintro e w1 ⟨rfl, rfl⟩))
  obtain ⟨b2, hb2⟩ : ∃ b2 : Nat, b2 = w.heap.size := ⟨_, rfl⟩
  obtain ⟨W1, hW1⟩ : ∃ W1 : World, W1 = (w.alloc (.cells #[.slice none 0 0, .slice none 0 0] 27)).alloc (.cells #[.slice none 0 0, .slice none 0 0] 27) := ⟨_, rfl⟩
  have k2 : Blk W1 b2 27 #[.slice none 0 0, .slice none 0 0] := by rw [hW1, hb2]; exact (Blk.new _ _ _).alloc _
  have k4 : Blk W1 (b2 + 1) 27 #[.slice none 0 0, .slice none 0 0] := by rw [hW1, hb2]; have := Blk.new (w.alloc (.cells #[.slice none 0 0, .slice none 0 0] 27)) 27 #[.slice none 0 0, .slice none 0 0]; simpa using this
  have hbW : Below b2 w W1 := by rw [hW1, hb2]; exact ((Below.refl _ _).alloc (Nat.le_refl _) _).alloc (by simp) _
  have HB2 := hide hb2
  rw [← hW1, ← hb2]
  clear hW1 hb2
  go_loopw [5] (fun i wr => ∃ (k : Nat) (vi vb : Value), k ≤ 4352 ∧ i = .int .i64 k ∧ Ow wr (b2 + 2) vi vb (T0at k) ∧ Blk wr (b2 + 1) 27 #[vi, vb] ∧ Blk wr b2 27 #[.slice none 0 0, .slice none 0 0] ∧ Below b2 w wr) (fun i _ => 4352 - (intOf i).toNat)
  case atStart => exact ⟨0, .slice none 0 0, .slice none 0 0, Nat.zero_le _, rfl, Ow.nil _ _, k4, k2, hbW⟩
  case round =>
    clear k2 k4 hbW
    obtain ⟨k, vi, vb, hk, rfl, how, k4, k2, hbw⟩ := hrel
    have hls := T0at_lens k
    obtain ⟨Ai, ni, ci, Ab, nb, cb, rfl, rfl, hni, hnb, htr⟩ := how.rows (by omega) (by omega)
    have c40 := k4.cell 0
    have c41 := k4.cell 1
    simp only [List.getElem?_toArray, List.getElem?_cons_zero, List.getElem?_cons_succ] at c40 c41
    by_cases hlt : k < 4352
    · have HW := hide how
      clear how htr
      go_wp2
      refine wp_region_L (fun w' => w'.cell? ⟨b2 + 1, 0, none⟩ = some (.slice Ai ni ci) ∧ w'.cell? ⟨b2 + 1, 1, none⟩ = some (.slice Ab nb cb)) (fun k => decide (k ≠ 5)) [0, 1, 2] [3, 4, 5] (by kernel_rfl) (by kernel_rfl) (fun _ _ d _ _ h => by cases d <;> exact h) ⟨c40, c41⟩ ?_
      refine headsL_step (v := .agg #[.slice Ai ni ci, .slice Ab nb cb]) rfl rfl (fun W' hS' => by obtain ⟨f1, f2⟩ := hS'; go_simp) ?_
      go_frame
      refine headsL_step (v := .slice none 0 0) rfl rfl (fun W' hS' => by rfl) ?_
      go_frame
      refine headsL_step (v := .int .i64 k) rfl rfl (fun W' hS' => by rfl) ?_
      go_frame
      refine headsL_nil ?_
      refine seqL_step rfl rfl (fun K hK1 => ?_)
      go_simp
      refine (refBlockNil_any k _ (by omega)).mono ?_
      rintro e w3 ⟨rfl, rfl⟩
      refine hK1 _ _ ⟨fun _ => ⟨(World.cell?_alloc_lt _ _ ⟨b2 + 1, 0, none⟩ k4.lt).trans c40, (World.cell?_alloc_lt _ _ ⟨b2 + 1, 1, none⟩ k4.lt).trans c41⟩, ?_⟩
      refine seqL_step rfl rfl (fun K hK2 => ?_)
      go_simp
      have hbs : b2 + 1 < wr.heap.size := k4.lt
      have HWd : Ow ((wr.alloc (.cells zrow 3)).drew) (b2 + 2) (.slice Ai ni ci) (.slice Ab nb cb) (T0at k) := HW.out.grow ⟨rfl, rfl, rfl, by simp, fun j hj _ => Below.heap_alloc wr _ j hj⟩
      have hrz : Rds ((wr.alloc (.cells zrow 3)).drew) ((wr.alloc (.cells zrow 3)).drew).heap.size 1 (some ⟨wr.heap.size, 0, none⟩) 256 (intCells zB) := by
        refine ⟨by simp [intCells, zB_len], by omega, fun _ => ⟨wr.heap.size, 0, rfl, by simp, fun j u hj => ?_⟩⟩
        have h2 : ((wr.alloc (.cells zrow 3)).drew).cell? ⟨wr.heap.size, j, none⟩ = zrow[j]? := (Blk.new wr 3 zrow).cell j
        rw [Nat.zero_add, h2, ← zB_cells]
        simpa using hj
      refine (put_any (b2 + 2) (.slice Ai ni ci) (.slice Ab nb cb) (T0at k) zB wr.heap.size 0 256 _ HWd (by simp; omega) zB_len hrz (fun e => by have := (HW.out.ix.lt _ e).2; omega) (by omega) (by omega)).mono ?_
      rintro e w4 ⟨vi', vb', rfl, how4, hb4⟩
      have hba : Below (b2 + 2) wr ((wr.alloc (.cells zrow 3)).drew) := ((Below.refl _ _).alloc (by omega) _).drew
      have hb44 := hba.trans hb4
      have k44 := k4.below hb44 (by omega)
      have k24 := k2.below hb44 (by omega)
      have hbw4 := hbw.trans (hb44.mono (by omega))
      rw [T0at_add] at how4
      have hls4 := T0at_lens (k + 1)
      obtain ⟨Ai2, ni2, ci2, Ab2, nb2, cb2, rfl, rfl, _, _, _⟩ := how4.rows (by omega) (by omega)
      have d0 := k44.cell 0
      have d1 := k44.cell 1
      have f0 := k44.frozen 0
      have f1 := k44.frozen 1
      have l4 := k44.lt
      simp only [List.getElem?_toArray, List.getElem?_cons_zero, List.getElem?_cons_succ] at d0 d1
      refine hK2 _ _ ⟨fun _ => ⟨d0, d1⟩, ?_⟩
      refine seqL_step rfl rfl (fun K hK3 => ?_)
      go_simp
      refine hK3 _ _ ⟨fun h => (by cases h), ?_⟩
      refine seqL_nil ?_
      go_wp2
      have hs0 := grownBy_setCell w4 (b2 + 1) 0 (.slice Ai2 ni2 ci2)
      have kM := k44.set_ 0 (.slice Ai2 ni2 ci2)
      have hs1 := grownBy_setCell (w4.setCell ⟨b2 + 1, 0, none⟩ (.slice Ai2 ni2 ci2)) (b2 + 1) 1 (.slice Ab2 nb2 cb2)
      have ho5 := (how4.turn hs0 (fun q e => by cases e; exact ⟨_, _, k44, by decide, by decide⟩)).turn hs1 (fun q e => by cases e; exact ⟨_, _, kM, by decide, by decide⟩)
      have k45 := kM.set_ 1 (.slice Ab2 nb2 cb2)
      have k25 := (k24.far (p := ⟨b2 + 1, 0, none⟩) (by simp) (.slice Ai2 ni2 ci2)).far (p := ⟨b2 + 1, 1, none⟩) (by simp) (.slice Ab2 nb2 cb2)
      have hb5 := (hbw4.grown hs0 (by omega) (fun q e => by cases e; omega)).grown hs1 (by simp; omega) (fun q e => by cases e; omega)
      generalize (w4.setCell ⟨b2 + 1, 0, none⟩ (.slice Ai2 ni2 ci2)).setCell ⟨b2 + 1, 1, none⟩ (.slice Ab2 nb2 cb2) = w5 at *
      go_roundw
      case rel => exact ⟨k + 1, _, _, by omega, by go_num, ho5, k45, k25, hb5⟩
      case measure => simp [intOf]; omega
    · have hk2 : k = 4352 := by omega
      have HK := hide hk2
      clear hk2
      have hT : T0at k = TN := by rw [HK.out]; exact HN.out
      have d0 := k2.cell 0
      have d1 := k2.cell 1
      have f0 := k2.frozen 0
      have f1 := k2.frozen 1
      have l2 := k2.lt
      simp only [List.getElem?_toArray, List.getElem?_cons_zero, List.getElem?_cons_succ] at d0 d1
      have hk3 : (4352 : Int) ≤ (k : Int) := by omega
      have HT := hide hT
      clear hT
      go_wp2
      have kM := k2.set_ 0 (.slice Ai ni ci)
      have kE := (k2.set_ 0 (.slice Ai ni ci)).set_ 1 (.slice Ab nb cb)
      refine bodyPost_ret (results_cell_row_tmp rfl _ _ b2 27 _ _ _ rfl kE Tryd.underlying27 rfl (by kernel_rfl)) rfl ?_
      have hs0 := grownBy_setCell wr b2 0 (.slice Ai ni ci)
      have hs1 := grownBy_setCell (wr.setCell ⟨b2, 0, none⟩ (.slice Ai ni ci)) b2 1 (.slice Ab nb cb)
      have ho5 := (how.turn hs0 (fun q e => by cases e; exact ⟨_, _, k2, by decide, by decide⟩)).turn hs1 (fun q e => by cases e; exact ⟨_, _, kM, by decide, by decide⟩)
      obtain ⟨A5, n5, c5, A6, n6, c6, e5, e6, e7, e8, e9⟩ := ho5.rows (by omega) (by omega)
      injection e5 with e51 e52 e53
      injection e6 with e61 e62 e63
      subst e51 e52 e53 e61 e62 e63
      rw [HT.out] at e9
      have h0 := HB2.out
      refine ⟨_, _, _, _, _, _, rfl, e9, e7, e8, ?_⟩
      rw [← h0]
      exact (hbw.grown hs0 (by omega) (fun q e => by cases e; exact Nat.le_refl _)).grown hs1 (by simp; exact (by omega)) (fun q e => by cases e; exact Nat.le_refl _)
end Go.Proofs.YtibndkkbmgbogaaDoor
