/- A row's values by ranges: the program's trie.fill. Conditions: the slice reads as a list of ranges. -/
import Derived.Test.YtibndkkbmgbogaaDoorProg
import Derived.Test.YtibndkkbmgbogaaDoorBase
import Derived.BigQuiet
import Derived.Deep.QuietTactic
namespace Go.Proofs.YtibndkkbmgbogaaDoor
open Go Go.RowKit

def fillTo (f : Nat) (x : List Int) (y : Rg) (r : Int) : List Int := x.mapIdx fun j v => if y.fr ≤ f + j ∧ (f : Int) + j < r ∧ f + j ≤ y.to then y.vl else v
def fillOne (f : Nat) (x : List Int) (y : Rg) : List Int := x.mapIdx fun j v => if y.fr ≤ f + j ∧ f + j ≤ y.to then y.vl else v
def fillRow (row : Nat) (l : List Rg) : List Int := l.foldl (fillOne (row * 256)) (List.replicate 256 0)
def intArr (x : List Int) : Array Value := (intCells x).toArray

theorem fillTo_len (f : Nat) (x : List Int) (y : Rg) (r : Int) : (fillTo f x y r).length = x.length := by simp [fillTo]
theorem fillOne_len (f : Nat) (x : List Int) (y : Rg) : (fillOne f x y).length = x.length := by simp [fillOne]
theorem fillFold_len (f : Nat) (l : List Rg) : ∀ x : List Int, (l.foldl (fillOne f) x).length = x.length := by
  induction l with
  | nil => intro x; rfl
  | cons y l ih => intro x; rw [List.foldl_cons, ih, fillOne_len]
theorem fillRow_len (row : Nat) (l : List Rg) : (fillRow row l).length = 256 := by rw [fillRow, fillFold_len, List.length_replicate]
theorem fillTo_start (f : Nat) (x : List Int) (y : Rg) (r : Int) (h : r ≤ (f : Int) ∨ r ≤ y.fr) : fillTo f x y r = x := by
  apply List.ext_getElem
  · rw [fillTo_len]
  · intro i h1 h2
    simp only [fillTo, List.getElem_mapIdx]
    rw [if_neg (by omega)]
theorem fillTo_end (f : Nat) (x : List Int) (y : Rg) (r : Int) (hx : x.length = 256) (h : ¬ (r ≤ (f : Int) + 255 ∧ r ≤ y.to)) : fillTo f x y r = fillOne f x y := by
  apply List.ext_getElem
  · rw [fillTo_len, fillOne_len]
  · intro i h1 h2
    rw [fillTo_len, hx] at h1
    simp only [fillTo, fillOne, List.getElem_mapIdx]
    by_cases hc : y.fr ≤ (f : Int) + i ∧ (f : Int) + i ≤ y.to
    · rw [if_pos hc, if_pos ⟨hc.1, by omega, hc.2⟩]
    · rw [if_neg hc, if_neg (fun h => hc ⟨h.1, h.2.2⟩)]
theorem fillTo_step (f : Nat) (x : List Int) (y : Rg) (r : Int) (h0 : (f : Int) ≤ r) (h1 : y.fr ≤ r) (h2 : r ≤ y.to) :
    fillTo f x y (r + 1) = (fillTo f x y r).set (r - f).toNat y.vl := by
  apply List.ext_getElem
  · rw [List.length_set, fillTo_len, fillTo_len]
  · intro i hi1 hi2
    rw [List.getElem_set]
    simp only [fillTo, List.getElem_mapIdx]
    by_cases hij : (r - f).toNat = i
    · rw [if_pos ⟨by omega, by omega, by omega⟩, if_pos hij]
    · rw [if_neg hij]
      by_cases hc : y.fr ≤ (f : Int) + i ∧ (f : Int) + i < r ∧ (f : Int) + i ≤ y.to
      · rw [if_pos hc, if_pos ⟨hc.1, by omega, hc.2.2⟩]
      · rw [if_neg hc, if_neg (fun h => hc ⟨h.1, by omega, h.2.2⟩)]
theorem intArr_set (x : List Int) (j : Nat) (v : Int) : (intArr x).setIfInBounds j (.int .i64 v) = intArr (x.set j v) := by
  simp [intArr, intCells, List.map_set]
theorem intArr_get (x : List Int) (j : Nat) (h : j < x.length) : (intArr x)[j]? = some (.int .i64 x[j]) := by
  simp [intArr, intCells, h]
theorem intArr_size (x : List Int) : (intArr x).size = x.length := by simp [intArr, intCells]
theorem zeros_eq : Tryd.zeroCells75 = intArr (List.replicate 256 0) := by kernel_rfl

set_option maxRecDepth 100000 in
set_option maxHeartbeats 800000 in
theorem fill_any (row : Nat) (A : Option Addr) (n c : Nat) (l : List Rg) (w : World) (hrow : row < 4352) (hr : Rds w w.heap.size 3 A n (rgCells l)) :
    Calls Tryd.prog 48 #[.int .i64 row, .slice A n c] w fun e w' => e = .returned (.agg (intArr (fillRow row l))) ∧ Below w.heap.size w w' := by
  have hl := hr.rg_len
  have hm := hr.2.1
  subst hl
  go_enter Tryd.func48, Tryd.ntmps48
  go_wp2_with fail
  go_loopw [14] (fun i wr => ∃ (k : Nat) (x : List Int), k ≤ l.length ∧ i = .int .i64 k ∧ x.length = 256 ∧ fillRow row l = (l.drop k).foldl (fillOne (row * 256)) x ∧
      Blk wr (w.heap.size + 1) 75 (intArr x) ∧ Blk wr w.heap.size 75 Tryd.zeroCells75 ∧ Below w.heap.size w wr) (fun i _ => l.length - (intOf i).toNat)
  case atStart =>
    refine ⟨0, List.replicate 256 0, Nat.zero_le _, rfl, by simp, rfl, ?_, (Blk.new w _ _).alloc _, ((Below.refl _ _).alloc (Nat.le_refl _) _).alloc (by simp) _⟩
    have := Blk.new (w.alloc (.cells Tryd.zeroCells75 75)) 75 Tryd.zeroCells75
    rw [← zeros_eq]
    simpa using this
  case round =>
    obtain ⟨k, x, hk, rfl, hx, hf, hx1, hx0, hb⟩ := hrel
    obtain ⟨wo, rfl⟩ : ∃ wo : World, wo = wr := ⟨_, rfl⟩
    have HF := hide hf
    have HX1 := hide hx1
    have HX0 := hide hx0
    have HX := hide hx
    have hsz := hb.size
    have hlt1 := hx1.lt
    clear hf hx1 hx0
    by_cases hlt : k < l.length
    · obtain ⟨b, o, rfl, hbl, c0, c1, c2⟩ := (hr.below hb).rg hlt
      have HD := hide (drop_cons hlt)
      generalize l[k] = y at c0 c1 c2 HD
      have hm2 := hx
      go_wp2_with fail
      all_goals
        go_loopw [9] (fun v wi => ∃ r : Int, v = .int .i64 r ∧ (row : Int) * 256 ≤ r ∧ y.fr ≤ r ∧
            Blk wi (w.heap.size + 1) 75 (intArr (fillTo (row * 256) x y r)) ∧ Blk wi w.heap.size 75 Tryd.zeroCells75 ∧
            Blk wi wo.heap.size 62 #[.int .i64 y.fr, .int .i64 y.to, .int .i64 y.vl] ∧ Below w.heap.size w wi) (fun v _ => ((row : Int) * 256 + 256 - intOf v).toNat)
        case atStart =>
          refine ⟨_, rfl, by omega, by omega, ?_, HX0.out.alloc _, Blk.new _ _ _, hb.alloc hsz _⟩
          rw [fillTo_start _ _ _ _ (by omega)]
          exact HX1.out.alloc _
        case round =>
          obtain ⟨r, rfl, hr1, hr2, b1, b0, b2, hbi⟩ := hrel
          have hlen := fillTo_len (row * 256) x y r
          have k1 := b2.cell 1
          have k2 := b2.cell 2
          by_cases hlo : r ≤ (row : Int) * 256 + 255
          · by_cases hto : r ≤ y.to
            · have hj : (r - (row : Int) * 256).toNat < (fillTo (row * 256) x y r).length := by omega
              have kc := (b1.cell (r - (row : Int) * 256).toNat).trans (intArr_get _ _ hj)
              have kf := b1.frozen (r - (row : Int) * 256).toNat
              have hne : w.heap.size + 1 ≠ wo.heap.size := by omega
              have HB1 := hide b1
              have HB0 := hide b0
              have HB2 := hide b2
              clear b1 b0 b2 hlen
              go_wp2
              exact ⟨⟨r + 1, rfl, by omega, by omega, by rw [fillTo_step _ _ _ _ (by omega) hr2 hto, ← intArr_set]; exact HB1.out.set_ _ _, HB0.out.far (by show w.heap.size ≠ w.heap.size + 1; omega) _,
                HB2.out.far (by show wo.heap.size ≠ w.heap.size + 1; omega) _, hbi.setCell (by show w.heap.size ≤ w.heap.size + 1; omega) _⟩, by simp [intOf]; omega⟩
            · have hend := hide (fillTo_end (row * 256) x y r hx (by omega))
              have HB1 := hide b1
              have HB0 := hide b0
              clear b1 b0 b2
              go_wp2
              exact ⟨⟨k + 1, fillTo (row * 256) x y r, by omega, by go_num, by rw [hlen, hx], by rw [HF.out, HD.out, List.foldl_cons, hend.out], HB1.out, HB0.out, hbi⟩, by simp [intOf]; omega⟩
          · have hend := hide (fillTo_end (row * 256) x y r hx (by omega))
            have HB1 := hide b1
            have HB0 := hide b0
            clear b1 b0 b2
            go_wp2
            exact ⟨⟨k + 1, fillTo (row * 256) x y r, by omega, by go_num, by rw [hlen, hx], by rw [HF.out, HD.out, List.foldl_cons, hend.out], HB1.out, HB0.out, hbi⟩, by simp [intOf]; omega⟩
    · obtain rfl : k = l.length := by omega
      have hsize : (Tryd.prog.info? 75).map (·.size) = some (intArr x).size := by
        rw [intArr_size, hx]; kernel_rfl
      have hzs : Tryd.zeroCells75.size = 256 := by rw [zeros_eq, intArr_size]; rfl
      have hone : (intArr x).all (·.oneCell') = true := by simp [intArr, intCells, Value.oneCell']
      go_wp2_with (first
        | (refine wpList_load_row rfl 75 (.tmp 5) rfl (w.heap.size + 1) rfl _ _ _ _ HX1.out Tryd.underlying75 rfl hsize ?_)
        | (refine wpList_plain rfl fun _ hK => wp_store_row 75 (.tmp 4) (.tmp 39) rfl w.heap.size (intArr x) rfl rfl _ _ HX0.out hsize (by rw [hzs, intArr_size, hx]) hone (hK _ _ ?_)))
      refine bodyPost_ret (v := .agg (intArr x)) (results_cell_row rfl _ _ w.heap.size 75 (intArr x) (0, 0) _ rfl (setRow_heap wo _ _ _ _ _ HX0.out) Tryd.underlying75 rfl hsize) rfl ⟨?_, below_setRow hb _ (Nat.le_refl _) _⟩
      rw [HF.out, List.drop_length, List.foldl_nil]

end Go.Proofs.YtibndkkbmgbogaaDoor
