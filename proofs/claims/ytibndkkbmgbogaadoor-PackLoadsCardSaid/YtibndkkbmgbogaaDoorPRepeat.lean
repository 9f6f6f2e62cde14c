/- Package slices' Repeat at one number. Conditions: as often as 1 to 65535. -/
import Derived.Laws.CopyRow
import Derived.Laws.CopyOwn
import Derived.BigRegion
import Derived.Test.YtibndkkbmgbogaaDoorProg
import Derived.Test.YtibndkkbmgbogaaDoorBase
import Derived.Test.YtibndkkbmgbogaaDoorPMul
import Derived.OwnWalk
import Derived.Outline
namespace Go.Proofs.YtibndkkbmgbogaaDoor
open Go Go.RowKit

/-- a row of k, of which n are filled -/
def repRow (v : Int) (k n : Nat) : Array Value := (List.replicate n (Value.int .i64 v) ++ List.replicate (k - n) (Value.int .i64 0)).toArray
theorem repRow_zero (v : Int) (k : Nat) : repRow v k 0 = Array.replicate k (.int .i64 0) := by simp [repRow]
theorem repRow_size (v : Int) (k n : Nat) (h : n ≤ k) : (repRow v k n).size = k := by simp [repRow]; omega
theorem repRow_step (v : Int) (k n m : Nat) (_ : n ≤ k) (_ : n + m ≤ k) :
    ((repRow v k n).toList.take n ++ List.replicate m (Value.int .i64 v) ++ (repRow v k n).toList.drop (n + m)).toArray = repRow v k (n + m) := by
  unfold repRow
  congr 1
  rw [List.take_left' (by simp), List.drop_append]
  simp only [List.length_replicate, List.drop_replicate]
  rw [show n - (n + m) = 0 by omega, show n + m - n = m by omega]
  simp only [List.replicate_zero, List.nil_append]
  rw [List.replicate_append_replicate, show k - n - m = k - (n + m) by omega]

theorem below_row' (w : World) (t : Nat) (cs : Array Value) : Below t w (w.setRow t cs) := ⟨rfl, rfl, rfl, by simp [World.setRow], fun k hk => setRow_other w t k cs (by omega)⟩
def Repd (w : World) (v : Int) (k : Nat) (e : Ending) (w' : World) : Prop := ∃ g, w.heap.size ≤ g ∧ e = .returned (.slice (some ⟨g, 0, none⟩) k k) ∧ Blk w' g 3 (repRow v k k) ∧ Below w.heap.size w w'

theorem info_int : (Tryd.prog.info? 3).map (fun i => (i.zero, i.size, i.bytes)) = some (some (.int .i64 0), 1, 8) := by kernel_rfl
theorem info_int1 : (Tryd.prog.info? 3).map (·.size) = some 1 := by kernel_rfl

set_option maxRecDepth 100000 in
set_option maxHeartbeats 1000000 in
theorem repeat_any (b : Nat) (v : Int) (k : Nat) (w : World) (hb : Blk w b 3 #[.int .i64 v]) (hk : 1 ≤ k) (hk2 : k < 65536) :
    Calls Tryd.prog 90 #[.slice (some ⟨b, 0, none⟩) 1 1, .int .i64 k] w (Repd w v k) := by
  have hm := fun w => mul_one k w hk2
  have wk : IntKind.u64.wrap (k : Int) = (k : Int) := by rw [IntKind.wrap_u64]; omega
  obtain ⟨i0, hi, hz0, hz1, hz2⟩ := info_parts info_int
  have hmk : ∀ W : World, (Instr.makeSlice 24 (.int .i64 k) (.int .i64 k)).run Tryd.prog W = .ok (.slice (some ⟨W.heap.size, 0, none⟩) k k) (W.alloc (.cells (repRow v k 0) 3)) := fun W => by
    have h := run_makeSlice (P := Tryd.prog) W 24 3 i0 (.int .i64 0) Tryd.underlying24 hi hz0 .i64 .i64 (k : Int) (k : Int) (by omega) (Int.le_refl _) (by rw [hz1]; omega) (by rw [hz2]; omega) (by omega)
    have hmc : madeCells (Value.int .i64 0).cells k = Array.replicate k (.int .i64 0) := by
      apply Array.ext
      · simp [madeCells]
      · intro i h1 h2
        simp [madeCells, Value.cells, Nat.mod_one]
    rw [hz1, Int.toNat_natCast, Nat.mul_one, hmc] at h
    rw [repRow_zero]
    exact h
  have hcp : ∀ (W : World) (g n m : Nat) (ty : TypeId) (src : Addr) (cap sl scap : Nat), Blk W g 3 (repRow v k n) → n ≤ k → m ≤ k - n → m = Nat.min sl (k - n) → (∀ j, j < m → W.cell? (src.add j) = some (.int .i64 v)) →
      (Builtin.copy_ #[24, 24] ty #[.slice (some ⟨g, n, none⟩) (k - n) cap, .slice (some src) sl scap]).run Tryd.prog W = .ok (goInt m) (W.setRow g (repRow v k (n + m))) := fun W g n m ty src cap sl scap hB hn hm' hmin hs => by
    have h := run_copy_row (P := Tryd.prog) W 24 24 ty 3 g n (k - n) cap src sl scap (repRow v k n) 3 (List.replicate m (.int .i64 v)) Tryd.underlying24 info_int1 hB (by simpa using hmin)
      (fun j u hj => by
        have hj2 : j < m := by have := (List.getElem?_eq_some_iff.1 hj).1; simpa using this
        rw [hs j hj2]
        simp [hj2] at hj
        rw [hj]) (by simp [repRow_size v k n hn]; omega) (by intro u hu; rw [List.eq_of_mem_replicate hu]; rfl)
    rw [List.length_replicate, repRow_step v k n m hn (by omega)] at h
    exact h
  have HCP := hide hcp
  have c1 := hcp (w.alloc (.cells (repRow v k 0) 3)) w.heap.size 0 1 3 ⟨b, 0, none⟩ k 1 1 (Blk.new _ _ _) (by omega) (by omega) (by show 1 = min 1 (k - 0); omega) (fun j hj => by
    obtain rfl : j = 0 := by omega
    exact (hb.alloc _).cell 0)
  clear hcp
  rw [Nat.sub_zero] at c1
  go_enter Tryd.func90, Tryd.ntmps90
  go_wp2_with ((go_at_call 95; refine (hm _).mono ?_; rintro e w' ⟨rfl, rfl⟩))
  clear c1 hmk hm
  have hW1 : Blk ((w.alloc (.cells (repRow v k 0) 3)).setRow w.heap.size (repRow v k (0 + 1))) w.heap.size 3 (repRow v k 1) := setRow_heap _ _ _ _ _ _ (Blk.new w 3 (repRow v k 0))
  have hb1 : Below w.heap.size w ((w.alloc (.cells (repRow v k 0) 3)).setRow w.heap.size (repRow v k (0 + 1))) := ((Below.refl _ _).alloc (Nat.le_refl _) _).trans (below_row' _ _ _)
  generalize ((w.alloc (.cells (repRow v k 0) 3)).setRow w.heap.size (repRow v k (0 + 1))) = W1 at *
  have HB := hide hb1
  clear hb1
  generalize hgg : w.heap.size = g at *
  go_loopw [8] (fun i wr => ∃ n : Nat, 1 ≤ n ∧ n ≤ k ∧ i = .int .i64 n ∧ Blk wr g 3 (repRow v k n) ∧ Below g W1 wr) (fun i _ => k - (intOf i).toNat)
  case atStart => exact ⟨1, by omega, hk, rfl, hW1, Below.refl _ _⟩
  case round =>
    obtain ⟨n, hn1, hn, rfl, hB, hbl⟩ := hrel
    by_cases hlt : n < k
    · have c2 := HCP.out wr.drew g n (min n (k - n)) 3 ⟨g, 0, none⟩ (k - n) n k hB hn (by omega) rfl (fun j hj => by
        have h2 := Blk.cell hB j
        have e : (repRow v k n)[j]? = some (.int .i64 v) := by simp [repRow, List.getElem?_append, show j < n by omega]
        rw [e] at h2
        have ea : (⟨g, 0, none⟩ : Addr).add j = ⟨g, j, none⟩ := by unfold Addr.add; split <;> simp_all
        rw [ea]
        exact h2)
      have hm' : (min n (k - n) : Nat) ≤ 65536 := by omega
      have HH := hide (show n + min n (k - n) ≤ k ∧ n < n + min n (k - n) by omega)
      generalize min n (k - n) = m at *
      go_wp2
      have hlt' : (n : Int) ≤ (k : Int) := by omega
      go_region
      have h3 : Blk (wr.drew.setRow g (repRow v k (n + m))) g 3 (repRow v k (n + m)) := setRow_heap _ _ _ _ _ _ hB
      have h4 : Below g W1 (wr.drew.setRow g (repRow v k (n + m))) := hbl.drew.trans (below_row' _ _ _)
      have h5 := HH.out
      generalize wr.drew.setRow g (repRow v k (n + m)) = W5 at *
      go_wp2
      go_roundw
      case rel => exact ⟨n + m, by omega, h5.1, by go_num, h3, h4⟩
      case measure => simp [intOf]; omega
    · obtain rfl : n = k := by omega
      go_wp2
      go_ret
      exact ⟨g, by omega, rfl, hB, by rw [hgg]; exact HB.out.trans hbl⟩
end Go.Proofs.YtibndkkbmgbogaaDoor
