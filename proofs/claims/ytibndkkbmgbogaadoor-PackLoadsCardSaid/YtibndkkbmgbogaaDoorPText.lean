/- Bytes put behind a text: the program's (*text).one, (*text).two, parts. Conditions: the text's memory is as the words below say; the numbers fit one byte, two bytes. -/
import Derived.Test.YtibndkkbmgbogaaDoorProg
import Derived.Test.YtibndkkbmgbogaaDoorBase
import Derived.Test.YtibndkkbmgbogaaDoorClone
import Derived.Test.YtibndkkbmgbogaaDoorAdd
import Derived.Test.YtibndkkbmgbogaaDoorPCollect
import Derived.Laws.ComplexArith
import Derived.Laws.FloatArith
import Derived.Laws.Cover2
import Derived.Laws.Cover3
import Derived.Deep.AppendLies
import Derived.OwnWalk
import Derived.Outline
namespace Go.Proofs.YtibndkkbmgbogaaDoor
open Go Go.RowKit

def byteV (b : UInt8) : Value := .int .u8 (b.toNat : Int)
def byteCells (l : List UInt8) : List Value := l.map byteV
theorem byteCells_length (l : List UInt8) : (byteCells l).length = l.length := by simp [byteCells]
theorem byteCells_app (l m : List UInt8) : byteCells (l ++ m) = byteCells l ++ byteCells m := by simp [byteCells]
theorem infoByte : (Tryd.prog.info? 5).map (fun i => (i.zero, i.size, i.bytes)) = some (some (.int .u8 0), 1, 1) := by kernel_rfl

/-- The writer at block g holds the bytes l; its row lies from block n0 on. -/
def Wr (w : World) (n0 g : Nat) (l : List UInt8) : Prop := ∃ v, Blk w g 115 #[v] ∧ w.ownsRow n0 5 1 v l.length (byteCells l)
theorem Wr.grow {w w' : World} {n0 g : Nat} {l : List UInt8} (h : Wr w n0 g l) (hg : w.grownBy w' none) : Wr w' n0 g l := by
  obtain ⟨v, h1, h2⟩ := h
  exact ⟨v, h1.grown hg (by simp), h2.kept hg (by cases v.ownBlock <;> simp)⟩
theorem Wr.below {w w' : World} {n0 g : Nat} {l : List UInt8} (h : Wr w n0 g l) (hb : Below w.heap.size w w') : Wr w' n0 g l := h.grow (grown_of_below hb none)
/-- blocks that hold no bytes are as they were, but for one -/
def KeptT (g : Nat) (w w' : World) : Prop := ∀ b t cs, t ≠ 5 → b ≠ g → Blk w b t cs → Blk w' b t cs
theorem KeptT.trans {g : Nat} {w w1 w2 : World} (h : KeptT g w w1) (h' : KeptT g w1 w2) : KeptT g w w2 := fun b t cs ht hb hk => h' b t cs ht hb (h b t cs ht hb hk)
theorem KeptT.of_below {g : Nat} {w w' : World} (h : Below w.heap.size w w') : KeptT g w w' := fun _ _ _ _ _ hk => hk.grown (grown_of_below h none) (by simp)
/-- bytes are put behind; below n0 all but the writer's block is as it was -/
def Wrote (w : World) (n0 g : Nat) (l : List UInt8) (e : Ending) (w' : World) : Prop := e = .returned (.tuple #[]) ∧ Wr w' n0 g l ∧ Kept n0 g g w w' ∧ KeepsFrom 0 w w' ∧ KeptT g w w'

theorem floats_back : ∀ n : Fin 256, floatToIntVal .f64 (floatOfInt .f64 (n.val : Int)) .i64 = some (n.val : Int) := by decide +kernel
theorem float_back (n : Nat) (h : n < 256) : floatToIntVal .f64 (floatOfInt .f64 (n : Int)) .i64 = some (n : Int) := floats_back ⟨n, h⟩

set_option maxHeartbeats 400000 in
theorem parts_any (n : Nat) (w : World) (h : n < 65536) : Calls Tryd.prog 96 #[.int .i64 n] w fun e w' => e = .returned (.complex .f64 (floatOfInt .f64 ((n / 256 : Nat) : Int)) (floatOfInt .f64 ((n % 256 : Nat) : Int))) ∧ w = w' := by
  go_enter Tryd.func96, Tryd.ntmps96
  go_wp2
  go_ret
  exact ⟨rfl, rfl⟩

set_option maxRecDepth 100000 in
set_option maxHeartbeats 800000 in
theorem one_b (n0 g b : Nat) (l : List UInt8) (w : World) (hw : Wr w n0 g l) (hn : n0 ≤ w.heap.size) (hb : b < 256) (hl : l.length ≤ 1000000000) :
    Calls Tryd.prog 92 #[.pointer (some ⟨g, 0, none⟩), .int .i64 b] w (Wrote w n0 g (l ++ [UInt8.ofNat b])) := by
  obtain ⟨i0, hi, hz0, hz1, hz2⟩ := info_parts infoByte
  obtain ⟨v, k0, ho⟩ := hw
  have c0 := k0.cell 0
  have cl := k0.lt
  simp only [List.getElem?_toArray, List.getElem?_cons_zero] at c0
  have hgi := own_ne (ho.alloc (.cells #[.int .u8 b] 5)) (k0.alloc _) (by decide)
  have HO := hide ho
  clear ho
  go_enter Tryd.func92, Tryd.ntmps92
  go_wp2_with (at_builtin; go_must (refine wpList_append_lies _ rfl (.tmp 8) (.tmp 11) 45 rfl n0 5 i0 (.int .u8 0) 1 1 Tryd.underlying45 hi hz0 hz1 hz2 rfl (by decide) v l.length (byteCells l) rfl (HO.out.alloc _) ⟨w.heap.size, 0, none⟩ 1 1 [.int .u8 b] rfl rfl (cell_one_new _ _ _) (by simp [Value.oneCell']) (by omega) (by unfold maxLen; omega) (by omega) (by simp; omega) _ rfl ?_); intro g' cap' w1 hown1 hgrow1 _ _; have HO1 := hide hown1; have HG := hide hgrow1; have k1 := (k0.alloc (.cells #[.int .u8 b] 5)).grown hgrow1 hgi; have e0 := k1.cell 0; have ef := k1.frozen 0; have el := k1.lt; clear hown1 hgrow1; simp only [List.getElem?_toArray, List.getElem?_cons_zero] at e0)
  go_end0
  have hga := World.grownBy_alloc w (.cells #[.int .u8 b] 5) none
  have hgs := grownBy_setCell w1 g 0 (.slice (some ⟨g', 0, none⟩) (l.length + 1) cap')
  have hs1 := HG.out.size
  rw [World.size_alloc] at hs1
  refine ⟨rfl, ⟨.slice (some ⟨g', 0, none⟩) (l.length + 1) cap', k1.set_ 0 _, ?_⟩, ?_, ?_, fun d t cs ht hd hk => ?_⟩
  · have e : byteCells (l ++ [UInt8.ofNat b]) = byteCells l ++ [.int .u8 (b : Int)] := by
      rw [byteCells_app]
      simp [byteCells, byteV, UInt8.toNat_ofNat', Nat.mod_eq_of_lt hb]
    rw [e, List.length_append]
    exact HO1.out.kept hgs (.inr (fun e => own_ne HO1.out k1 (by decide) e.symm))
  · exact (Kept.grown hga hn (by simp)).trans ((Kept.grown HG.out (by simp; omega) (fun k e => .inl (HO.out.lt k e).1)).trans (Kept.grown hgs (by omega) (fun k e => by cases e; exact .inr (.inl rfl))))
  · exact (KeepsFrom.of_cells hga (by simp)).trans ((KeepsFrom.of_cells HG.out (fun j e => own_cells (HO.out.alloc _) e)).trans (KeepsFrom.of_cells hgs (fun j e => by cases e; exact ⟨_, _, _, k1⟩)))
  · have hk1 := hk.alloc (.cells #[.int .u8 b] 5)
    exact (hk1.grown HG.out (own_ne (HO.out.alloc _) hk1 (Ne.symm ht))).grown hgs (by intro e; cases e; exact hd rfl)

theorem Wrote.len {w w' : World} {n0 g : Nat} {l : List UInt8} {e : Ending} (h : Wrote w n0 g l e w') : w.heap.size ≤ w'.heap.size := h.2.2.1.size

set_option maxRecDepth 100000 in
set_option maxHeartbeats 800000 in
theorem two_b (n0 g n : Nat) (l : List UInt8) (w : World) (hw : Wr w n0 g l) (hn : n0 ≤ w.heap.size) (hb : n < 65536) (hl : l.length ≤ 999999999) :
    Calls Tryd.prog 91 #[.pointer (some ⟨g, 0, none⟩), .int .i64 n] w (Wrote w n0 g (l ++ [UInt8.ofNat (n / 256), UInt8.ofNat (n % 256)])) := by
  have f1 := fun W : World => run_convert_float_int (P := Tryd.prog) W 157 3 .f64 .i64 (floatOfInt .f64 ((n / 256 : Nat) : Int)) ((n / 256 : Nat) : Int) (by kernel_rfl) Tryd.underlying3 (float_back (n / 256) (by omega))
  have f2 := fun W : World => run_convert_float_int (P := Tryd.prog) W 157 3 .f64 .i64 (floatOfInt .f64 ((n % 256 : Nat) : Int)) ((n % 256 : Nat) : Int) (by kernel_rfl) Tryd.underlying3 (float_back (n % 256) (by omega))
  go_enter Tryd.func91, Tryd.ntmps91
  have hp := parts_any n w hb
  generalize floatOfInt .f64 ((n / 256 : Nat) : Int) = fa at *
  generalize floatOfInt .f64 ((n % 256 : Nat) : Int) = fb at *
  go_wp2_with fail
  refine hp.mono ?_
  rintro e _ ⟨rfl, rfl⟩
  clear hp
  go_wp2_with fail
  refine (one_b n0 g (n / 256) l w hw hn (by omega) (by omega)).mono ?_
  rintro e w1 ⟨rfl, h1, h2, h3, k3⟩
  go_wp2_with fail
  refine (one_b n0 g (n % 256) _ w1 h1 (Nat.le_trans hn h2.size) (by omega) (by simp; omega)).mono ?_
  rintro e w2 ⟨rfl, h4, h5, h6, k6⟩
  go_wp2
  go_end0
  exact ⟨rfl, by simpa using h4, h2.trans h5, h3.trans h6, k3.trans k6⟩
end Go.Proofs.YtibndkkbmgbogaaDoor
