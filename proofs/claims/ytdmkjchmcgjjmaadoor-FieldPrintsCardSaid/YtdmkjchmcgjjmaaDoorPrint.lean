/- The program's field.Print: records' print. Conditions: the slices read as the records; the print is of moderate size. -/
import Derived.Test.YtdmkjchmcgjjmaaDoorHexC
namespace Go.Proofs.YtdmkjchmcgjjmaaDoor
open Go Go.RowKit

/-- a record of whatever numbers, and where its fields lie -/
structure RZ where
  line : Int
  a : Int
  b : Int
  fs : List ByteArray
  A : Option Addr
  c : Nat
abbrev Rci := Int × Int × Int × List ByteArray
def RZ.rc (x : RZ) : Rci := (x.line, x.a, x.b, x.fs)
def RZ.cells (x : RZ) : List Value := [.int .i64 x.line, .int .i64 x.a, .int .i64 x.b, .slice x.A x.fs.length x.c]
def zCells (X : List RZ) : List Value := X.flatMap RZ.cells
def RX.z (x : RX) : RZ := ⟨x.line, x.a, x.b, x.fs, x.A, x.c⟩
def Rc.z (r : Rc) : Rci := (r.1, r.2.1, r.2.2.1, r.2.2.2)
theorem RX.z_rc (x : RX) : x.z.rc = x.rc.z := rfl
theorem zCells_z (X : List RX) : zCells (X.map RX.z) = recCells X := by
  unfold zCells recCells
  rw [List.flatMap_map]
  rfl
theorem zCells_length (l : List RZ) : (zCells l).length = 4 * l.length := by
  induction l with
  | nil => rfl
  | cons x r ih =>
    have e : zCells (x :: r) = x.cells ++ zCells r := rfl
    rw [e, List.length_append, ih, List.length_cons]
    show 4 + _ = _
    omega
theorem zCells_get (l : List RZ) : ∀ (k j : Nat) (h : k < l.length), j < 4 → (zCells l)[4 * k + j]? = l[k].cells[j]? := by
  induction l with
  | nil => intro k j h; simp at h
  | cons x r ih =>
    intro k j h hj
    have e : zCells (x :: r) = x.cells ++ zCells r := rfl
    have hl : x.cells.length = 4 := rfl
    cases k with
    | zero =>
      rw [e, List.getElem?_append_left (by omega)]
      simp
    | succ k =>
      rw [e, List.getElem?_append_right (by omega), hl, show 4 * (k + 1) + j - 4 = 4 * k + j by omega, ih k j (by simpa using h) hj]
      simp
section
variable {w : World} {B n : Nat} {A : Option Addr}
theorem Rds.rz_len {l : List RZ} (h : Rds w B 4 A n (zCells l)) : l.length = n := by
  have hl := h.1
  rw [zCells_length] at hl
  omega
theorem Rds.rz {l : List RZ} (h : Rds w B 4 A n (zCells l)) {k : Nat} (hk : k < l.length) :
    ∃ b o, A = some ⟨b, o, none⟩ ∧ b < B ∧ w.cell? ⟨b, o + k * 4, none⟩ = some (.int .i64 l[k].line) ∧ w.cell? ⟨b, o + k * 4 + 1, none⟩ = some (.int .i64 l[k].a) ∧ w.cell? ⟨b, o + k * 4 + 2, none⟩ = some (.int .i64 l[k].b) ∧ w.cell? ⟨b, o + k * 4 + 3, none⟩ = some (.slice l[k].A l[k].fs.length l[k].c) := by
  have hl := h.rz_len
  obtain ⟨b, o, e, hb, hc⟩ := h.2.2 (by omega)
  have hg := fun j hj => zCells_get l k j hk hj
  refine ⟨b, o, e, hb, ?_, ?_, ?_, ?_⟩
  · rw [show o + k * 4 = o + (4 * k + 0) by omega]
    exact hc _ _ ((hg 0 (by decide)).trans rfl)
  · rw [show o + k * 4 + 1 = o + (4 * k + 1) by omega]
    exact hc _ _ ((hg 1 (by decide)).trans rfl)
  · rw [show o + k * 4 + 2 = o + (4 * k + 2) by omega]
    exact hc _ _ ((hg 2 (by decide)).trans rfl)
  · rw [show o + k * 4 + 3 = o + (4 * k + 3) by omega]
    exact hc _ _ ((hg 3 (by decide)).trans rfl)
end

/-- a record's fields' print -/
def fldS (fs : List ByteArray) : List UInt8 := fs.flatMap fun f => 59 :: f.data.toList
/-- .. its numbers' -/
def numS (a b : Int) : List UInt8 := if b = a then codeS a else codeS a ++ (46 :: 46 :: codeS b)
/-- a record's print -/
def recS (r : Rci) : List UInt8 := numS r.2.1 r.2.2.1 ++ (fldS r.2.2.2 ++ [10])
def printS (l : List Rci) : List UInt8 := l.flatMap recS
def printB (l : List Rci) : ByteArray := ⟨(printS l).toArray⟩
theorem fldS_cons (f : ByteArray) (r : List ByteArray) : fldS (f :: r) = (59 :: f.data.toList) ++ fldS r := rfl

/-- between two writes -/
structure PS (n0 gx : Nat) (cs : Array Value) (out : List UInt8) (w W : World) : Prop where
  bld : Lib.IsBuilderF 66 5 n0 n0 (Lib.byteCells out) W
  rc : Blk W gx 31 cs
  below : Below n0 w W
  ne : n0 ≠ gx
theorem PS.write {n0 gx : Nat} {cs : Array Value} {out s : List UInt8} {w W W' : World} (h : PS n0 gx cs out w W) (hb : Lib.BuilderAtF 66 5 n0 n0 (.pointer (some ⟨n0, 0, none⟩)) (Lib.byteCells (out ++ s)) W') (hbl : Below n0 W W') (ho : Lib.OthersKept 5 (some n0) W W') : PS n0 gx cs (out ++ s) w W' :=
  ⟨.inr hb, ho gx _ h.rc (fun e => h.ne (by injection e with e; exact e.symm)) (fun c fz e => by injection e with _ e; exact absurd e (by decide)), h.below.trans hbl, h.ne⟩
theorem PS.size {n0 gx : Nat} {cs : Array Value} {out : List UInt8} {w W : World} (h : PS n0 gx cs out w W) : n0 ≤ W.heap.size := by
  rcases h.bld with h | h <;> exact Nat.le_of_lt h.lt
theorem byteCells_str (out : List UInt8) (s : ByteArray) : Lib.byteCells out ++ Lib.strCells s = Lib.byteCells (out ++ s.data.toList) := by simp [Lib.byteCells, Lib.strCells]
theorem byteCells_one (out : List UInt8) : Lib.byteCells out ++ [.int .u8 10] = Lib.byteCells (out ++ [10]) := by simp [Lib.byteCells]
theorem str_write {n0 gx : Nat} {cs : Array Value} {out s rest : List UInt8} {w W : World} (h : PS n0 gx cs out w W) (hl : (out ++ (s ++ rest)).length ≤ 1000000) :
    Calls Tryd.prog 38 #[.pointer (some ⟨n0, 0, none⟩), .string ⟨s.toArray⟩] W fun e w' => ∃ v, e = .returned v ∧ PS n0 gx cs (out ++ s) w w' := by
  refine (Tryd.Builder_WriteString_k n0 n0 (Lib.byteCells out) ⟨s.toArray⟩ W h.bld ?_ h.size).mono ?_
  · rw [Lib.byteCells_length, size_mk]
    simp at hl ⊢
    omega
  · rintro e w' ⟨rfl, h1, h2, h3⟩
    rw [byteCells_str] at h1
    exact ⟨_, rfl, h.write h1 h2 h3⟩
theorem ten_write {n0 gx : Nat} {cs : Array Value} {out rest : List UInt8} {w W : World} (h : PS n0 gx cs out w W) (hl : (out ++ ([10] ++ rest)).length ≤ 1000000) :
    Calls Tryd.prog 40 #[.pointer (some ⟨n0, 0, none⟩), .int .u8 10] W fun e w' => ∃ v, e = .returned v ∧ PS n0 gx cs (out ++ [10]) w w' := by
  refine (Tryd.Builder_WriteByte_k n0 n0 (Lib.byteCells out) 10 W h.bld ?_ h.size).mono ?_
  · rw [Lib.byteCells_length]
    simp at hl ⊢
    omega
  · rintro e w' ⟨rfl, h1, h2, h3⟩
    rw [byteCells_one] at h1
    exact ⟨_, rfl, h.write h1 h2 h3⟩
theorem PS.first {n0 : Nat} {out : List UInt8} {w W : World} (h : Lib.IsBuilderF 66 5 n0 n0 (Lib.byteCells out) W) (hb : Below n0 w W) (cs : Array Value) : PS n0 W.heap.size cs out w (W.alloc (.cells cs 31)) := by
  have hlt : n0 < W.heap.size := by rcases h with h | h <;> exact h.lt
  refine ⟨?_, Blk.new _ _ _, hb.alloc (Nat.le_of_lt hlt) _, Nat.ne_of_lt hlt⟩
  rcases h with h | h
  · exact .inl (h.alloc _)
  · exact .inr (h.alloc _)
end Go.Proofs.YtdmkjchmcgjjmaaDoor
