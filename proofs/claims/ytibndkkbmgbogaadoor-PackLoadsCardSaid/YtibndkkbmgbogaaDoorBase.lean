/- Plain words on memory and lists for the proofs of this seat: a slice that reads as a list; ranges as three cells. Conditions: none. -/
import Derived.Below
import Derived.Laws.OwnMore
import Derived.Deep.AppendLies
import Derived.Deep.Draws
import Derived.WalkKit
namespace Go.Proofs.YtibndkkbmgbogaaDoor
open Go Go.RowKit

/-- A range of scalars with what it says. -/
structure Rg where
  fr : Int
  to : Int
  vl : Int
  deriving DecidableEq

def Rg.cells (x : Rg) : List Value := [.int .i64 x.fr, .int .i64 x.to, .int .i64 x.vl]
def rgCells (l : List Rg) : List Value := l.flatMap Rg.cells
def intCells (l : List Int) : List Value := l.map (Value.int .i64)

def Rg.okB (x : Rg) : Bool := decide (0 ≤ x.fr) && decide (x.fr ≤ x.to) && decide (x.to ≤ 1114111) && decide (0 ≤ x.vl) && decide (x.vl ≤ 31)

theorem hide {p : Prop} (h : p) : Hid p := h
theorem bcell {w W : World} {B : Nat} (hb : Below B w W) : (∀ b o, b < B → W.cell? ⟨b, o, none⟩ = w.cell? ⟨b, o, none⟩) ∧ (∀ b o, b < B → W.frozen? ⟨b, o, none⟩ = w.frozen? ⟨b, o, none⟩) :=
  ⟨fun b o h => hb.cell (p := ⟨b, o, none⟩) h, fun b o h => hb.frozen (p := ⟨b, o, none⟩) h⟩
theorem ret_bool {a b : Bool} (h : a = b) : Ending.returned (.bool a) = .returned (.bool b) := by rw [h]
theorem ret_i64 {a b : Int} (h : a = b) : Ending.returned (.int .i64 a) = .returned (.int .i64 b) := by rw [h]

theorem rgCells_length (l : List Rg) : (rgCells l).length = 3 * l.length := by
  induction l with
  | nil => rfl
  | cons x l ih =>
    have e : rgCells (x :: l) = x.cells ++ rgCells l := rfl
    rw [e, List.length_append, ih, List.length_cons]
    show 3 + 3 * l.length = _
    omega

theorem rgCells_get (l : List Rg) : ∀ k (h : k < l.length), (rgCells l)[3 * k]? = some (.int .i64 l[k].fr) ∧ (rgCells l)[3 * k + 1]? = some (.int .i64 l[k].to) ∧ (rgCells l)[3 * k + 2]? = some (.int .i64 l[k].vl) := by
  induction l with
  | nil => intro k h; simp at h
  | cons x l ih =>
    intro k h
    cases k with
    | zero => exact ⟨rfl, rfl, rfl⟩
    | succ k =>
      have h' : k < l.length := by simpa using h
      have e : ∀ j, (rgCells (x :: l))[3 * (k + 1) + j]? = (rgCells l)[3 * k + j]? := by
        intro j
        have : rgCells (x :: l) = x.cells ++ rgCells l := rfl
        rw [this, List.getElem?_append_right (by simp [Rg.cells]; omega)]
        congr 1
        simp [Rg.cells]; omega
      exact ⟨(e 0).trans (ih k h').1, (e 1).trans (ih k h').2.1, (e 2).trans (ih k h').2.2⟩

/-- The slice with base 'A' and n elements of 'size' cells each holds 'xs', below block 'B'. -/
def Rds (w : World) (B size : Nat) (A : Option Addr) (n : Nat) (xs : List Value) : Prop :=
  xs.length = n * size ∧ n ≤ 9223372036854775807 ∧ (0 < n → ∃ b o, A = some ⟨b, o, none⟩ ∧ b < B ∧ ∀ j u, xs[j]? = some u → w.cell? ⟨b, o + j, none⟩ = some u)

section
variable {w w' : World} {B B' size n : Nat} {A : Option Addr} {xs : List Value}
theorem Rds.keep (h : Rds w B size A n xs) (hk : ∀ p : Addr, p.block < B → w'.cell? p = w.cell? p) : Rds w' B size A n xs :=
  ⟨h.1, h.2.1, fun hn => let ⟨b, o, e, hb, hc⟩ := h.2.2 hn; ⟨b, o, e, hb, fun j u hu => (hk ⟨b, o + j, none⟩ hb).trans (hc j u hu)⟩⟩
theorem Rds.more (h : Rds w B size A n xs) (hB : B ≤ B') : Rds w B' size A n xs :=
  ⟨h.1, h.2.1, fun hn => let ⟨b, o, e, hb, hc⟩ := h.2.2 hn; ⟨b, o, e, Nat.lt_of_lt_of_le hb hB, hc⟩⟩
theorem Rds.below (h : Rds w B size A n xs) (hb : Below B w w') : Rds w' B size A n xs := h.keep fun _ hp => hb.cell hp
/-- a range in the k-th place -/
theorem Rds.rg {l : List Rg} (h : Rds w B 3 A n (rgCells l)) {k : Nat} (hk : k < l.length) :
    ∃ b o, A = some ⟨b, o, none⟩ ∧ b < B ∧ w.cell? ⟨b, o + k * 3, none⟩ = some (.int .i64 l[k].fr) ∧ w.cell? ⟨b, o + k * 3 + 1, none⟩ = some (.int .i64 l[k].to) ∧ w.cell? ⟨b, o + k * 3 + 2, none⟩ = some (.int .i64 l[k].vl) := by
  have hl := h.1
  rw [rgCells_length] at hl
  obtain ⟨b, o, e, hb, hc⟩ := h.2.2 (by omega)
  obtain ⟨h0, h1, h2⟩ := rgCells_get l k hk
  rw [Nat.mul_comm 3 k] at h0 h1 h2
  exact ⟨b, o, e, hb, hc _ _ h0, by rw [Nat.add_assoc]; exact hc _ _ h1, by rw [Nat.add_assoc]; exact hc _ _ h2⟩
theorem Rds.rg_len {l : List Rg} (h : Rds w B 3 A n (rgCells l)) : l.length = n := by
  have hl := h.1
  rw [rgCells_length] at hl
  omega
theorem intCells_length (l : List Int) : (intCells l).length = l.length := by simp [intCells]
theorem Rds.int_len {l : List Int} (h : Rds w B 1 A n (intCells l)) : l.length = n := by
  have hl := h.1
  rw [intCells_length] at hl
  omega
/-- a number in the k-th place -/
theorem Rds.int {l : List Int} (h : Rds w B 1 A n (intCells l)) {k : Nat} (hk : k < l.length) :
    ∃ b o, A = some ⟨b, o, none⟩ ∧ b < B ∧ w.cell? ⟨b, o + k, none⟩ = some (.int .i64 l[k]) := by
  have hl := h.int_len
  obtain ⟨b, o, e, hb, hc⟩ := h.2.2 (by omega)
  exact ⟨b, o, e, hb, hc k _ (by simp [intCells, hk])⟩
theorem Rds.drewN (h : Rds w B size A n xs) (k : Nat) : Rds (w.drewN k) B size A n xs := h
end

/-- The slice holds slices of numbers: the rows 'll'. -/
def Rows (w : World) (B : Nat) (A : Option Addr) (n : Nat) (ll : List (List Int)) : Prop :=
  ∃ ss : List (Option Addr × Nat × Nat), Rds w B 1 A n (ss.map fun s => .slice s.1 s.2.1 s.2.2) ∧ ss.length = ll.length ∧ ∀ i (h : i < ss.length) (h' : i < ll.length), Rds w B 1 ss[i].1 ss[i].2.1 (intCells ll[i])
section
variable {w w' : World} {B B' n : Nat} {A : Option Addr} {ll : List (List Int)}
theorem Rows.len (h : Rows w B A n ll) : ll.length = n := by
  obtain ⟨ss, h, hl, _⟩ := h
  have := h.1
  simp at this
  omega
theorem Rows.max (h : Rows w B A n ll) : n ≤ 9223372036854775807 := by
  obtain ⟨ss, h, hl, _⟩ := h
  exact h.2.1
theorem Rows.keep (h : Rows w B A n ll) (hk : ∀ p : Addr, p.block < B → w'.cell? p = w.cell? p) : Rows w' B A n ll := by
  obtain ⟨ss, h, hl, hr⟩ := h
  exact ⟨ss, h.keep hk, hl, fun i h1 h2 => (hr i h1 h2).keep hk⟩
theorem Rows.more (h : Rows w B A n ll) (hB : B ≤ B') : Rows w B' A n ll := by
  obtain ⟨ss, h, hl, hr⟩ := h
  exact ⟨ss, h.more hB, hl, fun i h1 h2 => (hr i h1 h2).more hB⟩
theorem Rows.below (h : Rows w B A n ll) (hb : Below B w w') : Rows w' B A n ll := h.keep fun _ hp => hb.cell hp
theorem Rows.drewN (h : Rows w B A n ll) (k : Nat) : Rows (w.drewN k) B A n ll := h
theorem Rows.row (h : Rows w B A n ll) {k : Nat} (hk : k < ll.length) :
    ∃ b o A' n' c', A = some ⟨b, o, none⟩ ∧ b < B ∧ w.cell? ⟨b, o + k, none⟩ = some (.slice A' n' c') ∧ Rds w B 1 A' n' (intCells ll[k]) := by
  have hn := h.len
  obtain ⟨ss, h, hl, hr⟩ := h
  obtain ⟨b, o, e, hb, hc⟩ := h.2.2 (by omega)
  have hk2 : k < ss.length := by omega
  exact ⟨b, o, ss[k].1, ss[k].2.1, ss[k].2.2, e, hb, hc k _ (by rw [List.getElem?_map, List.getElem?_eq_getElem hk2]; rfl), hr k hk2 hk⟩
end

theorem Rds.alloc {w : World} {B size n : Nat} {A : Option Addr} {xs : List Value} (h : Rds w B size A n xs) (hB : B ≤ w.heap.size) (o : Obj) : Rds (w.alloc o) (w.alloc o).heap.size size A n xs :=
  (h.below ((Below.refl _ _).alloc hB o)).more (by simp; omega)
theorem Rows.alloc {w : World} {B n : Nat} {A : Option Addr} {ll : List (List Int)} (h : Rows w B A n ll) (hB : B ≤ w.heap.size) (o : Obj) : Rows (w.alloc o) (w.alloc o).heap.size A n ll :=
  (h.below ((Below.refl _ _).alloc hB o)).more (by simp; omega)
theorem cell_new (w : World) (cs : Array Value) (t : TypeId) (i : Nat) : (w.alloc (.cells cs t)).cell? ⟨w.heap.size, i, none⟩ = cs[i]? :=
  cell_of_row _ _ i cs t (0, 0) (heap_alloc_new w _)

/-- Block g is just the cells cs of element type t, none frozen. -/
def Blk (w : World) (g : Nat) (t : TypeId) (cs : Array Value) : Prop := w.heap[g]? = some (.cells cs t (0, 0))
section
variable {w w' : World} {g : Nat} {t : TypeId} {cs : Array Value}
theorem Blk.lt (h : Blk w g t cs) : g < w.heap.size := (Array.getElem?_eq_some_iff.1 h).1
theorem Blk.cell (h : Blk w g t cs) (i : Nat) : w.cell? ⟨g, i, none⟩ = cs[i]? := cell_of_row w g i cs t (0, 0) h
theorem Blk.frozen (h : Blk w g t cs) (i : Nat) : w.frozen? ⟨g, i, none⟩ = false := frozen_of_row w g i cs t h
theorem Blk.new (w : World) (t : TypeId) (cs : Array Value) : Blk (w.alloc (.cells cs t)) w.heap.size t cs := heap_alloc_new w _
theorem Blk.alloc (h : Blk w g t cs) (o : Obj) : Blk (w.alloc o) g t cs := (Below.heap_alloc w o g h.lt).trans h
theorem Blk.set_ (h : Blk w g t cs) (i : Nat) (u : Value) : Blk (w.setCell ⟨g, i, none⟩ u) g t (cs.setIfInBounds i u) := by
  unfold Blk at h ⊢
  simp [World.setCell, Array.getElem?_modify, h]
theorem Blk.far (h : Blk w g t cs) {p : Addr} (hp : g ≠ p.block) (u : Value) : Blk (w.setCell p u) g t cs := (Below.heap_setCell w p u g hp).trans h
theorem Blk.below {B : Nat} (h : Blk w g t cs) (hb : Below B w w') (hg : g < B) : Blk w' g t cs := (hb.block g hg).trans h
theorem Blk.grown {row : Option Nat} (h : Blk w g t cs) (hb : w.grownBy w' row) (hg : some g ≠ row) : Blk w' g t cs := (hb.block g h.lt hg).trans h
theorem Blk.drewN (h : Blk w g t cs) (n : Nat) : Blk (w.drewN n) g t cs := h
end

/-- A trie as plain lists. -/
structure Tr where
  ix : List Int
  bl : List (List Int)
  deriving DecidableEq
def valB (v : Int) : Bool := decide (0 ≤ v) && decide (v ≤ 31)
def blockB (b : List Int) : Bool := decide (b.length = 256) && b.all valB
def Tr.rightB (T : Tr) : Bool := decide (T.ix.length = 4352) && T.ix.all (fun n => decide (0 ≤ n) && decide (n < T.bl.length)) && T.bl.all blockB

/-- A trie's value reads as T. -/
structure TrAt (w : World) (B : Nat) (A : Option Addr) (n : Nat) (A' : Option Addr) (n' : Nat) (T : Tr) : Prop where
  ix : Rds w B 1 A n (intCells T.ix)
  bl : Rows w B A' n' T.bl
section
variable {w w' : World} {B B' n n' : Nat} {A A' : Option Addr} {T : Tr}
theorem TrAt.keep (h : TrAt w B A n A' n' T) (hk : ∀ p : Addr, p.block < B → w'.cell? p = w.cell? p) : TrAt w' B A n A' n' T := ⟨h.ix.keep hk, h.bl.keep hk⟩
theorem TrAt.more (h : TrAt w B A n A' n' T) (hB : B ≤ B') : TrAt w B' A n A' n' T := ⟨h.ix.more hB, h.bl.more hB⟩
theorem TrAt.alloc (h : TrAt w B A n A' n' T) (hB : B ≤ w.heap.size) (o : Obj) : TrAt (w.alloc o) (w.alloc o).heap.size A n A' n' T := ⟨h.ix.alloc hB o, h.bl.alloc hB o⟩
theorem TrAt.below (h : TrAt w B A n A' n' T) (hb : Below B w w') : TrAt w' B A n A' n' T := ⟨h.ix.below hb, h.bl.below hb⟩
end

theorem below_drewN {B : Nat} {a w : World} (h : Below B a w) (n : Nat) : Below B a (w.drewN n) := ⟨h.os, h.tape, h.output, h.size, h.block⟩
theorem below_setRow {B : Nat} {a w : World} (h : Below B a w) (g : Nat) (hg : B ≤ g) (cs : Array Value) : Below B a (w.setRow g cs) :=
  h.trans ⟨rfl, rfl, rfl, by simp [World.setRow], fun k hk => by
    unfold World.setRow
    simp only [Array.getElem?_modify]
    rw [if_neg (by omega)]⟩
theorem drewN_below (B : Nat) (w : World) (n : Nat) : Below B w (w.drewN n) := below_drewN (Below.refl B w) n
theorem getD_get {α : Type} {l : List α} {i : Nat} (h : i < l.length) (d : α) : l.getD i d = l[i] := by
  rw [List.getD_eq_getElem?_getD, List.getElem?_eq_getElem h, Option.getD_some]
theorem drop_cons {α : Type} {l : List α} {k : Nat} (h : k < l.length) : l.drop k = l[k] :: l.drop (k + 1) := List.drop_eq_getElem_cons h
end Go.Proofs.YtibndkkbmgbogaaDoor
