/- Plain words on memory and lists for the proofs of this seat: a slice that reads as a list; a block; a row of one's own. Conditions: none. -/
import Derived.Below
import Derived.Laws.OwnMore
import Derived.Deep.AppendLies
import Derived.Deep.Draws
import Derived.WalkKit
namespace Go.Proofs.YtdmkjchmcgjjmaaDoor
open Go Go.RowKit

def intCells (l : List Int) : List Value := l.map (Value.int .i64)
def strCells (l : List ByteArray) : List Value := l.map Value.string

theorem hide {p : Prop} (h : p) : Hid p := h
theorem bcell {w W : World} {B : Nat} (hb : Below B w W) : (∀ b o, b < B → W.cell? ⟨b, o, none⟩ = w.cell? ⟨b, o, none⟩) ∧ (∀ b o, b < B → W.frozen? ⟨b, o, none⟩ = w.frozen? ⟨b, o, none⟩) :=
  ⟨fun b o h => hb.cell (p := ⟨b, o, none⟩) h, fun b o h => hb.frozen (p := ⟨b, o, none⟩) h⟩
theorem ret_bool {a b : Bool} (h : a = b) : Ending.returned (.bool a) = .returned (.bool b) := by rw [h]
theorem ret_i64 {a b : Int} (h : a = b) : Ending.returned (.int .i64 a) = .returned (.int .i64 b) := by rw [h]

/-- The slice with base 'A' and n elements of 'size' cells each holds 'xs', below block 'B'. -/
def Rds (w : World) (B size : Nat) (A : Option Addr) (n : Nat) (xs : List Value) : Prop :=
  xs.length = n * size ∧ n ≤ 9223372036854775807 ∧ (0 < n → ∃ b o, A = some ⟨b, o, none⟩ ∧ b < B ∧ ∀ j u, xs[j]? = some u → w.cell? ⟨b, o + j, none⟩ = some u)

section
variable {w w' : World} {B B' size n : Nat} {A : Option Addr} {xs : List Value}
theorem Rds.keep (h : Rds w B size A n xs) (hk : ∀ p : Addr, p.block < B → w'.cell? p = w.cell? p) : Rds w' B size A n xs :=
  ⟨h.1, h.2.1, fun hn => let ⟨b, o, e, hb, hc⟩ := h.2.2 hn; ⟨b, o, e, hb, fun j u hu => (hk ⟨b, o + j, none⟩ hb).trans (hc j u hu)⟩⟩
theorem Rds.more (h : Rds w B size A n xs) (hB : B ≤ B') : Rds w B' size A n xs :=
  ⟨h.1, h.2.1, fun hn => let ⟨b, o, e, hb, hc⟩ := h.2.2 hn; ⟨b, o, e, Nat.lt_of_lt_of_le hb hB, hc⟩⟩
theorem Rds.below (h : Rds w B size A n xs) (hb : Below B w w') : Rds w' B size A n xs := h.keep fun _ hp => hb.cell hp
/-- a range in the k-th place -/
theorem intCells_length (l : List Int) : (intCells l).length = l.length := by simp [intCells]
theorem Rds.int_len {l : List Int} (h : Rds w B 1 A n (intCells l)) : l.length = n := by
  have hl := h.1
  rw [intCells_length] at hl
  omega
/-- a number in the k-th place -/
theorem Rds.int {l : List Int} (h : Rds w B 1 A n (intCells l)) {k : Nat} (hk : k < l.length) :
    ∃ b o, A = some ⟨b, o, none⟩ ∧ b < B ∧ w.cell? ⟨b, o + k, none⟩ = some (.int .i64 l[k]) := by
  have hl := h.int_len
  obtain ⟨b, o, e, hb, hc⟩ := h.2.2 (by omega)
  exact ⟨b, o, e, hb, hc k _ (by simp [intCells, hk])⟩
theorem Rds.drewN (h : Rds w B size A n xs) (k : Nat) : Rds (w.drewN k) B size A n xs := h
end

theorem Rds.alloc {w : World} {B size n : Nat} {A : Option Addr} {xs : List Value} (h : Rds w B size A n xs) (hB : B ≤ w.heap.size) (o : Obj) : Rds (w.alloc o) (w.alloc o).heap.size size A n xs :=
  (h.below ((Below.refl _ _).alloc hB o)).more (by simp; omega)
theorem cell_new (w : World) (cs : Array Value) (t : TypeId) (i : Nat) : (w.alloc (.cells cs t)).cell? ⟨w.heap.size, i, none⟩ = cs[i]? :=
  cell_of_row _ _ i cs t (0, 0) (heap_alloc_new w _)

/-- Block g is just the cells cs of element type t, none frozen. -/
def Blk (w : World) (g : Nat) (t : TypeId) (cs : Array Value) : Prop := w.heap[g]? = some (.cells cs t (0, 0))
section
variable {w w' : World} {g : Nat} {t : TypeId} {cs : Array Value}
theorem Blk.lt (h : Blk w g t cs) : g < w.heap.size := (Array.getElem?_eq_some_iff.1 h).1
theorem Blk.cell (h : Blk w g t cs) (i : Nat) : w.cell? ⟨g, i, none⟩ = cs[i]? := cell_of_row w g i cs t (0, 0) h
theorem Blk.frozen (h : Blk w g t cs) (i : Nat) : w.frozen? ⟨g, i, none⟩ = false := frozen_of_row w g i cs t h
theorem Blk.new (w : World) (t : TypeId) (cs : Array Value) : Blk (w.alloc (.cells cs t)) w.heap.size t cs := heap_alloc_new w _
theorem Blk.alloc (h : Blk w g t cs) (o : Obj) : Blk (w.alloc o) g t cs := (Below.heap_alloc w o g h.lt).trans h
theorem Blk.set_ (h : Blk w g t cs) (i : Nat) (u : Value) : Blk (w.setCell ⟨g, i, none⟩ u) g t (cs.setIfInBounds i u) := by
  unfold Blk at h ⊢
  simp [World.setCell, Array.getElem?_modify, h]
theorem Blk.far (h : Blk w g t cs) {p : Addr} (hp : g ≠ p.block) (u : Value) : Blk (w.setCell p u) g t cs := (Below.heap_setCell w p u g hp).trans h
theorem Blk.below {B : Nat} (h : Blk w g t cs) (hb : Below B w w') (hg : g < B) : Blk w' g t cs := (hb.block g hg).trans h
theorem Blk.grown {row : Option Nat} (h : Blk w g t cs) (hb : w.grownBy w' row) (hg : some g ≠ row) : Blk w' g t cs := (hb.block g h.lt hg).trans h
theorem Blk.drewN (h : Blk w g t cs) (n : Nat) : Blk (w.drewN n) g t cs := h
end

theorem below_drewN {B : Nat} {a w : World} (h : Below B a w) (n : Nat) : Below B a (w.drewN n) := ⟨h.os, h.tape, h.output, h.size, h.block⟩
theorem below_setRow {B : Nat} {a w : World} (h : Below B a w) (g : Nat) (hg : B ≤ g) (cs : Array Value) : Below B a (w.setRow g cs) :=
  h.trans ⟨rfl, rfl, rfl, by simp [World.setRow], fun k hk => by
    unfold World.setRow
    simp only [Array.getElem?_modify]
    rw [if_neg (by omega)]⟩
theorem drewN_below (B : Nat) (w : World) (n : Nat) : Below B w (w.drewN n) := below_drewN (Below.refl B w) n
theorem getD_get {α : Type} {l : List α} {i : Nat} (h : i < l.length) (d : α) : l.getD i d = l[i] := by
  rw [List.getD_eq_getElem?_getD, List.getElem?_eq_getElem h, Option.getD_some]
theorem drop_cons {α : Type} {l : List α} {k : Nat} (h : k < l.length) : l.drop k = l[k] :: l.drop (k + 1) := List.drop_eq_getElem_cons h

theorem strCells_length (l : List ByteArray) : (strCells l).length = l.length := by simp [strCells]
theorem Rds.str_len {w : World} {B n : Nat} {A : Option Addr} {l : List ByteArray} (h : Rds w B 1 A n (strCells l)) : l.length = n := by
  have := h.1
  rw [strCells_length] at this
  omega
theorem Rds.str {w : World} {B n : Nat} {A : Option Addr} {l : List ByteArray} (h : Rds w B 1 A n (strCells l)) {k : Nat} (hk : k < l.length) :
    ∃ b o, A = some ⟨b, o, none⟩ ∧ b < B ∧ w.cell? ⟨b, o + k, none⟩ = some (.string l[k]) := by
  obtain ⟨b, o, e, hb, hc⟩ := h.2.2 (by have := h.str_len; omega)
  exact ⟨b, o, e, hb, hc k _ (by simp [strCells, hk])⟩
/-- what a call answers that lays memory only -/
def Freed (w : World) (v : Value) (e : Ending) (w' : World) : Prop := e = .returned v ∧ Below w.heap.size w w'
/-- what a call answers that draws only -/
def Quiet (w : World) (v : Value) (e : Ending) (w' : World) : Prop := e = .returned v ∧ ∃ q, w' = w.drewN q
theorem own_some {w : World} {base e size n : Nat} {v : Value} {xs : List Value} (h : w.ownsRow base e size v n xs) (hn : 0 < n) : ∃ g cap, v = .slice (some ⟨g, 0, none⟩) n cap := by
  rcases h.2 with ⟨_, h0⟩ | ⟨g, cap, cur, rfl, _⟩
  · omega
  · exact ⟨g, cap, rfl⟩

/-- a row of one's own is read -/
theorem own_rds {w : World} {base B size n : Nat} {e : TypeId} {v : Value} {xs : List Value} (h : w.ownsRow base e size v n xs) (hB : w.heap.size ≤ B) (hn : n ≤ 9223372036854775807) :
    ∃ A c, v = .slice A n c ∧ n ≤ c ∧ Rds w B size A n xs := by
  rcases h.2 with ⟨rfl, rfl⟩ | ⟨g, cap, cur, rfl, hg, hh, h1, h2, h3, h4⟩
  · exact ⟨none, 0, rfl, Nat.le_refl _, h.1, by omega, fun h0 => by omega⟩
  · refine ⟨_, cap, rfl, h1, h.1, hn, fun _ => ⟨g, 0, rfl, by have := (Array.getElem?_eq_some_iff.1 hh).1; omega, fun j u hu => ?_⟩⟩
    rw [Nat.zero_add, cell_of_row w g j cur e (0, 0) hh]
    rw [← h4, List.getElem?_take] at hu
    split at hu
    · simpa using hu
    · cases hu
theorem grownBy_drewN {w w' : World} {row : Option Nat} (h : w.grownBy w' row) (n : Nat) : w.grownBy (w'.drewN n) row := ⟨h.os, h.tape, h.output, h.size, h.block⟩

theorem own_ne {w : World} {base e size n g : Nat} {t : TypeId} {v : Value} {xs : List Value} {cs : Array Value} (h : w.ownsRow base e size v n xs) (hb : Blk w g t cs) (hne : e ≠ t) : some g ≠ v.ownBlock := by
  rcases h.2 with ⟨rfl, _⟩ | ⟨g', cap, cur, rfl, _, hh, _⟩
  · simp [Value.ownBlock]
  · intro he
    have hgg : g = g' := by simpa [Value.ownBlock] using he
    subst hgg
    unfold Blk at hb
    rw [hb] at hh
    injection hh with hh
    injection hh with _ ht
    exact hne ht.symm
theorem own_cells {w : World} {base e size n k : Nat} {v : Value} {xs : List Value} (h : w.ownsRow base e size v n xs) (hk : v.ownBlock = some k) : ∃ cs t fr, w.heap[k]? = some (.cells cs t fr) := by
  rcases h.2 with ⟨rfl, _⟩ | ⟨g', cap, cur, rfl, _, hh, _⟩
  · simp [Value.ownBlock] at hk
  · have hgg : g' = k := by simpa [Value.ownBlock] using hk
    subst hgg
    exact ⟨_, _, _, hh⟩
theorem grown_of_below {w w' : World} (h : Below w.heap.size w w') (row : Option Nat) : w.grownBy w' row := ⟨h.os, h.tape, h.output, h.size, fun k hk _ => h.block k hk⟩
theorem grownBy_setCell (w : World) (g i : Nat) (v : Value) : w.grownBy (w.setCell ⟨g, i, none⟩ v) (some g) :=
  ⟨rfl, rfl, rfl, by simp [World.setCell], fun k _ hk => Below.heap_setCell w _ v k (fun e => hk (by rw [e]))⟩
end Go.Proofs.YtdmkjchmcgjjmaaDoor
