/- A file's records: plain; the reader's block and the records' row in memory. No walk. -/
import Derived.Test.YtdmkjchmcgjjmaaDoorLine
namespace Go.Proofs.YtdmkjchmcgjjmaaDoor
open Go Go.RowKit

/-- a record, and where its fields lie -/
structure RX where
  line : Nat
  a : Nat
  b : Nat
  fs : List ByteArray
  A : Option Addr
  c : Nat
/-- a record -/
abbrev Rc := Nat × Nat × Nat × List ByteArray
def RX.rc (x : RX) : Rc := (x.line, x.a, x.b, x.fs)
def RX.cells (x : RX) : List Value := [.int .i64 (x.line : Int), .int .i64 (x.a : Int), .int .i64 (x.b : Int), .slice x.A x.fs.length x.c]
def recCells (X : List RX) : List Value := X.flatMap RX.cells
theorem recCells_snoc (X : List RX) (x : RX) : recCells (X ++ [x]) = recCells X ++ x.cells := by simp [recCells]
/-- what lines say, one after another: records, or a line's number and an error's -/
def readL : List ByteArray → Nat → List Rc → List Rc × Nat × Int
  | [], _, out => (out, 0, 0)
  | t :: r, n, out => match (lineB t).2 with
    | none => if (lineB t).1 = 0 then readL r (n + 1) out else ([], n + 1, (lineB t).1)
    | some (a, b, fs) => if out.length = 300 then ([], n + 1, 24) else readL r (n + 1) (out ++ [(n + 1, a, b, fs)])
theorem readL_end {L : List ByteArray} {k : Nat} (h : ¬ k < L.length) (n : Nat) (out : List Rc) : readL (L.drop k) n out = (out, 0, 0) := by
  rw [List.drop_of_length_le (by omega)]
  rfl
theorem readL_skip {L : List ByteArray} {k : Nat} (h : k < L.length) (n : Nat) (out : List Rc) (h1 : (lineB L[k]).2 = none) (h2 : (lineB L[k]).1 = 0) : readL (L.drop k) n out = readL (L.drop (k + 1)) (n + 1) out := by
  rw [drop_cons h, readL, h1]
  exact if_pos h2
theorem readL_err {L : List ByteArray} {k : Nat} (h : k < L.length) (n : Nat) (out : List Rc) (h1 : (lineB L[k]).2 = none) (h2 : (lineB L[k]).1 ≠ 0) : readL (L.drop k) n out = ([], n + 1, (lineB L[k]).1) := by
  rw [drop_cons h, readL, h1]
  exact if_neg h2
theorem readL_many {L : List ByteArray} {k : Nat} (h : k < L.length) (n : Nat) (out : List Rc) {a b : Nat} {fs : List ByteArray} (h1 : lineB L[k] = (0, some (a, b, fs))) (h2 : out.length = 300) : readL (L.drop k) n out = ([], n + 1, 24) := by
  rw [drop_cons h, readL, h1]
  exact if_pos h2
theorem readL_rec {L : List ByteArray} {k : Nat} (h : k < L.length) (n : Nat) (out : List Rc) {a b : Nat} {fs : List ByteArray} (h1 : lineB L[k] = (0, some (a, b, fs))) (h2 : ¬ out.length = 300) : readL (L.drop k) n out = readL (L.drop (k + 1)) (n + 1) (out ++ [(n + 1, a, b, fs)]) := by
  rw [drop_cons h, readL, h1]
  exact if_neg h2
/-- a file's records -/
def fileB (s : ByteArray) : List Rc × Nat × Int := if 20000 < s.size then ([], 0, 20) else readL (splitT 10 s) 0 []

/-- a record's fields lie there -/
def FldX (w : World) (lo : Nat) (x : RX) : Prop := FldAt w lo x.A x.fs ∧ x.fs.length ≤ x.c ∧ 1 ≤ x.fs.length ∧ x.fs.length ≤ 20 ∧ x.a < 2 ^ 24 ∧ x.b < 2 ^ 24
theorem own_kept_ne {w w' : World} {base e size n g : Nat} {t : TypeId} {v : Value} {xs : List Value} {cs : Array Value} (h : w.ownsRow base e size v n xs) (hb : Blk w g t cs) (hne : e ≠ t) (hg : w.grownBy w' (some g)) : w'.ownsRow base e size v n xs :=
  h.kept hg (.inr (own_ne h hb hne).symm)
theorem FldAt.grown {w w' : World} {lo g : Nat} {t : TypeId} {cs : Array Value} {A : Option Addr} {fs : List ByteArray} (h : FldAt w lo A fs) (hb : Blk w g t cs) (hne : t ≠ 9) (hg : w.grownBy w' (some g)) : FldAt w' lo A fs :=
  h.keep fun b cs' hh => (hg.block b (Array.getElem?_eq_some_iff.1 hh).1 (fun e => by
    injection e with e
    subst e
    unfold Blk at hb
    rw [hb] at hh
    injection hh with hh
    injection hh with _ h2
    exact hne h2)).trans hh
/-- .. and where an own row is turned -/
theorem FldAt.ownGrown {w w' : World} {lo base e size n : Nat} {v : Value} {xs : List Value} {A : Option Addr} {fs : List ByteArray} (h : FldAt w lo A fs) (ho : w.ownsRow base e size v n xs) (hne : e ≠ 9) (hg : w.grownBy w' v.ownBlock) : FldAt w' lo A fs :=
  h.keep fun b cs' hh => (hg.block b (Array.getElem?_eq_some_iff.1 hh).1 (own_ne ho (show Blk w b 9 cs' from hh) hne)).trans hh

/-- the reader and its records, between two lines -/
structure St (n0 g : Nat) (s : ByteArray) (w0 : World) (line : Nat) (X : List RX) (vo : Value) (W : World) : Prop where
  blk : Blk W g 62 #[.string s, .int .i64 (line : Int), vo, .nilIface]
  row : W.ownsRow n0 31 4 vo X.length (recCells X)
  fld : ∀ x ∈ X, FldX W n0 x
  below : Below n0 w0 W
  lo : n0 ≤ g
theorem St.size {n0 g : Nat} {s : ByteArray} {w0 W : World} {line : Nat} {X : List RX} {vo : Value} (h : St n0 g s w0 line X vo W) : n0 ≤ W.heap.size := Nat.le_of_lt (Nat.lt_of_le_of_lt h.lo h.blk.lt)
theorem St.turn {n0 g : Nat} {s : ByteArray} {w0 W W' : World} {line : Nat} {X : List RX} {vo : Value} (h : St n0 g s w0 line X vo W) (hb : Below W.heap.size W W') : St n0 g s w0 line X vo W' :=
  ⟨h.blk.below hb h.blk.lt, own_below h.row hb, fun x hx => ⟨(h.fld x hx).1.below hb, (h.fld x hx).2⟩, h.below.trans (hb.mono h.size), h.lo⟩
theorem St.set {n0 g : Nat} {s : ByteArray} {w0 W : World} {line : Nat} {X : List RX} {vo : Value} (h : St n0 g s w0 line X vo W) (line' : Nat) : St n0 g s w0 line' X vo (W.setCell ⟨g, 1, none⟩ (.int .i64 (line' : Int))) :=
  ⟨h.blk.set_ 1 _, own_kept_ne h.row h.blk (by decide) (grownBy_setCell W g 1 _), fun x hx => ⟨(h.fld x hx).1.grown h.blk (by decide) (grownBy_setCell W g 1 _), (h.fld x hx).2⟩,
    h.below.grown (grownBy_setCell W g 1 _) h.size (fun k e => by cases e; exact h.lo), h.lo⟩
/-- where reading has stopped -/
def Stop (n0 g : Nat) (s : ByteArray) (w0 : World) (line : Nat) (k : Int) (W : World) : Prop :=
  k ≠ 0 ∧ (∃ vo, Blk W g 62 #[.string s, .int .i64 (line : Int), vo, errW k]) ∧ Below n0 w0 W
/-- what the loop's body keeps: cells of other types -/
def KeepT (W W' : World) : Prop := W.heap.size ≤ W'.heap.size ∧ ∀ (k : Nat) (cs : Array Value) (t : TypeId) (fr : Nat × Nat), W.heap[k]? = some (.cells cs t fr) → t ≠ 31 → t ≠ 62 → W'.heap[k]? = some (.cells cs t fr)
theorem KeepT.trans {A B C : World} (h : KeepT A B) (k : KeepT B C) : KeepT A C := ⟨Nat.le_trans h.1 k.1, fun j cs t fr e h1 h2 => k.2 j cs t fr (h.2 j cs t fr e h1 h2) h1 h2⟩
theorem KeepT.below {W W' : World} (hb : Below W.heap.size W W') : KeepT W W' := ⟨hb.size, fun k _ _ _ e _ _ => (hb.block k (Array.getElem?_eq_some_iff.1 e).1).trans e⟩
theorem KeepT.grown {W W' : World} {row : Option Nat} (hg : W.grownBy W' row) (hr : ∀ k cs t fr, row = some k → W.heap[k]? = some (.cells cs t fr) → t = 31 ∨ t = 62) : KeepT W W' :=
  ⟨hg.size, fun k cs t fr e h1 h2 => (hg.block k (Array.getElem?_eq_some_iff.1 e).1 (fun er => by rcases hr k cs t fr er.symm e with h | h; exact h1 h; exact h2 h)).trans e⟩
theorem KeepT.set {W : World} {g : Nat} {t : TypeId} {cs : Array Value} (h : Blk W g t cs) (ht : t = 31 ∨ t = 62) (i : Nat) (v : Value) : KeepT W (W.setCell ⟨g, i, none⟩ v) :=
  KeepT.grown (grownBy_setCell W g i v) (fun k cs' t' fr er e => by
    injection er with er
    subst er
    unfold Blk at h
    rw [h] at e
    injection e with e
    injection e with _ e
    rw [← e]
    exact ht)
theorem KeepT.own {W W' : World} {base size n : Nat} {v : Value} {xs : List Value} (h : W.ownsRow base 31 size v n xs) (hg : W.grownBy W' v.ownBlock) : KeepT W W' :=
  ⟨hg.size, fun k cs t fr e h1 _ => (hg.block k (Array.getElem?_eq_some_iff.1 e).1 (fun er => by
    rcases h.2 with ⟨rfl, _⟩ | ⟨g', cap, cur, rfl, _, hh, _⟩
    · simp [Value.ownBlock] at er
    · have hgg : k = g' := by simpa [Value.ownBlock] using er
      subst hgg
      rw [hh] at e
      injection e with e
      injection e with _ e
      exact h1 e.symm)).trans e⟩
/-- a block that holds no cells is turned -/
theorem St.put {n0 g : Nat} {s : ByteArray} {w0 W W' : World} {line : Nat} {X : List RX} {vo : Value} {l : Nat} {o : Obj} (h : St n0 g s w0 line X vo W) (hg : W.grownBy W' (some l)) (hl : W.heap[l]? = some o) (ho : ∀ cs t fr, o ≠ .cells cs t fr) (hn : n0 ≤ l) : St n0 g s w0 line X vo W' := by
  have hne : ∀ k cs t fr, W.heap[k]? = some (.cells cs t fr) → some k ≠ some l := fun k cs t fr e er => by
    injection er with er
    subst er
    rw [hl] at e
    injection e with e
    exact ho cs t fr e
  refine ⟨h.blk.grown hg (hne _ _ _ _ h.blk), h.row.kept hg ?_, fun x hx => ⟨(h.fld x hx).1.keep fun b cs hh => (hg.block b (Array.getElem?_eq_some_iff.1 hh).1 (hne _ _ _ _ hh)).trans hh, (h.fld x hx).2⟩, h.below.grown hg h.size (fun k e => by cases e; exact hn), h.lo⟩
  cases hv : vo.ownBlock with
  | none => exact .inl rfl
  | some k =>
    right
    obtain ⟨cs, t, fr, hc⟩ := own_cells h.row hv
    exact hne _ _ _ _ hc
theorem Stop.put {n0 g : Nat} {s : ByteArray} {w0 W W' : World} {line : Nat} {k : Int} {l : Nat} {o : Obj} (h : Stop n0 g s w0 line k W) (hg : W.grownBy W' (some l)) (hl : W.heap[l]? = some o) (ho : ∀ cs t fr, o ≠ .cells cs t fr) (hn : n0 ≤ l) : Stop n0 g s w0 line k W' := by
  obtain ⟨hk, ⟨vo, hb⟩, hbel⟩ := h
  refine ⟨hk, ⟨vo, hb.grown hg (fun e => ?_)⟩, hbel.grown hg ?_ (fun k e => by cases e; exact hn)⟩
  · injection e with e
    subst e
    unfold Blk at hb
    rw [hl] at hb
    injection hb with hb
    exact ho _ _ _ hb
  · exact Nat.le_of_lt (Nat.lt_of_le_of_lt hn (Array.getElem?_eq_some_iff.1 hl).1)
theorem KeepT.put {W W' : World} {l : Nat} {o : Obj} (hg : W.grownBy W' (some l)) (hl : W.heap[l]? = some o) (ho : ∀ cs t fr, o ≠ .cells cs t fr) : KeepT W W' :=
  KeepT.grown hg (fun k cs t fr er e => by
    injection er with er
    subst er
    rw [hl] at e
    injection e with e
    exact absurd e (ho cs t fr))
end Go.Proofs.YtdmkjchmcgjjmaaDoor
