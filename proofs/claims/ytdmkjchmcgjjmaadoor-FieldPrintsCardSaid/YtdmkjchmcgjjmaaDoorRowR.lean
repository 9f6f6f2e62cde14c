/- Rows of records of one's own, and their fields, in memory. No walk. -/
import Derived.Test.YtdmkjchmcgjjmaaDoorParse
import Derived.Test.YtdmkjchmcgjjmaaDoorCodesLaw
import Derived.Test.YtdmkjchmcgjjmaaDoorSame
namespace Go.Proofs.YtdmkjchmcgjjmaaDoor
open Go Go.RowKit

structure RowR (w : World) (lo : Nat) (v : Value) (X : List RX) : Prop where
  row : w.ownsRow lo 31 4 v X.length (recCells X)
  fld : ∀ x ∈ X, FldX w lo x
section
variable {w w' : World} {lo : Nat} {v : Value} {X : List RX}
theorem RowR.below (h : RowR w lo v X) (hb : Below w.heap.size w w') : RowR w' lo v X := ⟨own_below h.row hb, fun x hx => ⟨(h.fld x hx).1.below hb, (h.fld x hx).2⟩⟩
/-- another row of records is turned -/
theorem RowR.other (h : RowR w lo v X) {base size n : Nat} {u : Value} {xs : List Value} (hu : w.ownsRow base 31 size u n xs) (hg : w.grownBy w' u.ownBlock) (hne : v.ownBlock = none ∨ v.ownBlock ≠ u.ownBlock) : RowR w' lo v X :=
  ⟨h.row.kept hg hne, fun x hx => ⟨(h.fld x hx).1.ownGrown hu (by decide) hg, (h.fld x hx).2⟩⟩
theorem RowR.flds (h : RowR w lo v X) : Zflds w w.heap.size (X.map RX.z) := fun x hx => by
  obtain ⟨y, hy, rfl⟩ := List.mem_map.1 hx
  exact (h.fld y hy).1.rds (by have := (h.fld y hy).2.2.2.1; omega)
theorem RowR.rds {A : Option Addr} {n c : Nat} (h : RowR w lo (.slice A n c) X) (hn : X.length ≤ 9223372036854775807) : Rds w w.heap.size 4 A X.length (zCells (X.map RX.z)) := by
  rw [zCells_z]
  exact own_rds_at h.row hn
theorem RowR.form (h : RowR w lo v X) : ∃ A c, v = .slice A X.length c ∧ X.length ≤ c := by
  rcases h.row.2 with ⟨rfl, h0⟩ | ⟨g, cap, cur, rfl, _, _, h1, _⟩
  · exact ⟨none, 0, by rw [h0], by omega⟩
  · exact ⟨_, _, rfl, h1⟩
end
theorem recCells_length (X : List RX) : (recCells X).length = X.length * 4 := by
  have := zCells_length (X.map RX.z)
  rw [zCells_z, List.length_map] at this
  omega
theorem recCells_cons (x : RX) (X : List RX) : recCells (x :: X) = x.cells ++ recCells X := rfl
theorem recCells_app (X Y : List RX) : recCells (X ++ Y) = recCells X ++ recCells Y := by simp [recCells]
theorem recCells_get (X : List RX) (k j : Nat) (h : k < X.length) (hj : j < 4) : (recCells X)[4 * k + j]? = X[k].cells[j]? := by
  have := zCells_get (X.map RX.z) k j (by rw [List.length_map]; exact h) hj
  rw [zCells_z, List.getElem_map] at this
  exact this
/-- a record's line is written -/
theorem recCells_set : ∀ (X : List RX) (k : Nat) (h : k < X.length) (l : Nat), recCells (X.set k { X[k] with line := l }) = (recCells X).set (4 * k) (.int .i64 (l : Int))
  | [], k, h, l => by simp at h
  | x :: r, 0, h, l => by
    rw [List.set_cons_zero, recCells_cons, recCells_cons]
    rfl
  | x :: r, k + 1, h, l => by
    have h' : k < r.length := by simpa using h
    rw [List.set_cons_succ, recCells_cons, recCells_cons, List.getElem_cons_succ, recCells_set r k h' l, List.set_append_right]
    · congr 2
    · show 4 ≤ 4 * (k + 1)
      omega
section
variable {w : World} {lo g c : Nat} {X : List RX}
theorem RowR.setLine (h : RowR w lo (.slice (some ⟨g, 0, none⟩) X.length c) X) {k : Nat} (hk : k < X.length) (l : Nat) :
    RowR (w.setCell ⟨g, 4 * k, none⟩ (.int .i64 (l : Int))) lo (.slice (some ⟨g, 0, none⟩) X.length c) (X.set k { X[k] with line := l }) ∧ w.grownBy (w.setCell ⟨g, 4 * k, none⟩ (.int .i64 (l : Int))) (some g) := by
  have hs := h.row.stored (4 * k) (.int .i64 (l : Int))
  refine ⟨⟨?_, fun x hx => ?_⟩, hs.2⟩
  · rw [List.length_set, recCells_set]
    exact hs.1
  · have hf : ∃ y ∈ X, FldX w lo x ↔ FldX w lo y := by
      rcases List.mem_or_eq_of_mem_set hx with hx | rfl
      · exact ⟨x, hx, Iff.rfl⟩
      · exact ⟨X[k], List.getElem_mem hk, Iff.rfl⟩
    obtain ⟨y, hy, e⟩ := hf
    have := e.2 (h.fld y hy)
    exact ⟨this.1.ownGrown h.row (by decide) hs.2, this.2⟩
/-- what is read -/
theorem RowR.line (h : RowR w lo (.slice (some ⟨g, 0, none⟩) X.length c) X) {k : Nat} (hk : k < X.length) : w.cell? ⟨g, 4 * k, none⟩ = some (.int .i64 (X[k].line : Int)) := by
  rw [h.row.cellAt (4 * k) (by omega)]
  exact recCells_get X k 0 hk (by decide)
theorem RowR.frozen (h : RowR w lo (.slice (some ⟨g, 0, none⟩) X.length c) X) (j : Nat) : w.frozen? ⟨g, j, none⟩ = false := h.row.frozenAt j
end
theorem recCells_one (X : List RX) : ∀ u ∈ recCells X, u.oneCell' = true := by
  intro u hu
  obtain ⟨x, _, hx⟩ := List.mem_flatMap.1 hu
  simp only [RX.cells, List.mem_cons, List.not_mem_nil, or_false] at hx
  rcases hx with rfl | rfl | rfl | rfl <;> rfl
theorem rcz_inj {X Y : List Rc} (h : X = Y) : X.map Rc.z = Y.map Rc.z := by rw [h]
theorem z_rcs (X : List RX) : (X.map RX.z).map RZ.rc = (X.map RX.rc).map Rc.z := by
  rw [List.map_map, List.map_map]
  rfl
section
variable {P : Program} (w : World)
/-- an append behind a guard, of a slice that may be nil -/
theorem wpList_append_any_g {ops : Array Oper} {rest : List Oper} {o : Oper} {a : Act} {Q : Exit → Act → World → Prop} (hgd : Region.wanted o (yielded ops a.tmps) = true) (s x : Operand) (t : TypeId)
    (ho : o.op = .call { callee := .builtin .append, args := #[s, x], argTypes := #[t, t] })
    (base : Nat) (e : TypeId) (i : TypeInfo) (z : Value) (size bytes : Nat) (ht : P.underlying t = some (.slice e)) (hi : P.info? e = some i) (hz : i.zero = some z)
    (hsize : i.size = size) (hby : i.bytes = bytes) (hzs : z.cells.size = size) (hsz : 0 < size)
    (v : Value) (n : Nat) (xs : List Value) (hs : a.eval s = v) (hown : w.ownsRow base e size v n xs)
    (lo : Nat) (A : Option Addr) (m c : Nat) (news : List Value) (hx : a.eval x = .slice A m c) (hnews : w.ownsRow lo e size (.slice A m c) m news) (h1 : ∀ u ∈ news, u.oneCell' = true)
    (h63 : n + m ≤ maxLen) (hbytes : (n + m) * bytes ≤ 140737488355328) (hbase : base ≤ w.heap.size)
    (h : ∀ v' w', w'.ownsRow base e size v' (n + m) (xs ++ news) → w.grownBy w' v.ownBlock → wpList P ops Q rest (a.put o.dst v') w') : wpList P ops Q (o :: rest) a w := by
  cases A with
  | some ad =>
    obtain ⟨b, off, key⟩ := ad
    have hb : off = 0 ∧ key = none := by
      rcases hnews.2 with ⟨e1, _⟩ | ⟨g, cap, cur, e1, _⟩
      · injection e1 with e1; cases e1
      · injection e1 with e1
        injection e1 with e1
        injection e1 with e1 e2 e3
        exact ⟨e2, e3⟩
    obtain ⟨rfl, rfl⟩ := hb
    exact wpList_append_own_g w hgd s x t ho base e i z size bytes ht hi hz hsize hby hzs hsz v n xs hs hown ⟨b, 0, none⟩ m c news hx hnews.1 (fun j u hu => hnews.cells (g := b) rfl j u hu) h1 h63 hbytes hbase (fun v' w' p1 p2 _ => h v' w' p1 p2)
  | none =>
    have hb : m = 0 ∧ c = 0 := by
      rcases hnews.2 with ⟨e1, _⟩ | ⟨g, cap, cur, e1, _⟩
      · injection e1 with e1 e2 e3; exact ⟨e2, e3⟩
      · injection e1 with e1; cases e1
    obtain ⟨rfl, rfl⟩ := hb
    have hnil : news = [] := List.eq_nil_of_length_eq_zero (by simpa using hnews.1)
    subst hnil
    refine wpList_wanted hgd fun K hK => ?_
    have hrun := run_append_owned_none (P := P) w base t o.type e i size ht hi v n xs hown
    unfold Oper.wp
    simp [execOp, ho, resolve, invoke, builtin, hs, hx, hrun, Result.andThen]
    exact hK _ _ (h v w (by simpa using hown) (World.grownBy.refl _ _))
end
end Go.Proofs.YtdmkjchmcgjjmaaDoor
