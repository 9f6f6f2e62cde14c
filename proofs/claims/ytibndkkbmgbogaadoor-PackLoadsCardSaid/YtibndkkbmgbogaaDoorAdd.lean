/- A row is added to a trie that is built: the program's (*builder).add. Conditions: the builder's memory is as the words below say. -/
import Derived.Test.YtibndkkbmgbogaaDoorProg
import Derived.Test.YtibndkkbmgbogaaDoorBase
import Derived.Test.YtibndkkbmgbogaaDoorArrKey
import Derived.Test.YtibndkkbmgbogaaDoorClone
import Derived.Test.YtibndkkbmgbogaaDoorRegion
import Derived.BigQuiet
import Derived.Deep.QuietTactic
import Derived.StillTailTactics
import Derived.Deep.RegionHeld3
import Derived.Deep.AppendLies
import Derived.RangeFuncWrites
import Derived.OwnWalk
namespace Go.Proofs.YtibndkkbmgbogaaDoor
open Go Go.RowKit

theorem quiet_load_row {P : Program} {ops : Array Oper} {C : World → Prop} {Q : Act → Prop} {a : Act} {o : Oper} {rest : List Oper} (hgd : o.guard = none) (ty : TypeId) (x : Operand) (ho : o.op = .load ty x)
    (g : Nat) (hx : a.eval x = .pointer (some ⟨g, 0, none⟩)) (t : TypeId) (cs : Array Value) (fr : Nat × Nat) (d : TypeDesc) (hg : ∀ w, C w → w.heap[g]? = some (.cells cs t fr))
    (hu : P.underlying ty = some d) (hd : (match d with | .struct _ | .array _ _ => true | _ => false) = true) (hi : (P.info? ty).map (·.size) = some cs.size)
    (h : wpQuiet P ops C Q rest (a.put o.dst (.agg cs))) : wpQuiet P ops C Q (o :: rest) a :=
  wpQuiet_step fun K hK => by
    rw [if_pos (by simp [Region.wanted, hgd])]
    refine ⟨.agg cs, fun w hw => ?_, hK _ h⟩
    unfold Oper.quietAt execOp
    simp only [ho, hx, Instr.loadAt, Instr.sureAddr, Sem.run_bind, Sem.run_pure, Result.andThen_ok, run_loadVar_row w g t ty cs fr d (hg w hw) hu hd hi]
    exact ⟨rfl, rfl⟩

theorem still_load_row {P : Program} {ops : Array Oper} {w : World} {Q : Act → Prop} {a : Act} {o : Oper} {rest : List Oper} (hgd : o.guard = none) (ty : TypeId) (x : Operand) (ho : o.op = .load ty x)
    (g : Nat) (hx : a.eval x = .pointer (some ⟨g, 0, none⟩)) (t : TypeId) (cs : Array Value) (fr : Nat × Nat) (d : TypeDesc) (hg : w.heap[g]? = some (.cells cs t fr))
    (hu : P.underlying ty = some d) (hd : (match d with | .struct _ | .array _ _ => true | _ => false) = true) (hi : (P.info? ty).map (·.size) = some cs.size)
    (h : wpStill P ops w Q rest (a.put o.dst (.agg cs))) : wpStill P ops w Q (o :: rest) a :=
  wpStill_step fun K hK => by
    rw [if_pos (by simp [Region.wanted, hgd])]
    unfold Oper.still execOp
    simp only [ho, hx, Instr.loadAt, Instr.sureAddr, Sem.run_bind, Sem.run_pure, Result.andThen_ok, run_loadVar_row w g t ty cs fr d hg hu hd hi]
    exact ⟨rfl, hK _ h⟩

/-- a slice's value -/
def sv (s : Option Addr × Nat × Nat) : Value := .slice s.1 s.2.1 s.2.2

/-- The builder at block g, its map at block m, its two slices vi and vb, holds T; all its memory lies from block n0 on. -/
structure Bld (w : World) (n0 g m : Nat) (vi vb : Value) (T : Tr) (mb : List (List Int)) : Prop where
  blk : Blk w g 69 #[vi, vb, .map (some m)]
  map : w.heap[m]? = some (.map (ents mb).toArray mb.length)
  ix : w.ownsRow n0 3 1 vi T.ix.length (intCells T.ix)
  bl : ∃ ss : List (Option Addr × Nat × Nat), w.ownsRow n0 24 1 vb T.bl.length (ss.map sv) ∧ ss.length = T.bl.length ∧
    ∀ i (h : i < ss.length) (h' : i < T.bl.length), ∃ b c : Nat, ss[i] = (some ⟨b, 0, none⟩, T.bl[i].length, c) ∧ n0 ≤ b ∧ b < w.heap.size ∧ vi.ownBlock ≠ some b ∧ vb.ownBlock ≠ some b ∧ b ≠ g ∧ b ≠ m ∧
      ∀ (j : Nat) (u : Value), (intCells T.bl[i])[j]? = some u → w.cell? ⟨b, j, none⟩ = some u
  len : ∀ b ∈ T.bl, b.length = 256

/-- a step that leaves all old blocks as they were -/
theorem Bld.grow {w w' : World} {n0 g m : Nat} {vi vb : Value} {T : Tr} {mb : List (List Int)} (h : Bld w n0 g m vi vb T mb) (hg : w.grownBy w' none) : Bld w' n0 g m vi vb T mb where
  blk := h.blk.grown hg (by simp)
  map := (hg.block m (Array.getElem?_eq_some_iff.1 h.map).1 (by simp)).trans h.map
  ix := h.ix.kept hg (by cases vi.ownBlock <;> simp)
  bl := by
    obtain ⟨ss, h1, h2, h3⟩ := h.bl
    refine ⟨ss, h1.kept hg (by cases vb.ownBlock <;> simp), h2, fun i hi hi' => ?_⟩
    obtain ⟨b, c, e1, e2, e3, e4, e5, e6, e7, e8⟩ := h3 i hi hi'
    exact ⟨b, c, e1, e2, Nat.lt_of_lt_of_le e3 hg.size, e4, e5, e6, e7, fun j u hu => (World.cell?_of_block (a := ⟨b, j, none⟩) (hg.block b e3 (by simp))).trans (e8 j u hu)⟩
  len := h.len
theorem grownBy_drewN {w w' : World} {row : Option Nat} (h : w.grownBy w' row) (n : Nat) : w.grownBy (w'.drewN n) row := ⟨h.os, h.tape, h.output, h.size, h.block⟩

def Tr.add (T : Tr) (x : List Int) : Tr := if blkIn T.bl x then ⟨T.ix ++ [(blkNo T.bl x : Int)], T.bl⟩ else ⟨T.ix ++ [(T.bl.length : Int)], T.bl ++ [x]⟩

/-- below n0 all but the blocks g and m lies as it lay -/
structure Kept (n0 g m : Nat) (w w' : World) : Prop where
  os : w'.os = w.os
  tape : w'.tape = w.tape
  output : w'.output = w.output
  size : w.heap.size ≤ w'.heap.size
  block : ∀ k, k < n0 → k ≠ g → k ≠ m → w'.heap[k]? = w.heap[k]?
theorem Kept.of_below {n0 g m : Nat} {w w' : World} (h : Below n0 w w') : Kept n0 g m w w' := ⟨h.os, h.tape, h.output, h.size, fun k hk _ _ => h.block k hk⟩
theorem Kept.trans {n0 g m : Nat} {a b c : World} (h : Kept n0 g m a b) (k : Kept n0 g m b c) : Kept n0 g m a c :=
  ⟨k.os.trans h.os, k.tape.trans h.tape, k.output.trans h.output, Nat.le_trans h.size k.size, fun i h1 h2 h3 => (k.block i h1 h2 h3).trans (h.block i h1 h2 h3)⟩
theorem Kept.below {n0 n1 g m : Nat} {w w' : World} (h : Kept n0 g m w w') (h1 : n1 ≤ n0) (h2 : n1 ≤ g) (h3 : n1 ≤ m) : Below n1 w w' :=
  ⟨h.os, h.tape, h.output, h.size, fun k hk => h.block k (by omega) (by omega) (by omega)⟩
theorem Kept.cell {n0 g m : Nat} {w w' : World} (h : Kept n0 g m w w') (p : Addr) (h1 : p.block < n0) (h2 : p.block ≠ g) (h3 : p.block ≠ m) : w'.cell? p = w.cell? p := World.cell?_of_block (h.block p.block h1 h2 h3)
theorem Kept.grown {n0 g m : Nat} {w w' : World} {row : Option Nat} (h : w.grownBy w' row) (hn : n0 ≤ w.heap.size) (hr : ∀ k, row = some k → n0 ≤ k ∨ k = g ∨ k = m) : Kept n0 g m w w' :=
  ⟨h.os, h.tape, h.output, h.size, fun k h1 h2 h3 => h.block k (by omega) (fun e => by
    rcases hr k e.symm with e' | e' | e'
    · omega
    · exact h2 e'
    · exact h3 e')⟩

def KeepsBut (m : Nat) (w w' : World) : Prop := w.heap.size ≤ w'.heap.size ∧ ∀ (k : Nat) (o : Obj), k ≠ m → w.heap[k]? = some o → o.isCells = false → w'.heap[k]? = some o
/-- the row is added; below n0 all is as it was; beside the map no block that is no cells has turned -/
def Added (w : World) (n0 g m : Nat) (T : Tr) (e : Ending) (w' : World) : Prop := e = .returned (.tuple #[]) ∧ (∃ vi vb, Bld w' n0 g m vi vb T T.bl) ∧ Kept n0 g m w w' ∧ KeepsBut m w w'

theorem own_ne {w : World} {base e size n g : Nat} {t : TypeId} {v : Value} {xs : List Value} {cs : Array Value} (h : w.ownsRow base e size v n xs) (hb : Blk w g t cs) (hne : e ≠ t) : some g ≠ v.ownBlock := by
  rcases h.2 with ⟨rfl, _⟩ | ⟨g', cap, cur, rfl, _, hh, _⟩
  · simp [Value.ownBlock]
  · intro he
    have hgg : g = g' := by simpa [Value.ownBlock] using he
    subst hgg
    unfold Blk at hb
    rw [hb] at hh
    injection hh with hh
    injection hh with _ ht
    exact hne ht.symm
theorem own_cells {w : World} {base e size n k : Nat} {v : Value} {xs : List Value} (h : w.ownsRow base e size v n xs) (hk : v.ownBlock = some k) : ∃ cs t fr, w.heap[k]? = some (.cells cs t fr) := by
  rcases h.2 with ⟨rfl, _⟩ | ⟨g', cap, cur, rfl, _, hh, _⟩
  · simp [Value.ownBlock] at hk
  · have hgg : g' = k := by simpa [Value.ownBlock] using hk
    subst hgg
    exact ⟨_, _, _, hh⟩
theorem own_ne_map {w : World} {base e size n k : Nat} {v : Value} {xs : List Value} (h : w.ownsRow base e size v n xs) {o : Obj} (hm : w.heap[k]? = some o) (ho : o.isCells = false) : some k ≠ v.ownBlock := by
  intro he
  obtain ⟨cs, t, fr, hh⟩ := own_cells h he.symm
  rw [hm] at hh
  injection hh with hh
  subst hh
  cases ho
theorem grownBy_setCell (w : World) (g i : Nat) (v : Value) : w.grownBy (w.setCell ⟨g, i, none⟩ v) (some g) :=
  ⟨rfl, rfl, rfl, by simp [World.setCell], fun k _ hk => Below.heap_setCell w _ v k (fun e => hk (by rw [e]))⟩
theorem KeepsBut.of_grown {w w' : World} {row : Option Nat} (m : Nat) (hg : w.grownBy w' row) (hrow : ∀ k, row = some k → ∃ cs t fr, w.heap[k]? = some (.cells cs t fr)) : KeepsBut m w w' :=
  ⟨hg.size, fun k o _ hk ho => (hg.block k (Array.getElem?_eq_some_iff.1 hk).1 (fun e => by
    obtain ⟨cs, t, fr, hc⟩ := hrow k e.symm
    rw [hk] at hc
    injection hc with hc
    subst hc
    cases ho)).trans hk⟩
theorem KeepsBut.trans {m : Nat} {a b c : World} (h : KeepsBut m a b) (k : KeepsBut m b c) : KeepsBut m a c :=
  ⟨Nat.le_trans h.1 k.1, fun i o hi ho hc => k.2 i o hi (h.2 i o hi ho hc) hc⟩

/-- a number is put behind the index -/
theorem Bld.push_ix {W w1 : World} {n0 g m : Nat} {vi vb v' : Value} {T : Tr} {mb : List (List Int)} (h : Bld W n0 g m vi vb T mb) (X : Obj) (i : Int) (hn : n0 ≤ W.heap.size)
    (hown : w1.ownsRow n0 3 1 v' (T.ix.length + 1) (intCells T.ix ++ [.int .i64 i])) (hg : (W.alloc X).grownBy w1 vi.ownBlock) (hblk : v'.ownBlock = vi.ownBlock ∨ v'.ownBlock = some (W.alloc X).heap.size) :
    Bld (w1.setCell ⟨g, 0, none⟩ v') n0 g m v' vb ⟨T.ix ++ [i], T.bl⟩ mb ∧ Kept n0 g m W (w1.setCell ⟨g, 0, none⟩ v') ∧ KeepsBut m W (w1.setCell ⟨g, 0, none⟩ v') := by
  have ha := h.grow (World.grownBy_alloc W X none)
  have hgi := own_ne ha.ix ha.blk (by decide)
  have b1 : Blk w1 g _ _ := ha.blk.grown hg hgi
  have hgi' := own_ne hown b1 (by decide)
  have hmi := own_ne_map ha.ix ha.map rfl
  have hmg : m ≠ g := fun e => by
    have := ha.map
    rw [e, ha.blk] at this
    cases this
  have hs := grownBy_setCell w1 g 0 v'
  have hml : m < (W.alloc X).heap.size := (Array.getElem?_eq_some_iff.1 ha.map).1
  have hmap1 := (hg.block m hml hmi).trans ha.map
  obtain ⟨ss, h1, h2, h3⟩ := ha.bl
  have hbi : vb.ownBlock = none ∨ vb.ownBlock ≠ vi.ownBlock := by
    cases hvb : vb.ownBlock with
    | none => exact .inl rfl
    | some k =>
      right
      obtain ⟨cs, t, fr, hc⟩ := own_cells h1 hvb
      intro e
      rcases h1.2 with ⟨rfl, _⟩ | ⟨g', cap, cur, rfl, _, hh, _⟩
      · simp [Value.ownBlock] at hvb
      · have hgg : g' = k := by simpa [Value.ownBlock] using hvb
        subst hgg
        exact own_ne ha.ix (show Blk _ g' _ cur from hh) (by decide) e
  have hbg : vb.ownBlock = none ∨ vb.ownBlock ≠ some g := .inr (fun e => own_ne h1 ha.blk (by decide) e.symm)
  refine ⟨⟨b1.set_ 0 v', (hs.block m (Array.getElem?_eq_some_iff.1 hmap1).1 (by simpa using hmg)).trans hmap1, ?_, ⟨ss, (h1.kept hg hbi).kept hs hbg, h2, fun j hj hj' => ?_⟩, h.len⟩, ?_, ?_⟩
  · have := hown.kept hs (.inr (fun e => hgi' e.symm))
    simpa [intCells] using this
  · obtain ⟨b, c, e1, e2, e3, e4, e5, e6, e7, e8⟩ := h3 j hj hj'
    have hb1 : w1.heap[b]? = (W.alloc X).heap[b]? := hg.block b e3 (fun e => e4 e.symm)
    have hlt1 : b < w1.heap.size := Nat.lt_of_lt_of_le e3 hg.size
    refine ⟨b, c, e1, e2, Nat.lt_of_lt_of_le hlt1 hs.size, ?_, e5, e6, e7, fun k u hu => ?_⟩
    · rcases hblk with e | e
      · rw [e]; exact e4
      · rw [e]; intro e'; injection e' with e'; omega
    · rw [World.cell?_of_block (a := ⟨b, k, none⟩) (hs.block b hlt1 (by simpa using e6)), World.cell?_of_block (a := ⟨b, k, none⟩) hb1]
      exact e8 k u hu
  · have hB1 : Below n0 W w1 := ((Below.refl n0 W).alloc hn X).grown hg (by simp; omega) (fun k e => (ha.ix.lt k e).1)
    exact (Kept.of_below hB1).trans (Kept.grown hs (Nat.le_trans hn hB1.size) (fun k e => by cases e; exact .inr (.inl rfl)))
  · exact (KeepsBut.of_grown m (World.grownBy_alloc W X none) (by simp)).trans ((KeepsBut.of_grown m hg (fun k e => own_cells ha.ix e)).trans (KeepsBut.of_grown m hs (fun k e => by injection e with e; subst e; exact ⟨_, _, _, b1⟩)))

/-- the map is written -/
theorem Bld.put_map {W : World} {n0 g m n : Nat} {vi vb : Value} {T : Tr} {mb mb' : List (List Int)} (h : Bld W n0 g m vi vb T mb) (hl : mb'.length = n) :
    Bld (W.drew.putObj m (.map (ents mb').toArray n)) n0 g m vi vb T mb' ∧ W.grownBy (W.drew.putObj m (.map (ents mb').toArray n)) (some m) ∧ KeepsBut m W (W.drew.putObj m (.map (ents mb').toArray n)) := by
  subst hl
  have hml : m < W.heap.size := (Array.getElem?_eq_some_iff.1 h.map).1
  have hg : W.grownBy (W.drew.putObj m (.map (ents mb').toArray mb'.length)) (some m) := ⟨rfl, rfl, rfl, by simp [World.putObj], fun k _ hk => (World.putObj_heap_other (w := W.drew) (fun e => hk (by rw [e]))).trans rfl⟩
  have hne : ∀ {e n v xs}, W.ownsRow n0 e 1 v n xs → v.ownBlock = none ∨ v.ownBlock ≠ some m := fun ho => .inr (fun e => own_ne_map ho h.map rfl e.symm)
  have hmg : some g ≠ some m := fun e => by
    injection e with e
    have := h.map
    rw [← e, h.blk] at this
    cases this
  obtain ⟨ss, h1, h2, h3⟩ := h.bl
  refine ⟨⟨h.blk.grown hg hmg, World.putObj_heap_same hml, h.ix.kept hg (hne h.ix), ⟨ss, h1.kept hg (hne h1), h2, fun i hi hi' => ?_⟩, h.len⟩, hg, ⟨hg.size, fun k o hk ho _ => (World.putObj_heap_other (w := W.drew) hk).trans ho⟩⟩
  obtain ⟨b, c, e1, e2, e3, e4, e5, e6, e7, e8⟩ := h3 i hi hi'
  exact ⟨b, c, e1, e2, Nat.lt_of_lt_of_le e3 hg.size, e4, e5, e6, e7, fun j u hu => (World.cell?_of_block (a := ⟨b, j, none⟩) (hg.block b e3 (by simpa using e7))).trans (e8 j u hu)⟩

theorem grown_of_below {w w' : World} (h : Below w.heap.size w w') (row : Option Nat) : w.grownBy w' row := ⟨h.os, h.tape, h.output, h.size, fun k hk _ => h.block k hk⟩
theorem Blk.rds {w : World} {g : Nat} {t : TypeId} {x : List Int} (h : Blk w g t (intArr x)) (hx : x.length ≤ 1000000) : Rds w w.heap.size 1 (some ⟨g, 0, none⟩) x.length (intCells x) :=
  ⟨by simp [intCells], by omega, fun _ => ⟨g, 0, rfl, h.lt, fun j u hu => by rw [Nat.zero_add, h.cell j]; simpa [intArr] using hu⟩⟩

/-- a block is put behind the blocks -/
theorem Bld.push_bl {W w1 : World} {n0 g m gc cc : Nat} {vi vb v' : Value} {T : Tr} {mb : List (List Int)} (h : Bld W n0 g m vi vb T mb) (X : Obj) (x : List Int) (hx : x.length = 256) (hn : n0 ≤ W.heap.size)
    (ss : List (Option Addr × Nat × Nat)) (h1 : W.ownsRow n0 24 1 vb T.bl.length (ss.map sv)) (h2 : ss.length = T.bl.length)
    (h3 : ∀ i (h : i < ss.length) (h' : i < T.bl.length), ∃ b c : Nat, ss[i] = (some ⟨b, 0, none⟩, T.bl[i].length, c) ∧ n0 ≤ b ∧ b < W.heap.size ∧ vi.ownBlock ≠ some b ∧ vb.ownBlock ≠ some b ∧ b ≠ g ∧ b ≠ m ∧
      ∀ (j : Nat) (u : Value), (intCells T.bl[i])[j]? = some u → W.cell? ⟨b, j, none⟩ = some u)
    (hown : w1.ownsRow n0 24 1 v' (T.bl.length + 1) (ss.map sv ++ [.slice (some ⟨gc, 0, none⟩) 256 cc])) (hg : (W.alloc X).grownBy w1 vb.ownBlock) (hblk : v'.ownBlock = vb.ownBlock ∨ v'.ownBlock = some (W.alloc X).heap.size)
    (c1 : n0 ≤ gc) (c2 : gc < W.heap.size) (c3 : vi.ownBlock ≠ some gc) (c4 : vb.ownBlock ≠ some gc) (c5 : gc ≠ g) (c6 : gc ≠ m) (c7 : ∀ (j : Nat) (u : Value), (intCells x)[j]? = some u → W.cell? ⟨gc, j, none⟩ = some u) :
    Bld (w1.setCell ⟨g, 1, none⟩ v') n0 g m vi v' ⟨T.ix, T.bl ++ [x]⟩ mb ∧ Kept n0 g m W (w1.setCell ⟨g, 1, none⟩ v') ∧ KeepsBut m W (w1.setCell ⟨g, 1, none⟩ v') := by
  have ha := h.grow (World.grownBy_alloc W X none)
  have h1a := h1.alloc X
  have hgb := own_ne h1a ha.blk (by decide)
  have b1 : Blk w1 g _ _ := ha.blk.grown hg hgb
  have hgb' := own_ne hown b1 (by decide)
  have hmb := own_ne_map h1a ha.map rfl
  have hmg : m ≠ g := fun e => by
    have := ha.map
    rw [e, ha.blk] at this
    cases this
  have hs := grownBy_setCell w1 g 1 v'
  have hml : m < (W.alloc X).heap.size := (Array.getElem?_eq_some_iff.1 ha.map).1
  have hmap1 := (hg.block m hml hmb).trans ha.map
  have hib : vi.ownBlock = none ∨ vi.ownBlock ≠ vb.ownBlock := by
    cases hvi : vi.ownBlock with
    | none => exact .inl rfl
    | some k =>
      right
      intro e
      rcases ha.ix.2 with ⟨rfl, _⟩ | ⟨g', cap, cur, rfl, _, hh, _⟩
      · simp [Value.ownBlock] at hvi
      · have hgg : g' = k := by simpa [Value.ownBlock] using hvi
        subst hgg
        exact own_ne h1a (show Blk _ g' _ cur from hh) (by decide) e
  have hig : vi.ownBlock = none ∨ vi.ownBlock ≠ some g := .inr (fun e => own_ne ha.ix ha.blk (by decide) e.symm)
  have szW : W.heap.size ≤ (W.alloc X).heap.size := by simp
  have row : ∀ (b : Nat) (l : List Int), b < W.heap.size → vb.ownBlock ≠ some b → b ≠ g → (∀ (j : Nat) (u : Value), (intCells l)[j]? = some u → W.cell? ⟨b, j, none⟩ = some u) →
      b < (w1.setCell ⟨g, 1, none⟩ v').heap.size ∧ v'.ownBlock ≠ some b ∧ ∀ (j : Nat) (u : Value), (intCells l)[j]? = some u → (w1.setCell ⟨g, 1, none⟩ v').cell? ⟨b, j, none⟩ = some u := by
    intro b l e3 e5 e6 e8
    have hba : (W.alloc X).heap[b]? = W.heap[b]? := Below.heap_alloc W X b e3
    have hb1 : w1.heap[b]? = (W.alloc X).heap[b]? := hg.block b (by omega) (fun e => e5 e.symm)
    have hlt1 : b < w1.heap.size := Nat.lt_of_lt_of_le (by omega) hg.size
    refine ⟨Nat.lt_of_lt_of_le hlt1 hs.size, ?_, fun k u hu => ?_⟩
    · rcases hblk with e | e
      · rw [e]; exact e5
      · rw [e]; intro e'; injection e' with e'; simp at e'; omega
    · rw [World.cell?_of_block (a := ⟨b, k, none⟩) (hs.block b hlt1 (by simpa using e6)), World.cell?_of_block (a := ⟨b, k, none⟩) hb1, World.cell?_of_block (a := ⟨b, k, none⟩) hba]
      exact e8 k u hu
  refine ⟨⟨b1.set_ 1 v', (hs.block m (Array.getElem?_eq_some_iff.1 hmap1).1 (by simpa using hmg)).trans hmap1, (ha.ix.kept hg hib).kept hs hig, ⟨ss ++ [(some ⟨gc, 0, none⟩, 256, cc)], ?_, by simp [h2], fun j hj hj' => ?_⟩, ?_⟩, ?_, ?_⟩
  · have := hown.kept hs (.inr (fun e => hgb' e.symm))
    simpa [sv] using this
  · by_cases hjl : j < ss.length
    · have hjl' : j < T.bl.length := by omega
      obtain ⟨b, c, e1, e2, e3, e4, e5, e6, e7, e8⟩ := h3 j hjl hjl'
      obtain ⟨r1, r2, r3⟩ := row b _ e3 e5 e6 e8
      refine ⟨b, c, ?_, e2, r1, e4, r2, e6, e7, ?_⟩
      · rw [List.getElem_append_left hjl, e1]
        simp only [List.getElem_append_left hjl']
      · simpa only [List.getElem_append_left hjl'] using r3
    · have hje : j = T.bl.length := by simp at hj'; omega
      subst hje
      obtain ⟨r1, r2, r3⟩ := row gc x c2 c4 c5 c7
      refine ⟨gc, cc, ?_, c1, r1, c3, r2, c5, c6, ?_⟩
      · rw [List.getElem_append_right (by omega)]
        simp [h2, hx]
      · simpa using r3
  · intro b hb
    rcases List.mem_append.1 hb with hb | hb
    · exact h.len b hb
    · simp at hb; rw [hb]; exact hx
  · have hB1 : Below n0 W w1 := ((Below.refl n0 W).alloc hn X).grown hg (by simp; omega) (fun k e => (h1a.lt k e).1)
    exact (Kept.of_below hB1).trans (Kept.grown hs (Nat.le_trans hn hB1.size) (fun k e => by cases e; exact .inr (.inl rfl)))
  · exact (KeepsBut.of_grown m (World.grownBy_alloc W X none) (by simp)).trans ((KeepsBut.of_grown m hg (fun k e => own_cells h1a e)).trans (KeepsBut.of_grown m hs (fun k e => by injection e with e; subst e; exact ⟨_, _, _, b1⟩)))

set_option maxRecDepth 100000 in
set_option maxHeartbeats 1000000 in
theorem add_in (n0 g m : Nat) (vi vb : Value) (T : Tr) (x : List Int) (w : World) (hx : x.length = 256) (h : Bld w n0 g m vi vb T T.bl) (hn : n0 ≤ w.heap.size) (hl1 : T.ix.length ≤ 5000) (_ : T.bl.length ≤ 5000) (hin : blkIn T.bl x = true) :
    Calls Tryd.prog 47 #[.pointer (some ⟨g, 0, none⟩), .agg (intArr x)] w (Added w n0 g m (T.add x)) := by
  have hk : Tryd.prog.underlying 75 = some (.array 256 3) := Tryd.underlying75
  obtain ⟨i0, hi, hz0, hz1, hz2⟩ := info_parts info3
  have hcs : Tryd.prog.cellsOf 3 = 1 := by kernel_rfl
  have hpl : Tryd.prog.plainKey 3 = true := by kernel_rfl
  have hz : ∀ w : World, (zeroValue 3).run Tryd.prog w = .ok (.int .i64 0) w := fun w => by kernel_rfl
  have hsize : (Tryd.prog.info? 75).map (·.size) = some (intArr x).size := by rw [intArr_size, hx]; kernel_rfl
  have hbx := Blk.new w 75 (intArr x)
  have k2 := h.blk.cell 2
  have k0 := h.blk.cell 0
  have k1 := h.blk.cell 1
  simp only [List.getElem?_toArray, List.getElem?_cons_zero, List.getElem?_cons_succ] at k0 k1 k2
  have f0 := h.blk.frozen 0
  have f1 := h.blk.frozen 1
  have gl := h.blk.lt
  have hml : m < w.heap.size := (Array.getElem?_eq_some_iff.1 h.map).1
  have hlook : ∀ q, (Instr.lookup 67 (.map (some m)) (.agg (intArr x)) true).run Tryd.prog ((w.alloc (.cells (intArr x) 75)).drewN q) = .ok (.tuple #[.int .i64 (blkNo T.bl x : Int), .bool true]) ((w.alloc (.cells (intArr x) 75)).drewN q) :=
    fun q => by
      have := run_lookup_arr Tryd.underlying67 hk Tryd.underlying3 hi hcs hpl hz x hx ((w.alloc (.cells (intArr x) 75)).drewN q) m _ T.bl h.len ((Below.heap_alloc w _ m hml).trans h.map)
      rw [hin] at this
      exact this
  go_enter Tryd.func47, Tryd.ntmps47
  go_wp2_with fail
  refine wp_region_quiet_lit (by kernel_rfl) (by kernel_rfl) ?_
  iterate 4 (go_big_quiet_step (fail))
  refine quiet_load_row rfl 75 (.tmp 3) rfl w.heap.size rfl 75 (intArr x) (0, 0) _ (fun W hW => by obtain ⟨q, rfl⟩ := hW; exact hbx) hk rfl hsize ?_
  go_frame
  repeat (go_big_quiet_step (fail))
  refine wpQuiet_nil ?_
  intro _ hw'
  obtain ⟨nq, hw''⟩ := hw'
  subst hw''
  clear hlook
  have hg0 : w.grownBy ((w.alloc (.cells (intArr x) 75)).drewN nq) none := grownBy_drewN (World.grownBy_alloc w _ none) nq
  have hW := h.grow hg0
  have hWx : Blk ((w.alloc (.cells (intArr x) 75)).drewN nq) w.heap.size 75 (intArr x) := hbx
  have hWs : w.heap.size < ((w.alloc (.cells (intArr x) 75)).drewN nq).heap.size := hWx.lt
  clear hbx
  generalize (w.alloc (.cells (intArr x) 75)).drewN nq = W at *
  have HK := hide hg0
  clear hg0 k0 k1 k2 f0 f1
  have k2 := hW.blk.cell 2
  have k0 := hW.blk.cell 0
  have k1 := hW.blk.cell 1
  simp only [List.getElem?_toArray, List.getElem?_cons_zero, List.getElem?_cons_succ] at k0 k1 k2
  have f0 := hW.blk.frozen 0
  have f1 := hW.blk.frozen 1
  have hown := hW.ix
  have hgi := own_ne (hW.grow (World.grownBy_alloc W (.cells #[.int .i64 (blkNo T.bl x : Int)] 3) none)).ix (hW.blk.alloc _) (by decide)
  go_wp2_with (at_builtin; refine wpList_append_own_at _ rfl (.tmp 47) (.tmp 49) 24 rfl n0 3 i0 (.int .i64 0) 1 8 Tryd.underlying24 hi hz0 hz1 hz2 rfl (by decide) vi T.ix.length (intCells T.ix) rfl (hown.alloc _) ⟨W.heap.size, 0, none⟩ 1 1 [.int .i64 (blkNo T.bl x : Int)] rfl rfl (cell_one_new _ _ _) (by simp [Value.oneCell']) (by unfold maxLen; omega) (by omega) (by simp; omega) ?_; intro v' w1 hown1 hgrow1 _ hblk1; obtain ⟨g', cap', rfl⟩ := own_some hown1 (by omega); have HO := hide hown1; have HB := hide hblk1; have HG := hide hgrow1; have b1 := (hW.blk.alloc (.cells #[.int .i64 (blkNo T.bl x : Int)] 3)).grown hgrow1 hgi; have q0 := b1.cell 0; have q1 := b1.frozen 0; clear hown1 hblk1 hgrow1 b1; simp only [List.getElem?_toArray, List.getElem?_cons_zero] at q0)
  go_end0
  obtain ⟨r1, r2, r3⟩ := hW.push_ix _ _ (by omega) HO.out HG.out HB.out
  refine ⟨rfl, ⟨_, _, by unfold Tr.add; rw [hin]; exact r1⟩, ?_, ?_⟩
  · exact (Kept.grown HK.out hn (by simp)).trans r2
  · exact (KeepsBut.of_grown m HK.out (by simp)).trans r3

theorem info24 : (Tryd.prog.info? 24).map (fun i => (i.zero, i.size, i.bytes)) = some (some (.slice none 0 0), 1, 24) := by kernel_rfl

set_option maxRecDepth 100000 in
set_option maxHeartbeats 1000000 in
theorem add_new (n0 g m : Nat) (vi : Value) (Ab : Option Addr) (cb : Nat) (T : Tr) (x : List Int) (w : World) (hx : x.length = 256) (h : Bld w n0 g m vi (.slice Ab T.bl.length cb) T T.bl) (hn : n0 ≤ w.heap.size) (hl1 : T.ix.length ≤ 5000) (hl2 : T.bl.length ≤ 5000) (hin : blkIn T.bl x = false) :
    Calls Tryd.prog 47 #[.pointer (some ⟨g, 0, none⟩), .agg (intArr x)] w (Added w n0 g m (T.add x)) := by
  have hk : Tryd.prog.underlying 75 = some (.array 256 3) := Tryd.underlying75
  obtain ⟨i0, hi, hz0, hz1, hz2⟩ := info_parts info3
  have hcs : Tryd.prog.cellsOf 3 = 1 := by kernel_rfl
  have hpl : Tryd.prog.plainKey 3 = true := by kernel_rfl
  have hz : ∀ w : World, (zeroValue 3).run Tryd.prog w = .ok (.int .i64 0) w := fun w => by kernel_rfl
  have hsize : (Tryd.prog.info? 75).map (·.size) = some (intArr x).size := by rw [intArr_size, hx]; kernel_rfl
  have hbx := Blk.new w 75 (intArr x)
  have k2 := h.blk.cell 2
  have k0 := h.blk.cell 0
  have k1 := h.blk.cell 1
  simp only [List.getElem?_toArray, List.getElem?_cons_zero, List.getElem?_cons_succ] at k0 k1 k2
  have f0 := h.blk.frozen 0
  have f1 := h.blk.frozen 1
  have gl := h.blk.lt
  have hml : m < w.heap.size := (Array.getElem?_eq_some_iff.1 h.map).1
  have hlook : ∀ q, (Instr.lookup 67 (.map (some m)) (.agg (intArr x)) true).run Tryd.prog ((w.alloc (.cells (intArr x) 75)).drewN q) = .ok (.tuple #[.int .i64 (blkNo T.bl x : Int), .bool false]) ((w.alloc (.cells (intArr x) 75)).drewN q) :=
    fun q => by
      have := run_lookup_arr Tryd.underlying67 hk Tryd.underlying3 hi hcs hpl hz x hx ((w.alloc (.cells (intArr x) 75)).drewN q) m _ T.bl h.len ((Below.heap_alloc w _ m hml).trans h.map)
      rw [hin] at this
      exact this
  go_enter Tryd.func47, Tryd.ntmps47
  go_wp2_with fail
  refine wp_region_quiet_lit (by kernel_rfl) (by kernel_rfl) ?_
  iterate 4 (go_big_quiet_step (fail))
  refine quiet_load_row rfl 75 (.tmp 3) rfl w.heap.size rfl 75 (intArr x) (0, 0) _ (fun W hW => by obtain ⟨q, rfl⟩ := hW; exact hbx) hk rfl hsize ?_
  go_frame
  repeat (go_big_quiet_step (fail))
  refine wpQuiet_nil ?_
  intro _ hw'
  obtain ⟨nq, hw''⟩ := hw'
  subst hw''
  clear hlook
  have hg0 : w.grownBy ((w.alloc (.cells (intArr x) 75)).drewN nq) none := grownBy_drewN (World.grownBy_alloc w _ none) nq
  have hW := h.grow hg0
  have hWx : Blk ((w.alloc (.cells (intArr x) 75)).drewN nq) w.heap.size 75 (intArr x) := hbx
  have hWs : w.heap.size < ((w.alloc (.cells (intArr x) 75)).drewN nq).heap.size := hWx.lt
  clear hbx
  generalize (w.alloc (.cells (intArr x) 75)).drewN nq = W at *
  have HK := hide hg0
  clear hg0 k0 k1 k2 f0 f1
  have k2 := hW.blk.cell 2
  have k0 := hW.blk.cell 0
  have k1 := hW.blk.cell 1
  simp only [List.getElem?_toArray, List.getElem?_cons_zero, List.getElem?_cons_succ] at k0 k1 k2
  have f0 := hW.blk.frozen 0
  have f1 := hW.blk.frozen 1
  have hupd := run_update_arr Tryd.underlying67 hk Tryd.underlying3 hi hcs hpl x hx W.drew m T.bl h.len hW.map hin
  go_wp2_with fail
  refine wp_region_still_tail 6 (by kernel_rfl) (by kernel_rfl) ?_
  simp only [List.take_succ_cons, List.take_zero, List.drop_succ_cons, List.drop_zero]
  iterate 4 still_step
  refine still_load_row rfl 75 (.tmp 3) rfl w.heap.size rfl 75 (intArr x) (0, 0) _ hWx hk rfl hsize ?_
  go_frame
  still_step
  refine wpStill_nil ?_
  change wpList _ _ _ _ _ W.drew
  go_wp2_with fail
  obtain ⟨p1, p2, p3⟩ := hW.put_map (mb' := T.bl ++ [x]) (n := T.bl.length + 1) (by simp)
  have hxm : some w.heap.size ≠ some m := fun e => by
    injection e with e
    have := hW.map
    rw [← e, hWx] at this
    cases this
  have hWx3 := hWx.grown p2 hxm
  have hWs3 : w.heap.size < (W.drew.putObj m (.map (ents (T.bl ++ [x])).toArray (T.bl.length + 1))).heap.size := hWx3.lt
  have hsz3 := p2.size
  clear hupd k0 k1 k2 f0 f1
  generalize W.drew.putObj m (.map (ents (T.bl ++ [x])).toArray (T.bl.length + 1)) = W3 at *
  have HP2 := hide p2
  have HP3 := hide p3
  clear p2 p3
  have k0 := p1.blk.cell 0
  have k1 := p1.blk.cell 1
  simp only [List.getElem?_toArray, List.getElem?_cons_zero, List.getElem?_cons_succ] at k0 k1
  have f1 := p1.blk.frozen 1
  have gl3 := p1.blk.lt
  obtain ⟨i1, hi', hz0', hz1', hz2'⟩ := info_parts info24
  have HXr : Rds W3.drew W3.drew.heap.size 1 (some ⟨w.heap.size, 0, none⟩) 256 (intCells x) := by have := hWx3.rds (by omega); rw [hx] at this; exact this
  have p1d : Bld W3.drew n0 g m vi (.slice Ab T.bl.length cb) T (T.bl ++ [x]) := p1.grow ⟨rfl, rfl, rfl, Nat.le_refl _, fun _ _ _ => rfl⟩
  have hS : W3.drew.cell? ⟨g, 1, none⟩ = some (.slice Ab T.bl.length cb) := k1
  refine wp_region_heads (fun w' => w'.cell? ⟨g, 1, none⟩ = some (.slice Ab T.bl.length cb)) 7 3 (by kernel_rfl) (by kernel_rfl) (fun _ _ d _ _ h => by cases d <;> exact h) hS ?_
  simp only [List.take_succ_cons, List.take_zero, List.drop_succ_cons, List.drop_zero]
  refine heads_step (v := .pointer (some ⟨g, 0, none⟩)) rfl (fun W' hS' => by rfl) ?_
  go_frame
  refine heads_step (v := .pointer (some ⟨g, 0, none⟩)) rfl (fun W' hS' => by rfl) ?_
  go_frame
  refine heads_step (v := .pointer (some ⟨g, 0, none⟩)) rfl (fun W' hS' => by go_simp) ?_
  go_frame
  refine heads_step (v := .pointer (some ⟨g, 0, none⟩)) rfl (fun W' hS' => by go_simp) ?_
  go_frame
  refine heads_step (v := .pointer (some ⟨g, 1, none⟩)) rfl (fun W' hS' => by go_simp) ?_
  go_frame
  refine heads_step (v := .slice Ab T.bl.length cb) rfl (fun W' hS' => by go_simp) ?_
  go_frame
  refine heads_step (v := .slice (some ⟨w.heap.size, 0, none⟩) 256 256) rfl (fun W' hS' => by go_simp) ?_
  go_frame
  refine heads_nil ?_
  refine mid_step rfl (fun K hK => ?_)
  go_simp
  refine (clone_any w.heap.size 0 256 256 x _ HXr (by omega) (by omega) : Calls Tryd.prog 70 #[.slice (some ⟨w.heap.size, 0, none⟩) 256 256] W3.drew _).mono ?_
  rintro e w4 ⟨gc, cc, rfl, hoc, hbc⟩
  have HHOC := hide hoc
  have p4 := p1d.grow (grown_of_below hbc none)
  have hs4 := hbc.size
  have hgc : W3.drew.heap.size ≤ gc ∧ gc < w4.heap.size := hoc.lt gc rfl
  obtain ⟨ss, hvb4, hss4, hrows4⟩ := p4.bl
  have HR4 := hide hrows4
  clear hrows4
  have j1 := p4.blk.cell 1
  simp only [List.getElem?_toArray, List.getElem?_cons_zero, List.getElem?_cons_succ] at j1
  have jf := p4.blk.frozen 1
  have jl := p4.blk.lt
  have hW3s : W3.drew.heap.size = W3.heap.size := rfl
  refine hK _ _ ⟨j1, ?_⟩
  show wpMid _ _ _ _ _ _ _ _
  try go_frame
  refine mid_step rfl (fun K2 hK2 => ?_)
  go_simp
  refine hK2 _ _ ⟨(World.cell?_alloc_lt _ _ _ jl).trans j1, ?_⟩
  try go_frame
  have hgb := own_ne ((p4.grow (World.grownBy_alloc w4 (.cells #[.slice (some ⟨gc, 0, none⟩) 256 cc] 24) none)).bl.choose_spec.1) (p4.blk.alloc _) (by decide)
  refine mid_step rfl (fun K3 hK3 => ?_)
  refine wp_append_lies _ (.tmp 34) (.tmp 37) 25 rfl n0 24 i1 (.slice none 0 0) 1 24 Tryd.underlying25 hi' hz0' hz1' hz2' rfl (by decide) (.slice Ab T.bl.length cb) T.bl.length (ss.map sv) rfl (hvb4.alloc _) ⟨w4.heap.size, 0, none⟩ 1 1 [.slice (some ⟨gc, 0, none⟩) 256 cc] rfl rfl (cell_one_new _ _ _) (by simp [Value.oneCell']) (by omega) (by unfold maxLen; omega) (by omega) (by simp; omega) (w4.alloc (.cells #[.slice (some ⟨gc, 0, none⟩) 256 cc] 24)).heap.size rfl ?_
  intro g5 cap5 w5 hown5 hgrow5 hblk5 hlt5
  have b5 : Blk w5 g _ _ := (p4.blk.alloc _).grown hgrow5 hgb
  have q1 := b5.cell 1
  have qf := b5.frozen 1
  have ql := b5.lt
  simp only [List.getElem?_toArray, List.getElem?_cons_zero, List.getElem?_cons_succ] at q1
  obtain ⟨s1, s2, s3⟩ := p4.push_bl (X := .cells #[.slice (some ⟨gc, 0, none⟩) 256 cc] 24) x hx (by omega) ss hvb4 hss4 HR4.out (cc := cc) (gc := gc) hown5 hgrow5 (hblk5.elim (fun e => .inl (by rw [e]; rfl)) (fun e => .inr (by rw [e]; rfl)))
    (by omega) hgc.2 (fun e => by have := (p1d.ix.lt _ e).2; omega) (fun e => by
      obtain ⟨ss', o', _⟩ := p1d.bl
      have := (o'.lt _ e).2
      omega) (by omega) (fun e => by have := (Array.getElem?_eq_some_iff.1 p1.map).1; omega) (fun j u hu => by
      have h7 := hoc.cells (g := gc) rfl j u hu
      have h8 : (⟨gc, 0, none⟩ : Addr).add j = ⟨gc, j, none⟩ := by unfold Addr.add; split <;> simp_all
      rwa [h8] at h7)
  clear hown5 hgrow5 hblk5
  refine hK3 _ _ ⟨q1, ?_⟩
  try go_frame
  refine mid_nil ?_
  have t0 := s1.blk.cell 0
  have tf := s1.blk.frozen 0
  have tl := s1.blk.lt
  simp only [List.getElem?_toArray, List.getElem?_cons_zero] at t0
  have HS1 := hide s1
  have HS2 := hide s2
  have HS3 := hide s3
  have gi5 := own_ne (s1.grow (World.grownBy_alloc _ (.cells #[.int .i64 (T.bl.length : Int)] 3) none)).ix (s1.blk.alloc _) (by decide)
  clear s1 s2 s3
  go_wp2_with (at_builtin; go_must (refine wpList_append_own_at _ rfl (.tmp 47) (.tmp 49) 24 rfl n0 3 i0 (.int .i64 0) 1 8 Tryd.underlying24 hi hz0 hz1 hz2 rfl (by decide) vi T.ix.length (intCells T.ix) rfl (HS1.out.ix.alloc _) ⟨w5.heap.size, 0, none⟩ 1 1 [.int .i64 (T.bl.length : Int)] rfl rfl (by have h9 := cell_one_new (w5.setCell ⟨g, 1, none⟩ (.slice (some ⟨g5, 0, none⟩) (T.bl.length + 1) cap5)) (.int .i64 (T.bl.length : Int)) 3; rw [World.size_setCell] at h9; exact h9) (by simp [Value.oneCell']) (by unfold maxLen; omega) (by omega) (by have := HS2.out.size; simp at this ⊢; omega) ?_); intro v' w1 hown1 hgrow1 _ hblk1; obtain ⟨g', cap', rfl⟩ := own_some hown1 (by omega); have HO := hide hown1; have HB := hide hblk1; have HG := hide hgrow1; have b1 := (HS1.out.blk.alloc (.cells #[.int .i64 (T.bl.length : Int)] 3)).grown hgrow1 gi5; have q0 := b1.cell 0; have q1 := b1.frozen 0; clear hown1 hblk1 hgrow1 b1; simp only [List.getElem?_toArray, List.getElem?_cons_zero] at q0)
  go_end0
  have hs5 := HS2.out.size
  obtain ⟨r1, r2, r3⟩ := HS1.out.push_ix _ _ (by omega) HO.out HG.out HB.out
  have hbW : Kept n0 g m w W := Kept.grown HK.out hn (by simp)
  have hb3 : Kept n0 g m W W3 := Kept.grown HP2.out (by omega) (fun k e => by cases e; exact .inr (.inr rfl))
  have hb4 : Kept n0 g m W3 w4 := Kept.of_below (((Below.refl n0 W3).drew).trans (hbc.mono (by omega)))
  refine ⟨rfl, ⟨_, _, by unfold Tr.add; rw [hin]; exact r1⟩, ?_, ?_⟩
  · exact hbW.trans (hb3.trans (hb4.trans (HS2.out.trans r2)))
  · exact (KeepsBut.of_grown m HK.out (by simp)).trans (HP3.out.trans ((KeepsBut.of_grown m (grown_of_below hbc none) (by simp) : KeepsBut m W3.drew w4).trans (HS3.out.trans r3)))

theorem add_any (n0 g m : Nat) (vi vb : Value) (T : Tr) (x : List Int) (w : World) (hx : x.length = 256) (h : Bld w n0 g m vi vb T T.bl) (hn : n0 ≤ w.heap.size) (hl1 : T.ix.length ≤ 5000) (hl2 : T.bl.length ≤ 5000) :
    Calls Tryd.prog 47 #[.pointer (some ⟨g, 0, none⟩), .agg (intArr x)] w (Added w n0 g m (T.add x)) := by
  cases hin : blkIn T.bl x with
  | true => exact add_in n0 g m vi vb T x w hx h hn hl1 hl2 hin
  | false =>
    obtain ⟨ss, h1, _⟩ := h.bl
    rcases h1.2 with ⟨rfl, h0⟩ | ⟨g', cap, cur, rfl, _⟩
    · have e : Value.slice none 0 0 = .slice none T.bl.length 0 := by rw [h0]
      rw [e] at h
      exact add_new n0 g m vi none 0 T x w hx h hn hl1 hl2 hin
    · exact add_new n0 g m vi _ cap T x w hx h hn hl1 hl2 hin

end Go.Proofs.YtibndkkbmgbogaaDoor
