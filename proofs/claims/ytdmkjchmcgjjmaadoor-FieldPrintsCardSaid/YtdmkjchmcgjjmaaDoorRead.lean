/- The program's (*field.reader).read: a file's records. Conditions: the file is of moderate size; the package's variables hold what they hold. -/
import Derived.Test.YtdmkjchmcgjjmaaDoorLines
import Derived.Test.YtdmkjchmcgjjmaaDoorMixT
import Derived.Maps.RangeWalk
import Derived.Laws.Rows
namespace Go.Proofs.YtdmkjchmcgjjmaaDoor
open Go Go.RowKit

section
variable {P : Program} {ops : Array Oper} {Q : Exit → Act → World → Prop} {lq n : Nat}
/-- the walk of a region that draws its order, in a round, by a tree -/
theorem wpIn_round_mixT {id : Nat} {a : Act} {w : World} (S : World → Prop) (need : Nat → Bool) (m : MixT) (hm : P.follows .mixedOrders = true)
    (hB : (Region.noSelect ops && mixTB .any ops need m ops.size (Array.replicate ops.size false)) = true) (hd : noDefer ops = true) (hL : ¬ LetsOut Q)
    (hQ : ∀ c a d v w, Q (.panic c) (a.put d v) w → Q (.panic c) a w)
    (h : wpMixT P ops S need Q m a w.drew) : (Code.region id ops true).wpIn (Fence.wide.inRound lq) n P Q a w := by
  simp only [Bool.and_eq_true] at hB
  exact wpIn_region_any hm (wpAnyIn_round hd hL _ _ _ _ (wpAny_of_N _ _ _ _ (S := S) (need := need) (mixT_L (P := P) (md := .any) (Q := Q) (S := S) (need := need) hB.1 hQ m ops.size (Array.replicate ops.size false) a w.drew (Closed.none _) hB.2 h)))
end

section
variable {P : Program} {Q : Exit → Act → World → Prop} {lq n : Nat}
/-- **the walk of such a region in a round**, the waits taken over steps between: m reads, then t operations that keep S, then the rest -/
theorem wpIn_round_headsT {id : Nat} {a : Act} {w : World} {lo : List Oper} (S : World → Prop) (m t : Nat) (hm : P.follows .mixedOrders = true)
    (hB : (Region.noSelect lo.toArray && decide (m + t ≤ lo.length) && headsT .any lo.toArray (m + t) t (lo.length - (m + t)) m 0 (Array.replicate lo.length false)) = true)
    (hd : noDefer lo.toArray = true) (hL : ¬ LetsOut Q)
    (hQ : ∀ c a d v w, Q (.panic c) (a.put d v) w → Q (.panic c) a w) (hS : S w.drew)
    (h : wpHeads P lo.toArray S (fun a => wpMid P lo.toArray S Q (wpList P lo.toArray Q (lo.drop (m + t))) ((lo.drop m).take t) a w.drew) (lo.take m) a) : (Code.region id lo.toArray true).wpIn (Fence.wide.inRound lq) n P Q a w := by
  simp only [Bool.and_eq_true, decide_eq_true_eq] at hB
  obtain ⟨⟨hsel, hle⟩, hB⟩ := hB
  have hsplit : lo.take m ++ ((lo.drop m).take t ++ lo.drop (m + t)) = lo := by
    rw [← List.drop_drop, List.take_append_drop, List.take_append_drop]
  have h1 : (lo.take m).length = m := by simp; omega
  have h2 : ((lo.drop m).take t).length = t := by simp; omega
  have h3 : (lo.drop (m + t)).length = lo.length - (m + t) := by simp
  have hfin := heads_T (P := P) (md := .any) (Q := Q) (S := S) (m := m + t) hsel hQ (lo.take m) ((lo.drop m).take t) (lo.drop (m + t)) 0 (Array.replicate lo.length false) a w.drew
    (fun j => by rw [hsplit]; simp) h2 h3 (by simp) (by omega) hS (Closed.none _) (by rw [h1]; exact hB) h
  refine wpIn_region_any hm (wpAnyIn_round hd hL _ _ _ _ (wpAny_of_N _ _ _ _ (S := S) (need := fun j => decide (j < m + t)) ?_))
  have hs : lo.toArray.size = (lo.take m).length + (t + (lo.length - (m + t))) := by simp; omega
  rw [hs]
  have hr : Array.replicate ((lo.take m).length + (t + (lo.length - (m + t)))) false = Array.replicate lo.length false := by congr 1; simp; omega
  rw [hr]
  exact hfin
end

/-- a loop's record -/
def lrec (fn : FuncId) (tmps : Array Value) (ps : Array Tmp) (assign body : Code) (D : Nat) (st : LoopState) (pe : Option Code) : Loop := { state := st, pending := pe, fn, tmps, params := ps, assign, body, defers := D }
section
variable {F : Fence} {P : Program} {n : Nat}
/-- a range over a function, its iterator's call at hand -/
theorem wpIn_range_call {g : Operand} {ps : Array Tmp} {assign body : Code} {Q : Exit → Act → World → Prop} {a : Act} {w : World} (hro : F.round = none) (h1 : 1 ≤ n) {gf : Nat} {lb : Array Value} (hg : a.eval g = .func (.func gf) #[] lb) (hFg : F.fn gf)
    (eg : ∀ args w, (callFunc gf args).run P w = .ok (.enter gf args) w)
    (h : ∀ (fn : FuncId) (W1 : World) (T : Array Value) (ps' : Array Tmp) (ac bd : Code), T = a.tmps → ps' = ps → ac = assign → bd = body → F.fn fn → W1.heap[w.heap.size + 1]? = some (.loop (lrec fn T ps' ac bd w.heap.size .ready none)) → W1.heap[w.heap.size]? = some (.deferred (some [])) → Below w.heap.size w W1 →
      CallsIn F (n - 1) P gf (#[.func (.yield (w.heap.size + 1)) #[] #[]] ++ lb) W1 (rangePost F n P (w.heap.size + 1) Q { a with defers := [{ target := .collected w.heap.size, args := #[] }] ++ a.defers })) :
    (Code.rangeFunc g ps assign body).wpIn F n P Q a w := by
  refine wpIn_rangeFunc ?_
  intro fn hfn
  rw [hro]
  obtain ⟨ob, hob⟩ : ∃ ob : Obj, ob = .loop (lrec fn a.tmps ps assign body w.heap.size .ready none) := ⟨_, rfl⟩
  obtain ⟨W1, hW1⟩ : ∃ W1 : World, W1 = (w.alloc (.deferred (some []))).alloc ob := ⟨_, rfl⟩
  have hL : W1.heap[w.heap.size + 1]? = some ob := by
    have h9 := World.alloc_heap_new (w.alloc (.deferred (some []))) ob
    rw [World.size_alloc] at h9
    rw [hW1]
    exact h9
  have hK : W1.heap[w.heap.size]? = some (.deferred (some [])) := by
    rw [hW1]
    exact (Below.heap_alloc _ _ _ (by simp)).trans (World.alloc_heap_new w _)
  have hB : Below w.heap.size w W1 := by
    rw [hW1]
    exact ((Below.refl _ w).alloc (Nat.le_refl _) _).alloc (by simp) _
  have hrun : (Instr.enterLoop fn a.tmps ps assign body none).run P w = .ok (w.heap.size + 1, [{ target := .collected w.heap.size, args := #[] }]) W1 := by
    rw [hW1, hob]
    exact run_enterLoop_outer _ _ _ _ _
  have hcall := h fn W1 _ _ _ _ rfl rfl rfl rfl hfn (by rw [hL, hob]) hK hB
  refine ⟨w.heap.size + 1, [{ target := .collected w.heap.size, args := #[] }], W1, { target := .fn (.func gf) lb, args := #[.func (.yield (w.heap.size + 1)) #[] #[]] }, W1, gf, #[.func (.yield (w.heap.size + 1)) #[] #[]] ++ lb, W1, hrun, ?_, ?_, ?_, fun _ => h1, ?_⟩
  rotate_right
  · exact hcall
  · simp only [resolve, hg]
    simp [go_sem]
  · intro f' hf'
    simp [Target.leads] at hf'
    subst hf'
    exact hFg
  · simp [invoke, go_sem, eg]
/-- a call of yield, by the round's walk -/
theorem yield_at {m l : Nat} {fn : FuncId} {tmps : Array Value} {ps : Array Tmp} {assign body : Code} {D : Nat} {args : Array Value} {W : World} {R : Ending → World → Prop} (hfn : F.fn fn) (hl : W.heap[l]? = some (.loop (lrec fn tmps ps assign body D .ready none))) (hs : args.size = ps.size)
    (h : assign.wpIn (F.inRound l) m P (Exit.then (fun a1 w1 => ∃ w2, (Instr.beginRound l).run P w1 = .ok () w2 ∧ body.wpIn (F.inRound l) m P (roundPost P l R) a1 w2) (fun _ _ _ => False)) { tmps := (ps.zip args).foldl (fun t (p, v) => t.setIfInBounds p v) tmps, defers := [] } W) :
    YieldAt F m P l args W R := ⟨_, _, _, _, run_yield hl hs, roundIn_of_wpIn hfn h⟩
theorem begin_at {l : Nat} {fn : FuncId} {tmps : Array Value} {ps : Array Tmp} {assign body : Code} {D : Nat} {W : World} (hl : W.heap[l]? = some (.loop (lrec fn tmps ps assign body D .ready none))) :
    (Instr.beginRound l).run P W = .ok () (W.putObj l (.loop (lrec fn tmps ps assign body D .busy none))) := run_beginRound hl rfl
theorem end_at {l : Nat} {fn : FuncId} {tmps : Array Value} {ps : Array Tmp} {assign body : Code} {D : Nat} {W : World} (jump : Option Code) (hl : W.heap[l]? = some (.loop (lrec fn tmps ps assign body D .busy none))) :
    (Instr.endRound l jump).run P W = .ok (.bool jump.isNone) (W.putObj l (.loop (lrec fn tmps ps assign body D (if jump.isNone then .ready else .done) jump))) := run_endRound jump hl
end

theorem info31 : (Tryd.prog.info? 31).map (fun i => (i.zero, i.size, i.bytes)) = some (some (.agg #[.int .i64 0, .int .i64 0, .int .i64 0, .slice none 0 0]), 4, 48) := by kernel_rfl

theorem lines_in (n : Nat) (g : Nat) (w : World) :
    CallsIn Fence.wide n Tryd.prog 55 #[.pointer (some ⟨g, 0, none⟩)] w fun e w' => e = .returned (.func (.func 72) #[] #[.pointer (some ⟨w.heap.size, 0, none⟩)]) ∧ w' = w.alloc (.cells #[.pointer (some ⟨g, 0, none⟩)] 58) := by
  refine callsIn_of_wp Tryd.func55 rfl trivial ?_ rfl
  simp only [Tryd.ntmps55, List.size_toArray, List.length_cons, List.length_nil, Nat.reduceAdd, Nat.reduceSub, Array.replicate_succ, Array.replicate_zero, List.push_toArray, List.append_toArray, List.nil_append, List.cons_append]
  gi_wp2
  go_ret
  exact ⟨rfl, rfl⟩

/-- what read answers -/
def ReadR (n0 g : Nat) (s : ByteArray) (w0 : World) (e : Ending) (W' : World) : Prop :=
  e = .returned (.tuple #[]) ∧ ((∃ X vo line, St n0 g s w0 line X vo W' ∧ readL (splitT 10 s) 0 [] = (X.map RX.rc, 0, 0)) ∨ (∃ k line, Stop n0 g s w0 line k W' ∧ readL (splitT 10 s) 0 [] = ([], line, k)))

/-- the end of a round that stops -/
theorem stop_end {P : Program} {n0 g D line : Nat} {s : ByteArray} {w0 W : World} {X : List RX} {vo : Value} {k : Int} {fn : FuncId} {T : Array Value} {ps : Array Tmp} {ac bd : Code} (h : St n0 g s w0 line X vo W) (hl : W.heap[D + 1]? = some (.loop (lrec fn T ps ac bd D .busy none))) (hD : W.heap[D]? = some (.deferred (some []))) (hn : n0 ≤ D) (hk : k ≠ 0) :
    ∃ Wd, (Instr.endRound (D + 1) (some .ret)).run P (W.setCell ⟨g, 3, none⟩ (errW k)) = .ok (.bool false) Wd ∧ Stop n0 g s w0 line k Wd ∧ Wd.heap[D + 1]? = some (.loop (lrec fn T ps ac bd D .done (some .ret))) ∧ Wd.heap[D]? = some (.deferred (some [])) := by
  have hg1 : D + 1 ≠ g := fun e => by have := h.blk; unfold Blk at this; rw [← e, hl] at this; cases this
  have hg2 : D ≠ g := fun e => by have := h.blk; unfold Blk at this; rw [← e, hD] at this; cases this
  have hgs := grownBy_setCell W g 3 (errW k)
  have hl2 := (hgs.block (D + 1) (Array.getElem?_eq_some_iff.1 hl).1 (by simpa using hg1)).trans hl
  have hD2 := (hgs.block D (Array.getElem?_eq_some_iff.1 hD).1 (by simpa using hg2)).trans hD
  have kb := h.blk.set_ 3 (errW k)
  have bb := h.below.grown hgs h.size (fun j e => by cases e; exact h.lo)
  have hsz : n0 ≤ (W.setCell ⟨g, 3, none⟩ (errW k)).heap.size := Nat.le_trans h.size hgs.size
  generalize W.setCell ⟨g, 3, none⟩ (errW k) = Wc at *
  have hgp := grownBy_putObj' Wc (D + 1) (.loop (lrec fn T ps ac bd D .done (some .ret)))
  exact ⟨_, end_at (some .ret) hl2, ⟨hk, ⟨vo, kb.grown hgp (by simpa using Ne.symm hg1)⟩, bb.grown hgp hsz (fun j e => by cases e; omega)⟩, World.putObj_heap_same (Array.getElem?_eq_some_iff.1 hl2).1, (World.putObj_heap_other (by omega)).trans hD2⟩

/-- the end of a round that has read a record -/
theorem rec_end {P : Program} {n0 g gx D b1 line a b c : Nat} {s : ByteArray} {w0 Wb w9 : World} {X : List RX} {vo v' : Value} {fs : List ByteArray} {A : Option Addr} {fn : FuncId} {T : Array Value} {ps : Array Tmp} {ac bd : Code} {ob : Obj} (h : St n0 g s w0 line X vo Wb) (hx : Blk Wb gx 31 #[.int .i64 0, .int .i64 (a : Int), .int .i64 (b : Int), .slice A fs.length c]) (hgx : n0 ≤ gx) (hown : ∀ k, vo.ownBlock = some k → k < gx)
    (hfx : FldX Wb n0 ⟨line, a, b, fs, A, c⟩) (hl : Wb.heap[D + 1]? = some (.loop (lrec fn T ps ac bd D .busy none))) (hD : Wb.heap[D]? = some (.deferred (some []))) (hb : Wb.heap[b1]? = some (.cells #[.pointer (some ⟨g, 0, none⟩)] 58 (0, 0))) (hn : n0 ≤ D)
    (ho : w9.ownsRow n0 31 4 v' (X.length + 1) (recCells X ++ [.int .i64 (line : Int), .int .i64 (a : Int), .int .i64 (b : Int), .slice A fs.length c])) (hg : ((Wb.setCell ⟨gx, 0, none⟩ (.int .i64 (line : Int))).drew.alloc ob).grownBy w9 vo.ownBlock) :
    ∃ Wd, (Instr.endRound (D + 1) none).run P (w9.setCell ⟨g, 2, none⟩ v') = .ok (.bool true) Wd ∧ (Wd.heap[D + 1]? = some (.loop (lrec fn T ps ac bd D .ready none)) ∧ Wd.heap[D]? = some (.deferred (some [])) ∧ Wd.heap[b1]? = some (.cells #[.pointer (some ⟨g, 0, none⟩)] 58 (0, 0))) ∧ KeepT Wb Wd ∧ St n0 g s w0 line (X ++ [⟨line, a, b, fs, A, c⟩]) v' Wd := by
  -- the record's line
  have hgs := grownBy_setCell Wb gx 0 (.int .i64 (line : Int))
  have hgg : g ≠ gx := fun e => by
    have h1 := h.blk
    unfold Blk at h1 hx
    rw [e, hx] at h1
    injection h1 with h1
    injection h1 with _ h1
    exact absurd h1 (by decide)
  have kg1 := h.blk.grown hgs (by simpa using hgg)
  have row1 := h.row.kept hgs (by
    cases hv : vo.ownBlock with
    | none => exact .inl rfl
    | some k => exact .inr (fun e => by have := hown k hv; injection e with e; omega))
  have fld1 : ∀ x ∈ X ++ [⟨line, a, b, fs, A, c⟩], FldX (Wb.setCell ⟨gx, 0, none⟩ (.int .i64 (line : Int))) n0 x := fun x hx' => by
    have h1 : FldX Wb n0 x := by
      rcases List.mem_append.1 hx' with h1 | h1
      · exact h.fld x h1
      · rw [List.mem_singleton.1 h1]; exact hfx
    exact ⟨h1.1.grown hx (by decide) hgs, h1.2⟩
  have bel1 := h.below.grown hgs h.size (fun k e => by cases e; exact hgx)
  have kt1 := KeepT.set hx (.inl rfl) 0 (.int .i64 (line : Int))
  have hl1 := (hgs.block (D + 1) (Array.getElem?_eq_some_iff.1 hl).1 (fun e => by injection e with e; unfold Blk at hx; rw [← e, hl] at hx; cases hx)).trans hl
  have hD1 := (hgs.block D (Array.getElem?_eq_some_iff.1 hD).1 (fun e => by injection e with e; unfold Blk at hx; rw [← e, hD] at hx; cases hx)).trans hD
  have hs1 : n0 ≤ (Wb.setCell ⟨gx, 0, none⟩ (.int .i64 (line : Int))).heap.size := Nat.le_trans h.size hgs.size
  generalize Wb.setCell ⟨gx, 0, none⟩ (.int .i64 (line : Int)) = Wc at *
  -- the draw, the new block
  have hb2 : Below Wc.heap.size Wc (Wc.drew.alloc ob) := (show Below Wc.heap.size Wc Wc.drew from ⟨rfl, rfl, rfl, Nat.le_refl _, fun _ _ => rfl⟩).alloc (Nat.le_refl _) _
  have kg2 := kg1.below hb2 kg1.lt
  have row2 := own_below row1 hb2
  have fld2 : ∀ x ∈ X ++ [⟨line, a, b, fs, A, c⟩], FldX (Wc.drew.alloc ob) n0 x := fun x hx' => ⟨(fld1 x hx').1.below hb2, (fld1 x hx').2⟩
  have bel2 := bel1.trans (hb2.mono hs1)
  have kt2 := kt1.trans (KeepT.below hb2)
  have hl2 := (hb2.block (D + 1) (Array.getElem?_eq_some_iff.1 hl1).1).trans hl1
  have hD2 := (hb2.block D (Array.getElem?_eq_some_iff.1 hD1).1).trans hD1
  have hs2 : n0 ≤ (Wc.drew.alloc ob).heap.size := Nat.le_trans hs1 hb2.size
  clear hgs row1 fld1 kt1 hl1 hD1 kg1 bel1 hs1 hb2
  generalize Wc.drew.alloc ob = We at *
  -- the append
  have hne : ∀ k o, We.heap[k]? = some o → (∀ cs fr, o ≠ .cells cs 31 fr) → some k ≠ vo.ownBlock := fun k o hk ho' e => by
    rcases row2.2 with ⟨rfl, _⟩ | ⟨g', cap, cur, rfl, _, hh, _⟩
    · simp [Value.ownBlock] at e
    · have hgg : k = g' := by simpa [Value.ownBlock] using e
      subst hgg
      rw [hk] at hh
      injection hh with hh
      exact ho' cur (0, 0) hh
  have kg3 := kg2.grown hg (hne _ _ kg2 (fun cs fr e => by injection e with _ e; exact absurd e (by decide)))
  have fld3 : ∀ x ∈ X ++ [⟨line, a, b, fs, A, c⟩], FldX w9 n0 x := fun x hx' => ⟨(fld2 x hx').1.ownGrown row2 (by decide) hg, (fld2 x hx').2⟩
  have bel3 := bel2.grown hg hs2 (fun k e => (row2.lt k e).1)
  have kt3 := kt2.trans (KeepT.own row2 hg)
  have hl3 := (hg.block (D + 1) (Array.getElem?_eq_some_iff.1 hl2).1 (hne _ _ hl2 (fun cs fr e => by cases e))).trans hl2
  have hD3 := (hg.block D (Array.getElem?_eq_some_iff.1 hD2).1 (hne _ _ hD2 (fun cs fr e => by cases e))).trans hD2
  have hs3 : n0 ≤ w9.heap.size := Nat.le_trans hs2 hg.size
  -- the store
  have hgt := grownBy_setCell w9 g 2 v'
  have kg4 := kg3.set_ 2 v'
  have row4 := own_kept_ne ho kg3 (by decide) hgt
  have fld4 : ∀ x ∈ X ++ [⟨line, a, b, fs, A, c⟩], FldX (w9.setCell ⟨g, 2, none⟩ v') n0 x := fun x hx' => ⟨(fld3 x hx').1.grown kg3 (by decide) hgt, (fld3 x hx').2⟩
  have bel4 := bel3.grown hgt hs3 (fun k e => by cases e; exact h.lo)
  have kt4 := kt3.trans (KeepT.set kg3 (.inr rfl) 2 v')
  have hl4 := (hgt.block (D + 1) (Array.getElem?_eq_some_iff.1 hl3).1 (fun e => by injection e with e; unfold Blk at kg3; rw [← e, hl3] at kg3; cases kg3)).trans hl3
  have hD4 := (hgt.block D (Array.getElem?_eq_some_iff.1 hD3).1 (fun e => by injection e with e; unfold Blk at kg3; rw [← e, hD3] at kg3; cases kg3)).trans hD3
  clear kg3 fld3 bel3 kt3 hl3 hD3
  have st4 : St n0 g s w0 line (X ++ [⟨line, a, b, fs, A, c⟩]) v' (w9.setCell ⟨g, 2, none⟩ v') := by
    refine ⟨kg4, ?_, fld4, bel4, h.lo⟩
    rw [List.length_append, recCells_snoc]
    exact row4
  generalize w9.setCell ⟨g, 2, none⟩ v' = Wf at *
  -- the round's end
  have hgp := grownBy_putObj' Wf (D + 1) (.loop (lrec fn T ps ac bd D .ready none))
  have kt5 := kt4.trans (KeepT.put hgp hl4 (fun cs t fr => by simp))
  exact ⟨_, end_at none hl4, ⟨World.putObj_heap_same (Array.getElem?_eq_some_iff.1 hl4).1, (World.putObj_heap_other (by omega)).trans hD4, kt5.2 _ _ _ _ hb (by decide) (by decide)⟩, kt5, st4.put hgp hl4 (fun cs t fr => by simp) (Nat.le_succ_of_le hn)⟩

attribute [local go_sem] Oper.semAt_some

set_option maxRecDepth 100000 in
set_option maxHeartbeats 4000000 in
theorem read_any (n0 g : Nat) (s : ByteArray) (m : Int) (w0 W : World) (hE : FEnv w0 n0 m) (hs : s.size ≤ 20000) (h0 : St n0 g s w0 0 [] (.slice none 0 0) W) :
    Calls Tryd.prog 36 #[.pointer (some ⟨g, 0, none⟩)] W (ReadR n0 g s w0) := by
  obtain ⟨i0, hi, hz0, hz1, hz2⟩ := info_parts info31
  have hro : Fence.wide.round = none := rfl
  refine (callsIn_wide (n := 10)).1 ?_
  refine callsIn_of_wp_marks Tryd.func36 rfl trivial ?_ rfl
  simp only [Tryd.ntmps36, List.size_toArray, List.length_cons, List.length_nil, Nat.reduceAdd, Nat.reduceSub, Array.replicate_succ, Array.replicate_zero, List.push_toArray, List.append_toArray, List.nil_append, List.cons_append]
  gi_wp2_with fail
  obtain ⟨W1, hW1⟩ : ∃ W1 : World, W1 = W.alloc (.cells #[.pointer (some ⟨g, 0, none⟩)] 58) := ⟨_, rfl⟩
  obtain ⟨b1, hb1⟩ : ∃ b1 : Nat, b1 = W.heap.size := ⟨_, rfl⟩
  have h1 : St n0 g s w0 0 [] (.slice none 0 0) W1 := by rw [hW1]; exact h0.turn ((Below.refl _ _).alloc (Nat.le_refl _) _)
  have k1 : W1.heap[b1]? = some (.cells #[.pointer (some ⟨g, 0, none⟩)] 58 (0, 0)) := by rw [hW1, hb1]; exact heap_alloc_new _ _
  have cb := cell_of_row W1 b1 0 _ _ (0, 0) k1
  simp only [List.getElem?_toArray, List.getElem?_cons_zero] at cb
  rw [← hW1, ← hb1]
  clear hW1 hb1 h0
  refine ⟨trivial, (lines_in _ g W1).mono ?_⟩
  rintro e _ ⟨rfl, rfl⟩
  obtain ⟨W2, hW2⟩ : ∃ W2 : World, W2 = W1.alloc (.cells #[.pointer (some ⟨g, 0, none⟩)] 58) := ⟨_, rfl⟩
  obtain ⟨bx, hbx⟩ : ∃ bx : Nat, bx = W1.heap.size := ⟨_, rfl⟩
  have hbl : Below W1.heap.size W1 W2 := by rw [hW2]; exact (Below.refl _ _).alloc (Nat.le_refl _) _
  have h2 : St n0 g s w0 0 [] (.slice none 0 0) W2 := h1.turn hbl
  have kx : W2.heap[bx]? = some (.cells #[.pointer (some ⟨g, 0, none⟩)] 58 (0, 0)) := by rw [hW2, hbx]; exact heap_alloc_new _ _
  have k2 : W2.heap[b1]? = some (.cells #[.pointer (some ⟨g, 0, none⟩)] 58 (0, 0)) := (hbl.block b1 (Array.getElem?_eq_some_iff.1 k1).1).trans k1
  rw [← hW2, ← hbx]
  clear hW2 hbx h1 k1 cb hbl
  gi_wp2
  refine wpIn_range_call hro (by omega) (gf := 72) (lb := #[.pointer (some ⟨bx, 0, none⟩)]) rfl trivial (enters_of Tryd.func72 (by kernel_rfl) rfl) ?_
  intro fn W3 T ps ac bd hT hps has hbd hfn hl hD hb3
  obtain ⟨D, hDD⟩ : ∃ D : Nat, D = W2.heap.size := ⟨_, rfl⟩
  rw [← hDD] at hl hD
  rw [← hDD]
  have hW3 : St n0 g s w0 0 [] (.slice none 0 0) W3 := h2.turn hb3
  have kx3 := (hb3.block bx (Array.getElem?_eq_some_iff.1 kx).1).trans kx
  have kb3 := (hb3.block b1 (Array.getElem?_eq_some_iff.1 k2).1).trans k2
  have hn0 : n0 ≤ D := by rw [hDD]; exact h2.size
  have HN := hide hn0
  have HHN := hide hfn
  clear h2 kx k2 hb3 hDD hn0 hfn
  have HT := hide hT
  have HPS := hide hps
  have HAS := hide has
  have HBD := hide hbd
  clear hT hps has hbd
  obtain ⟨Hk, hHk⟩ : ∃ Hk : World → Prop, Hk = fun W => W.heap[D + 1]? = some (.loop (lrec fn T ps ac bd D .ready none)) ∧ W.heap[D]? = some (.deferred (some [])) ∧ W.heap[b1]? = some (.cells #[.pointer (some ⟨g, 0, none⟩)] 58 (0, 0)) := ⟨_, rfl⟩
  obtain ⟨Hs, hHs⟩ : ∃ Hs : Nat → Int → World → Prop, Hs = fun line k W => Stop n0 g s w0 line k W ∧ W.heap[D + 1]? = some (.loop (lrec fn T ps ac bd D .done (some .ret))) ∧ W.heap[D]? = some (.deferred (some [])) := ⟨_, rfl⟩
  have hkk : ∀ A B, Hk A → KeepsOthers A B → KeepT A B → Hk B := fun A B h ho ht => by
    rw [hHk] at h ⊢
    exact ⟨ho.same _ _ h.1 rfl, ho.same _ _ h.2.1 rfl, ht.2 _ _ _ _ h.2.2 (by decide) (by decide)⟩
  have HHK := hide hHk
  have HHS := hide hHs
  have hk3 : Hk W3 := by rw [hHk]; exact ⟨hl, hD, kb3⟩
  clear hHk hHs hl hD kb3
  refine (lines1_in 9 (by omega) n0 g bx (D + 1) s m w0 W3 hE hs Hk Hs hkk ?err ?rec kx3 hW3 hk3).mono ?done
  case err =>
    intro line X vo k W1 hk0 hst hkW
    rw [HHK.out] at hkW
    obtain ⟨hl, hD, hb⟩ := hkW
    refine yield_at HHN.out hl (by rw [HPS.out]; rfl) ?_
    rw [HAS.out, HBD.out, HT.out, HPS.out]
    dsimp only [errW]
    gi_wp2_with fail
    refine ⟨_, begin_at hl, ?_⟩
    obtain ⟨Wb, hWb⟩ : ∃ Wb : World, Wb = W1.putObj (D + 1) (.loop (lrec fn T ps ac bd D .busy none)) := ⟨_, rfl⟩
    have hgb : W1.grownBy Wb (some (D + 1)) := by rw [hWb]; exact grownBy_putObj' _ _ _
    have hlb : Wb.heap[D + 1]? = some (.loop (lrec fn T ps ac bd D .busy none)) := by rw [hWb]; exact World.putObj_heap_same (Array.getElem?_eq_some_iff.1 hl).1
    have hDb : Wb.heap[D]? = some (.deferred (some [])) := (hgb.block D (Array.getElem?_eq_some_iff.1 hD).1 (by simp)).trans hD
    have hb1n : b1 ≠ D + 1 := fun e => by rw [e, hl] at hb; cases hb
    have hbb : Wb.heap[b1]? = some (.cells #[.pointer (some ⟨g, 0, none⟩)] 58 (0, 0)) := (hgb.block b1 (Array.getElem?_eq_some_iff.1 hb).1 (by simpa using hb1n)).trans hb
    have hstb := hst.put hgb hl (fun cs t fr => by simp) (Nat.le_succ_of_le HN.out)
    have cb := cell_of_row Wb b1 0 _ _ (0, 0) hbb
    have c0 := hstb.blk.cell 0
    have c1 := hstb.blk.cell 1
    have c2 := hstb.blk.cell 2
    have c3 := hstb.blk.cell 3
    have f2 := hstb.blk.frozen 2
    have f3 := hstb.blk.frozen 3
    have lg := hstb.blk.lt
    simp only [List.getElem?_toArray, List.getElem?_cons_zero, List.getElem?_cons_succ] at cb c0 c1 c2 c3
    rw [← hWb]
    clear hWb hl hD hb hst hkk hW3 hk3 kx3 hb1n hgb
    have HST := hide hstb
    have HK0 := hide hk0
    clear hstb hk0
    gi_wp2_with fail
    obtain ⟨Wd, h1, h2, h3, h4⟩ := stop_end (P := Tryd.prog) HST.out hlb hDb HN.out HK0.out
    refine ⟨_, Wd, h1, rfl, ?_⟩
    rw [HHS.out]
    exact ⟨h2, h3, h4⟩
  case rec =>
    intro line X vo a b fs gx A c W1 hln hxl hst hkW kgx hfx hgx hown
    rw [HHK.out] at hkW
    obtain ⟨hl, hD, hb⟩ := hkW
    refine yield_at HHN.out hl (by rw [HPS.out]; rfl) ?_
    rw [HAS.out, HBD.out, HT.out, HPS.out]
    gi_wp2_with fail
    refine ⟨_, begin_at hl, ?_⟩
    obtain ⟨Wb, hWb⟩ : ∃ Wb : World, Wb = W1.putObj (D + 1) (.loop (lrec fn T ps ac bd D .busy none)) := ⟨_, rfl⟩
    have hgb : W1.grownBy Wb (some (D + 1)) := by rw [hWb]; exact grownBy_putObj' _ _ _
    have hlb : Wb.heap[D + 1]? = some (.loop (lrec fn T ps ac bd D .busy none)) := by rw [hWb]; exact World.putObj_heap_same (Array.getElem?_eq_some_iff.1 hl).1
    have hDb : Wb.heap[D]? = some (.deferred (some [])) := (hgb.block D (Array.getElem?_eq_some_iff.1 hD).1 (by simp)).trans hD
    have hb1n : b1 ≠ D + 1 := fun e => by rw [e, hl] at hb; cases hb
    have hbb : Wb.heap[b1]? = some (.cells #[.pointer (some ⟨g, 0, none⟩)] 58 (0, 0)) := (hgb.block b1 (Array.getElem?_eq_some_iff.1 hb).1 (by simpa using hb1n)).trans hb
    have hstb := hst.put hgb hl (fun cs t fr => by simp) (Nat.le_succ_of_le HN.out)
    have cb := cell_of_row Wb b1 0 _ _ (0, 0) hbb
    have c0 := hstb.blk.cell 0
    have c1 := hstb.blk.cell 1
    have c2 := hstb.blk.cell 2
    have c3 := hstb.blk.cell 3
    have f2 := hstb.blk.frozen 2
    have f3 := hstb.blk.frozen 3
    have lg := hstb.blk.lt
    simp only [List.getElem?_toArray, List.getElem?_cons_zero, List.getElem?_cons_succ] at cb c0 c1 c2 c3
    rw [← hWb]
    have hgn : gx ≠ D + 1 := fun e => by have := kgx; unfold Blk at this; rw [e, hl] at this; cases this
    have kgb := kgx.grown hgb (by simpa using hgn)
    have e0 := kgb.cell 0
    have e1 := kgb.cell 1
    have e2 := kgb.cell 2
    have e3 := kgb.cell 3
    have ef := kgb.frozen 0
    have el := kgb.lt
    simp only [List.getElem?_toArray, List.getElem?_cons_zero, List.getElem?_cons_succ] at e0 e1 e2 e3
    obtain ⟨A', c', hvo, hcc, hrd⟩ := own_rds hstb.row (Nat.le_refl _) (by omega)
    have HST := hide hstb
    have HKG := hide kgb
    have HFX := hide (show FldX Wb n0 ⟨line, a, b, fs, A, c⟩ from ⟨hfx.1.keep fun b' cs hh => (hgb.block b' (Array.getElem?_eq_some_iff.1 hh).1 (fun e => by injection e with e; subst e; rw [hl] at hh; cases hh)).trans hh, hfx.2⟩)
    have HKT := hide (KeepT.put hgb hl (fun cs t fr => by simp))
    clear hWb hD hb hst hkk hW3 hk3 kx3 hb1n hgb hstb kgb kgx hfx hgn hl
    by_cases h300 : X.length = 300
    · have hx3 : ((X.length : Int) == 300) = true := by rw [h300]; rfl
      have HX3 := hide h300
      rw [hvo] at c2
      clear h300
      have HEW : Hid (Value.iface 77 (.agg #[.int .i64 24]) = errW 24) := rfl
      gi_wp2_with fail
      obtain ⟨Wd, h1, h2, h3, h4⟩ := stop_end (P := Tryd.prog) HST.out hlb hDb HN.out (show (24 : Int) ≠ 0 by decide)
      refine ⟨_, Wd, h1, .inl ⟨HX3.out, rfl, ?_⟩⟩
      rw [HHS.out]
      exact ⟨h2, h3, h4⟩
    · have hx3 : ((X.length : Int) == 300) = false := by rw [beq_eq_false_iff_ne]; omega
      have HX3 := hide h300
      rw [hvo] at c2
      clear h300
      have hgg : g ≠ gx := fun e => by
        have h1 := HST.out.blk
        have h2 := HKG.out
        unfold Blk at h1 h2
        rw [e, h2] at h1
        injection h1 with h1
        injection h1 with _ h1
        exact absurd h1 (by decide)
      have hbg : b1 ≠ gx := fun e => by
        have h2 := HKG.out
        unfold Blk at h2
        rw [e, h2] at hbb
        injection hbb with h1
        injection h1 with _ h1
        exact absurd h1 (by decide)
      have HBB := hide hbb
      have HLB := hide hlb
      have HDB := hide hDb
      clear hbb hlb hDb
      gi_upto_region 9 with fail
      obtain ⟨Wc, hWc⟩ : ∃ Wc : World, Wc = Wb.setCell ⟨gx, 0, none⟩ (.int .i64 (line : Int)) := ⟨_, rfl⟩
      have hgs : Wb.grownBy Wc (some gx) := by rw [hWc]; exact grownBy_setCell Wb gx 0 _
      have x0 : Wc.cell? ⟨gx, 0, none⟩ = some (.int .i64 (line : Int)) := by
        rw [hWc]
        have := (HKG.out.set_ 0 (.int .i64 (line : Int))).cell 0
        simpa using this
      have x1 : Wc.cell? ⟨gx, 1, none⟩ = some (.int .i64 (a : Int)) := by
        rw [hWc]
        have := (HKG.out.set_ 0 (.int .i64 (line : Int))).cell 1
        simpa using this
      have x2 : Wc.cell? ⟨gx, 2, none⟩ = some (.int .i64 (b : Int)) := by
        rw [hWc]
        have := (HKG.out.set_ 0 (.int .i64 (line : Int))).cell 2
        simpa using this
      have x3 : Wc.cell? ⟨gx, 3, none⟩ = some (.slice A fs.length c) := by
        rw [hWc]
        have := (HKG.out.set_ 0 (.int .i64 (line : Int))).cell 3
        simpa using this
      have xb : Wc.cell? ⟨b1, 0, none⟩ = some (.pointer (some ⟨g, 0, none⟩)) := hgs.cell cb (by simpa using hbg)
      have xg : Wc.cell? ⟨g, 2, none⟩ = some (.slice A' X.length c') := hgs.cell c2 (by simpa using hgg)
      have kgc : Blk Wc g 62 #[.string s, .int .i64 (line : Int), .slice A' X.length c', .nilIface] := by
        have := HST.out.blk
        rw [hvo] at this
        exact this.grown hgs (by simpa using hgg)
      have HROWc := hide (show Wc.ownsRow n0 31 4 (.slice A' X.length c') X.length (recCells X) by
        have h1 := HST.out.row
        rw [hvo] at h1
        refine h1.kept hgs ?_
        cases hv : (Value.slice A' X.length c').ownBlock with
        | none => exact .inl rfl
        | some k => exact .inr (fun e => by have := hown k (by rw [hvo]; exact hv); injection e with e; omega))
      have hszc : n0 ≤ Wc.heap.size := Nat.le_trans HST.out.size hgs.size
      have HWC := hide hWc
      rw [← hWc]
      clear hWc hgs c0 c1 c2 c3 cb f2 f3 lg e0 e1 e2 e3 ef el
      have HGX := hide hgx
      have HOWN := hide hown
      have HVO := hide hvo
      clear hgx hown hvo
      refine wpIn_round_headsT (fun w' => w'.cell? ⟨b1, 0, none⟩ = some (.pointer (some ⟨g, 0, none⟩)) ∧ w'.cell? ⟨g, 2, none⟩ = some (.slice A' X.length c') ∧ w'.cell? ⟨gx, 0, none⟩ = some (.int .i64 (line : Int)) ∧ w'.cell? ⟨gx, 1, none⟩ = some (.int .i64 (a : Int)) ∧ w'.cell? ⟨gx, 2, none⟩ = some (.int .i64 (b : Int)) ∧ w'.cell? ⟨gx, 3, none⟩ = some (.slice A fs.length c)) 8 2 (by kernel_rfl) (by kernel_rfl) (by kernel_rfl) (by rintro ⟨aa, ww, hh⟩; exact hh) (fun _ _ d _ _ h => by cases d <;> exact h) ⟨xb, xg, x0, x1, x2, x3⟩ ?_
      simp only [List.take_succ_cons, List.take_zero, List.drop_succ_cons, List.drop_zero]
      refine heads_step (v := .pointer (some ⟨g, 0, none⟩)) rfl (fun W' hS' => by obtain ⟨f1, f2, f3, f4, f5, f6⟩ := hS'; go_simp) ?_
      go_frame
      refine heads_step (v := .pointer (some ⟨g, 0, none⟩)) rfl (fun W' hS' => by obtain ⟨f1, f2, f3, f4, f5, f6⟩ := hS'; go_simp) ?_
      go_frame
      refine heads_step (v := .pointer (some ⟨g, 0, none⟩)) rfl (fun W' hS' => by go_simp) ?_
      go_frame
      refine heads_step (v := .pointer (some ⟨g, 2, none⟩)) rfl (fun W' hS' => by go_simp) ?_
      go_frame
      refine heads_step (v := .slice A' X.length c') rfl (fun W' hS' => by obtain ⟨f1, f2, f3, f4, f5, f6⟩ := hS'; go_simp) ?_
      go_frame
      refine heads_step (v := .pointer (some ⟨gx, 0, none⟩)) rfl (fun W' hS' => by go_simp) ?_
      go_frame
      refine heads_step (v := .pointer (some ⟨gx, 0, none⟩)) rfl (fun W' hS' => by go_simp) ?_
      go_frame
      refine heads_step (v := .agg #[.int .i64 (line : Int), .int .i64 (a : Int), .int .i64 (b : Int), .slice A fs.length c]) rfl (fun W' hS' => by obtain ⟨f1, f2, f3, f4, f5, f6⟩ := hS'; go_simp) ?_
      go_frame
      refine heads_nil ?_
      refine mid_step rfl (fun K hK1 => ?_)
      go_simp
      have ca : ∀ {p : Addr} {v : Value}, Wc.cell? p = some v → (Wc.drew.alloc (.cells #[.int .i64 (line : Int), .int .i64 (a : Int), .int .i64 (b : Int), .slice A fs.length c] 31)).cell? p = some v := fun {p v} h => (World.cell?_alloc_lt Wc.drew _ _ (World.block_lt_of_cell? Wc _ h)).trans h
      refine hK1 _ _ ⟨⟨ca xb, ca xg, ca x0, ca x1, ca x2, ca x3⟩, ?_⟩
      obtain ⟨ob, hob⟩ : ∃ ob : Obj, ob = .cells #[.int .i64 (line : Int), .int .i64 (a : Int), .int .i64 (b : Int), .slice A fs.length c] 31 := ⟨_, rfl⟩
      have ca2 : ∀ {p : Addr} {v : Value}, Wc.cell? p = some v → (Wc.drew.alloc ob).cell? p = some v := by rw [hob]; exact ca
      have CN : Hid (∀ j u, [Value.int .i64 (line : Int), .int .i64 (a : Int), .int .i64 (b : Int), .slice A fs.length c][j]? = some u → (Wc.drew.alloc ob).cell? ((⟨Wc.drew.heap.size, 0, none⟩ : Addr).add j) = some u) := hide (by rw [hob]; exact World.news_of_block (cs := #[.int .i64 (line : Int), .int .i64 (a : Int), .int .i64 (b : Int), .slice A fs.length c]) (t := 31) (fr := (0, 0)) (heap_alloc_new Wc.drew _))
      have hbe : Below Wc.heap.size Wc (Wc.drew.alloc ob) := (show Below Wc.heap.size Wc Wc.drew from ⟨rfl, rfl, rfl, Nat.le_refl _, fun _ _ => rfl⟩).alloc (Nat.le_refl _) _
      have HROWe := hide (own_below HROWc.out hbe)
      have kge := kgc.below hbe kgc.lt
      have hsze : n0 ≤ (Wc.drew.alloc ob).heap.size := Nat.le_trans hszc hbe.size
      have hdz : Wc.drew.heap.size = Wc.heap.size := rfl
      rw [hdz] at CN
      have HHOB := hide hob
      rw [← hob]
      have hne := own_ne HROWe.out kge (by decide)
      have hngx : some gx ≠ (Value.slice A' X.length c').ownBlock := fun e => by
        have := HOWN.out gx (by rw [HVO.out]; exact e.symm)
        omega
      have hbc : Blk (Wc.drew.alloc ob) b1 58 #[.pointer (some ⟨g, 0, none⟩)] := by
        have h1 : Wc.heap[b1]? = some (.cells #[.pointer (some ⟨g, 0, none⟩)] 58 (0, 0)) := by
          rw [HWC.out]
          exact (Below.heap_setCell _ _ _ _ hbg).trans HBB.out
        exact (hbe.block b1 (Array.getElem?_eq_some_iff.1 h1).1).trans h1
      have hnb := own_ne HROWe.out hbc (by decide)
      refine mid_step rfl (fun K2 hK2 => ?_)
      refine wp_append_own _ (.tmp 38) (.tmp 42) 35 rfl n0 31 i0 (.agg #[.int .i64 0, .int .i64 0, .int .i64 0, .slice none 0 0]) 4 48 Tryd.underlying35 hi hz0 hz1 hz2 rfl (by decide) (.slice A' X.length c') X.length (recCells X) rfl HROWe.out ⟨Wc.heap.size, 0, none⟩ 1 1 [.int .i64 (line : Int), .int .i64 (a : Int), .int .i64 (b : Int), .slice A fs.length c] rfl rfl CN.out (by simp [Value.oneCell']) (by unfold maxLen; omega) (by omega) hsze ?_
      intro v' w9 hown9 hgrow9 _
      obtain ⟨g', cap', rfl⟩ := own_some hown9 (by omega)
      have HO := hide hown9
      have HG := hide hgrow9
      have k9 := kge.grown hgrow9 hne
      have e0 := k9.cell 2
      have ef := k9.frozen 2
      have el := k9.lt
      simp only [List.getElem?_toArray, List.getElem?_cons_zero, List.getElem?_cons_succ] at e0
      refine hK2 _ _ ⟨⟨hgrow9.cell (ca2 xb) hnb, e0, hgrow9.cell (ca2 x0) hngx, hgrow9.cell (ca2 x1) hngx, hgrow9.cell (ca2 x2) hngx, hgrow9.cell (ca2 x3) hngx⟩, ?_⟩
      refine mid_nil ?_
      have HEQ : Hid ((Wb.setCell ⟨gx, 0, none⟩ (.int .i64 (line : Int))).drew.alloc ob = Wc.drew.alloc ob) := by rw [HWC.out]; rfl
      clear hown9 hgrow9 ca ca2 xb x0 x1 x2 x3 xg hbc hnb hngx hne kge hsze
      go_wp2_with fail
      obtain ⟨Wd, q1, q2, q3, q4⟩ := rec_end (P := Tryd.prog) (ob := ob) HST.out HKG.out HGX.out HOWN.out HFX.out HLB.out HDB.out HBB.out HN.out HO.out (by rw [HEQ.out, HVO.out]; exact HG.out)
      refine ⟨_, Wd, q1, .inr ⟨HX3.out, rfl, ?_, HKT.out.trans q3, _, q4⟩⟩
      rw [HHK.out]
      exact q2
  case done =>
    rintro e W' ⟨⟨v, rfl⟩, h⟩
    rcases h with ⟨X, vo, line, hk, hst, hrl⟩ | ⟨k, line, hs', hrl⟩
    · rw [HHK.out] at hk
      obtain ⟨hl, hD, hb⟩ := hk
      refine ⟨none, _, run_endLoop hl (by simp [lrec]), ?_⟩
      have hgp := grownBy_putObj' W' (D + 1) (.loop { lrec fn T ps ac bd D .ready none with state := .exhausted })
      have hst2 := hst.put hgp hl (fun cs t fr => by simp) (Nat.le_succ_of_le HN.out)
      have hD2 := (hgp.block D (Array.getElem?_eq_some_iff.1 hD).1 (by simp)).trans hD
      generalize W'.putObj (D + 1) (.loop { lrec fn T ps ac bd D .ready none with state := .exhausted }) = Wx at *
      dsimp only
      clear hkk hW3 hk3 kx3 hl hb hst hgp
      gi_wp2
      refine ⟨by simp, .inl ⟨_, _, rfl, run_takeDeferred hD2, ?_⟩⟩
      refine ⟨.tuple #[], by simp [results, Tryd.results36, go_sem], rfl, ?_⟩
      exact .inl ⟨X, vo, line, hst2.put (grownBy_putObj' Wx D (.deferred none)) hD2 (fun cs t fr => by simp) HN.out, hrl⟩
    · rw [HHS.out] at hs'
      obtain ⟨hst, hl, hD⟩ := hs'
      refine ⟨some .ret, _, run_endLoop hl (by simp [lrec]), ?_⟩
      have hgp := grownBy_putObj' W' (D + 1) (.loop { lrec fn T ps ac bd D .done (some .ret) with state := .exhausted })
      have hst2 := hst.put hgp hl (fun cs t fr => by simp) (Nat.le_succ_of_le HN.out)
      have hD2 := (hgp.block D (Array.getElem?_eq_some_iff.1 hD).1 (by simp)).trans hD
      generalize W'.putObj (D + 1) (.loop { lrec fn T ps ac bd D .done (some .ret) with state := .exhausted }) = Wx at *
      dsimp only
      clear hkk hW3 hk3 kx3 hl hst hgp
      gi_wp2
      refine ⟨by simp, .inl ⟨_, _, rfl, run_takeDeferred hD2, ?_⟩⟩
      refine ⟨.tuple #[], by simp [results, Tryd.results36, go_sem], rfl, ?_⟩
      exact .inr ⟨k, line, hst2.put (grownBy_putObj' Wx D (.deferred none)) hD2 (fun cs t fr => by simp) HN.out, hrl⟩
end Go.Proofs.YtdmkjchmcgjjmaaDoor
