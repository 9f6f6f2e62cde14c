/- The reference's put: a row more in a trie by value; its memory. Conditions: the trie's two slices are the caller's own; the row reads as a list. -/
import Derived.Test.YtibndkkbmgbogaaDoorProg
import Derived.Test.YtibndkkbmgbogaaDoorBase
import Derived.Test.YtibndkkbmgbogaaDoorEq
import Derived.Test.YtibndkkbmgbogaaDoorClone
import Derived.Test.YtibndkkbmgbogaaDoorRegion
import Derived.Test.YtibndkkbmgbogaaDoorAdd
import Derived.Test.YtibndkkbmgbogaaDoorBuild
import Derived.BigQuiet
import Derived.Deep.QuietTactic
import Derived.Deep.AppendLies
import Derived.OwnWalk
import Derived.Outline
namespace Go.Proofs.YtibndkkbmgbogaaDoor
open Go Go.RowKit

/-- A trie's two slices are one's own from block n0 on. -/
structure Ow (w : World) (n0 : Nat) (vi vb : Value) (T : Tr) : Prop where
  ix : w.ownsRow n0 3 1 vi T.ix.length (intCells T.ix)
  bl : ∃ ss : List (Option Addr × Nat × Nat), w.ownsRow n0 24 1 vb T.bl.length (ss.map sv) ∧ ss.length = T.bl.length ∧
    ∀ i (h : i < ss.length) (h' : i < T.bl.length), ∃ b c : Nat, ss[i] = (some ⟨b, 0, none⟩, T.bl[i].length, c) ∧ vi.ownBlock ≠ some b ∧ w.ownsRow n0 3 1 (.slice (some ⟨b, 0, none⟩) T.bl[i].length c) T.bl[i].length (intCells T.bl[i])
  len : ∀ b ∈ T.bl, b.length = 256

theorem own_types {w : World} {n0 e1 e2 s1 s2 n1 n2 : Nat} {v1 v2 : Value} {x1 x2 : List Value} (h1 : w.ownsRow n0 e1 s1 v1 n1 x1) (h2 : w.ownsRow n0 e2 s2 v2 n2 x2) (hne : e1 ≠ e2) : v1.ownBlock = none ∨ v1.ownBlock ≠ v2.ownBlock := by
  cases hv : v1.ownBlock with
  | none => exact .inl rfl
  | some k =>
    right
    rcases h1.2 with ⟨rfl, _⟩ | ⟨g', cap, cur, rfl, _, hh, _⟩
    · simp [Value.ownBlock] at hv
    · have hgg : g' = k := by simpa [Value.ownBlock] using hv
      subst hgg
      exact own_ne h2 (show Blk w g' e1 cur from hh) (fun e => hne e.symm)
theorem Ow.turn {w w' : World} {row : Option Nat} {n0 : Nat} {vi vb : Value} {T : Tr} (h : Ow w n0 vi vb T) (hg : w.grownBy w' row) (hr : ∀ g, row = some g → ∃ t cs, Blk w g t cs ∧ t ≠ 3 ∧ t ≠ 24) : Ow w' n0 vi vb T := by
  have hint : ∀ {e s v n xs}, w.ownsRow n0 e s v n xs → (e = 3 ∨ e = 24) → v.ownBlock = none ∨ v.ownBlock ≠ row := fun {e s v n xs} ho he => by
    cases row with
    | none => cases v.ownBlock <;> simp
    | some g =>
      right
      obtain ⟨t, cs, hb, h1, h2⟩ := hr g rfl
      exact fun e' => own_ne ho hb (fun e'' => by rcases he with he | he <;> rw [he] at e'' <;> first | exact h1 e''.symm | exact h2 e''.symm) e'.symm
  obtain ⟨ss, b1, b2, b3⟩ := h.bl
  refine ⟨h.ix.kept hg (hint h.ix (.inl rfl)), ⟨ss, b1.kept hg (hint b1 (.inr rfl)), b2, fun i hi hi' => ?_⟩, h.len⟩
  obtain ⟨b, c, e1, e2, e3⟩ := b3 i hi hi'
  exact ⟨b, c, e1, e2, e3.kept hg (hint e3 (.inl rfl))⟩
theorem Ow.grow {w w' : World} {n0 : Nat} {vi vb : Value} {T : Tr} (h : Ow w n0 vi vb T) (hg : w.grownBy w' none) : Ow w' n0 vi vb T := h.turn hg (fun g e => by cases e)
theorem Ow.nil (w : World) (n0 : Nat) : Ow w n0 (.slice none 0 0) (.slice none 0 0) ⟨[], []⟩ :=
  ⟨World.ownsRow_nil _ _ _ _, ⟨[], World.ownsRow_nil _ _ _ _, rfl, fun i h => by cases h⟩, fun b hb => by cases hb⟩

/-- a number is put behind the index -/
theorem Ow.push_ix {W w1 : World} {n0 : Nat} {vi vb v' : Value} {T : Tr} (h : Ow W n0 vi vb T) (X : Obj) (i : Int)
    (hown : w1.ownsRow n0 3 1 v' (T.ix.length + 1) (intCells T.ix ++ [.int .i64 i])) (hg : (W.alloc X).grownBy w1 vi.ownBlock) (hblk : ∀ b, v'.ownBlock = some b → vi.ownBlock = some b ∨ b = (W.alloc X).heap.size) :
    Ow w1 n0 v' vb ⟨T.ix ++ [i], T.bl⟩ := by
  have ha := h.grow (World.grownBy_alloc W X none)
  obtain ⟨ss, b1, b2, b3⟩ := ha.bl
  refine ⟨by simpa [intCells] using hown, ⟨ss, b1.kept hg (own_types b1 ha.ix (by decide)), b2, fun j hj hj' => ?_⟩, h.len⟩
  obtain ⟨b, c, e1, e2, e3⟩ := b3 j hj hj'
  refine ⟨b, c, e1, fun e => ?_, e3.kept hg (.inr (fun e => e2 e.symm))⟩
  rcases hblk b e with e' | e'
  · exact e2 e'
  · have := (e3.lt b rfl).2
    omega
/-- a row is put behind the blocks -/
theorem Ow.push_bl {W w1 : World} {n0 gc cc : Nat} {vi vb v' : Value} {T : Tr} (h : Ow W n0 vi vb T) (X : Obj) (x : List Int) (hx : x.length = 256)
    (ss : List (Option Addr × Nat × Nat)) (h2 : ss.length = T.bl.length)
    (h3 : ∀ i (h : i < ss.length) (h' : i < T.bl.length), ∃ b c : Nat, ss[i] = (some ⟨b, 0, none⟩, T.bl[i].length, c) ∧ vi.ownBlock ≠ some b ∧ W.ownsRow n0 3 1 (.slice (some ⟨b, 0, none⟩) T.bl[i].length c) T.bl[i].length (intCells T.bl[i]))
    (hb : W.ownsRow n0 24 1 vb T.bl.length (ss.map sv))
    (hown : w1.ownsRow n0 24 1 v' (T.bl.length + 1) (ss.map sv ++ [.slice (some ⟨gc, 0, none⟩) 256 cc])) (hg : (W.alloc X).grownBy w1 vb.ownBlock)
    (hrow : W.ownsRow n0 3 1 (.slice (some ⟨gc, 0, none⟩) 256 cc) 256 (intCells x)) (hne : vi.ownBlock ≠ some gc) :
    Ow w1 n0 vi v' ⟨T.ix, T.bl ++ [x]⟩ := by
  have ha := h.grow (World.grownBy_alloc W X none)
  have hba := hb.alloc X
  refine ⟨ha.ix.kept hg (own_types ha.ix hba (by decide)), ⟨ss ++ [(some ⟨gc, 0, none⟩, 256, cc)], ?_, by simp [h2], fun j hj hj' => ?_⟩, ?_⟩
  · simpa [sv] using hown
  · by_cases hjl : j < ss.length
    · have hjl' : j < T.bl.length := by omega
      obtain ⟨b, c, e1, e2, e3⟩ := h3 j hjl hjl'
      refine ⟨b, c, ?_, e2, ?_⟩
      · rw [List.getElem_append_left hjl, e1]
        simp only [List.getElem_append_left hjl']
      · simpa only [List.getElem_append_left hjl'] using (e3.alloc X).kept hg (own_types (e3.alloc X) hba (by decide))
    · have hje : j = T.bl.length := by simp at hj'; omega
      subst hje
      refine ⟨gc, cc, ?_, hne, ?_⟩
      · rw [List.getElem_append_right (by omega)]
        simp [h2, hx]
      · have := (hrow.alloc X).kept hg (own_types (hrow.alloc X) hba (by decide))
        simpa [hx] using this
  · intro b hb'
    rcases List.mem_append.1 hb' with hb' | hb'
    · exact h.len b hb'
    · simp at hb'; rw [hb']; exact hx
theorem Ow.rows {w : World} {n0 : Nat} {vi vb : Value} {T : Tr} (h : Ow w n0 vi vb T) (h1 : T.ix.length ≤ 5000) (h2 : T.bl.length ≤ 5000) :
    ∃ A n c A' n' c', vi = .slice A n c ∧ vb = .slice A' n' c' ∧ n ≤ c ∧ n' ≤ c' ∧ TrAt w w.heap.size A n A' n' T := by
  obtain ⟨A, c, e1, e2, e3⟩ := own_rds h.ix (Nat.le_refl _) (by omega)
  obtain ⟨ss, o, hl, hs⟩ := h.bl
  obtain ⟨A', c', f1, f2, f3⟩ := own_rds o (Nat.le_refl _) (by omega)
  refine ⟨A, _, c, A', _, c', e1, f1, e2, f2, e3, ss, f3, hl, fun i hi hi' => ?_⟩
  obtain ⟨b, cc, g1, g2, g3⟩ := hs i hi hi'
  rw [g1]
  have hb := h.len _ (List.getElem_mem hi')
  obtain ⟨Ar, cr, q1, q2, q3⟩ := own_rds g3 (Nat.le_refl _) (by omega)
  injection q1 with q1 _ _
  subst q1
  exact q3

def NotIn (x : List Int) (l : List (List Int)) : Prop := x ∉ l
theorem NotIn.nil (x : List Int) : NotIn x [] := by simp [NotIn]
theorem NotIn.step {x : List Int} {l : List (List Int)} {k : Nat} (h : NotIn x (l.take k)) (hk : k < l.length) (hne : l[k] ≠ x) : NotIn x (l.take (k + 1)) := by
  unfold NotIn at *
  rw [List.take_succ_eq_append_getElem hk]
  simp only [List.mem_append, List.mem_singleton, not_or]
  exact ⟨h, fun e => hne e.symm⟩
theorem NotIn.found {x : List Int} {l : List (List Int)} {k : Nat} (h : NotIn x (l.take k)) (hk : k < l.length) (he : l[k] = x) : blkIn l x = true ∧ blkNo l x = k := by
  have : (l.findIdx? fun b => decide (x = b)) = some k := by
    rw [List.findIdx?_eq_some_iff_getElem]
    refine ⟨hk, by simp [he], fun j hj => ?_⟩
    simp only [decide_eq_true_eq]
    intro e
    refine h ?_
    rw [e, List.mem_take_iff_getElem]
    exact ⟨j, by omega, rfl⟩
  unfold blkIn blkNo
  rw [this]
  exact ⟨rfl, rfl⟩
theorem NotIn.none {x : List Int} {l : List (List Int)} (h : NotIn x (l.take l.length)) : blkIn l x = false := by
  unfold blkIn
  rw [Option.isSome_eq_false_iff, Option.isNone_iff_eq_none, List.findIdx?_eq_none_iff]
  intro b hb
  rw [List.take_length] at h
  simp only [decide_eq_false_iff_not]
  intro e
  exact h (e ▸ hb)

theorem Ow.store {w : World} {n0 g : Nat} {vi vb : Value} {T : Tr} {cs : Array Value} (h : Ow w n0 vi vb T) (k : Blk w g 27 cs) (i : Nat) (v : Value) : Ow (w.setCell ⟨g, i, none⟩ v) n0 vi vb T :=
  h.turn (grownBy_setCell w g i v) (fun g' e => by cases e; exact ⟨_, _, k, by decide, by decide⟩)
theorem Rds.grown_ {w w' : World} {row : Option Nat} {B size b o n : Nat} {xs : List Value} (h : Rds w B size (some ⟨b, o, none⟩) n xs) (hg : w.grownBy w' row) (hB : B ≤ w.heap.size) (hr : row ≠ some b) : Rds w' w'.heap.size size (some ⟨b, o, none⟩) n xs :=
  ⟨h.1, h.2.1, fun hn => by
    obtain ⟨b', o', e, hb, hc⟩ := h.2.2 hn
    injection e with e
    injection e with e1 e2
    subst e1 e2
    have hlt : b < w.heap.size := Nat.lt_of_lt_of_le hb hB
    exact ⟨b, o, rfl, Nat.lt_of_lt_of_le hlt hg.size, fun j u hu => (World.cell?_of_block (a := ⟨b, o + j, none⟩) (hg.block b hlt (fun e => hr e.symm))).trans (hc j u hu)⟩⟩

def Putd (w : World) (n0 : Nat) (T : Tr) (e : Ending) (w' : World) : Prop := ∃ vi vb, e = .returned (.agg #[vi, vb]) ∧ Ow w' n0 vi vb T ∧ Below n0 w w'

set_option maxRecDepth 100000 in
set_option maxHeartbeats 2000000 in
theorem put_slice (n0 : Nat) (vi : Value) (Ab : Option Addr) (cb : Nat) (T : Tr) (x : List Int) (xb xo c : Nat) (w : World) (h : Ow w n0 vi (.slice Ab T.bl.length cb) T) (hn : n0 ≤ w.heap.size) (hx : x.length = 256)
    (hr : Rds w w.heap.size 1 (some ⟨xb, xo, none⟩) 256 (intCells x)) (hxi : vi.ownBlock ≠ some xb) (hl1 : T.ix.length ≤ 5000) (hl2 : T.bl.length ≤ 5000) :
    Calls Tryd.prog 52 #[.agg #[vi, .slice Ab T.bl.length cb], .slice (some ⟨xb, xo, none⟩) 256 c] w (Putd w n0 (T.add x)) := by
  obtain ⟨i0, hi, hz0, hz1, hz2⟩ := info_parts info3
  obtain ⟨i1, hi', hz0', hz1', hz2'⟩ := info_parts info24
  obtain ⟨W1, hW1⟩ : ∃ W1 : World, W1 = (w.alloc (.cells #[vi, .slice Ab T.bl.length cb] 27)).alloc (.cells #[.slice none 0 0, .slice none 0 0] 27) := ⟨_, rfl⟩
  have hb1 : Below w.heap.size w W1 := by rw [hW1]; exact ((Below.refl _ _).alloc (Nat.le_refl _) _).alloc (by simp) _
  have hg1 : w.grownBy W1 none := grown_of_below hb1 none
  have h1 := h.grow hg1
  have kB : Blk W1 w.heap.size 27 #[vi, .slice Ab T.bl.length cb] := by rw [hW1]; exact (Blk.new _ _ _).alloc _
  have kR : Blk W1 (w.heap.size + 1) 27 #[.slice none 0 0, .slice none 0 0] := by
    rw [hW1]
    have := Blk.new (w.alloc (.cells #[vi, .slice Ab T.bl.length cb] 27)) 27 #[.slice none 0 0, .slice none 0 0]
    rwa [World.size_alloc] at this
  have hs1 : w.heap.size + 1 < W1.heap.size := by rw [hW1]; simp
  have hr1 := (hr.below hb1).more hb1.size
  obtain ⟨ss, o1, hl, hs⟩ := h1.bl
  have hbl : Rows W1 W1.heap.size Ab T.bl.length T.bl := by
    obtain ⟨A', c', f1, f2, f3⟩ := own_rds o1 (Nat.le_refl _) (by omega)
    injection f1 with f1 _ _
    subst f1
    refine ⟨ss, f3, hl, fun i hi hi' => ?_⟩
    obtain ⟨b, cc, g1, g2, g3⟩ := hs i hi hi'
    rw [g1]
    have hb := h1.len _ (List.getElem_mem hi')
    obtain ⟨Ar, cr, q1, q2, q3⟩ := own_rds g3 (Nat.le_refl _) (by omega)
    injection q1 with q1 _ _
    subst q1
    exact q3
  have HS := hide hs
  have HH := hide h1
  have b0 := kB.cell 0
  have b1 := kB.cell 1
  simp only [List.getElem?_toArray, List.getElem?_cons_zero, List.getElem?_cons_succ] at b0 b1
  have bf0 := kB.frozen 0
  have bf1 := kB.frozen 1
  have hxl : xb < w.heap.size := by
    obtain ⟨b', o', e, hbb, _⟩ := hr.2.2 (by omega)
    injection e with e
    injection e with e _
    rw [e]
    exact hbb
  have hHX := hide hx
  clear hs h1 hx
  go_enter Tryd.func52, Tryd.ntmps52
  go_wp2_with fail
  rw [← hW1]
  clear hW1
  go_loopw [5] (fun i wr => ∃ (k : Nat), k ≤ T.bl.length ∧ i = .int .i64 k ∧ NotIn x (T.bl.take k) ∧ ∃ q, wr = W1.drewN q) (fun i _ => T.bl.length - (intOf i).toNat)
  case atStart => exact ⟨0, Nat.zero_le _, rfl, by rw [List.take_zero]; exact NotIn.nil x, 0, rfl⟩
  case round =>
    obtain ⟨k, hk, rfl, hg, q, rfl⟩ := hrel
    have HG := hide hg
    clear hg
    by_cases hlt : k < T.bl.length
    · obtain ⟨b, o, A2, n2, c2, rfl, hbl2, c0, hrow⟩ := hbl.row hlt
      by_cases hxy : T.bl[k] = x
      · have HF := hide (HG.out.found hlt hxy)
        have HDD := hide (decide_eq_true hxy)
        clear hxy
        go_wp2_with fail
        refine (ints_any A2 (some ⟨xb, xo, none⟩) n2 c2 256 c T.bl[k] x _ (hrow.drewN q) (hr1.drewN q)).mono ?_
        rintro e w2 ⟨rfl, q2, rfl⟩
        rw [HDD.out, World.drewN_drewN]
        obtain ⟨Wd, hWd⟩ : ∃ Wd : World, Wd = W1.drewN (q + q2) := ⟨_, rfl⟩
        have hgd : W1.grownBy Wd none := by rw [hWd]; exact ⟨rfl, rfl, rfl, Nat.le_refl _, fun _ _ _ => rfl⟩
        have hsd : w.heap.size + 1 < Wd.heap.size := by rw [hWd]; show _ < W1.heap.size; omega
        rw [← hWd]
        clear hWd
        have kBd := kB.grown hgd (by simp)
        have kRd := kR.grown hgd (by simp)
        have HHd := hide (HH.out.grow hgd)
        have hbd := hide (hb1.grown hgd (by omega) (fun k e => by cases e))
        have hgi := own_ne (HHd.out.ix.alloc (.cells #[.int .i64 (k : Int)] 3)) (kBd.alloc _) (by decide)
        have hgr := own_ne (HHd.out.ix.alloc (.cells #[.int .i64 (k : Int)] 3)) (kRd.alloc _) (by decide)
        have c0 := kBd.cell 0
        have c1 := kBd.cell 1
        simp only [List.getElem?_toArray, List.getElem?_cons_zero, List.getElem?_cons_succ] at c0 c1
        clear b0 b1 bf0 bf1
        go_wp2_with (at_builtin; go_must (refine wpList_append_lies _ rfl (.tmp 21) (.tmp 23) 24 rfl n0 3 i0 (.int .i64 0) 1 8 Tryd.underlying24 hi hz0 hz1 hz2 rfl (by decide) vi T.ix.length (intCells T.ix) rfl (HHd.out.ix.alloc _) ⟨Wd.heap.size, 0, none⟩ 1 1 [.int .i64 (k : Int)] rfl rfl (cell_one_new _ _ _) (by simp [Value.oneCell']) (by omega) (by unfold maxLen; omega) (by omega) (by simp; omega) _ rfl ?_); intro g' cap' w3 hown1 hgrow1 hblk1 hlt1; have k1 := (kBd.alloc (.cells #[.int .i64 (k : Int)] 3)).grown hgrow1 hgi; have k2 := (kRd.alloc (.cells #[.int .i64 (k : Int)] 3)).grown hgrow1 hgr; have HP := hide (HHd.out.push_ix (.cells #[.int .i64 (k : Int)] 3) (k : Int) hown1 hgrow1 (fun b e => by injection e with e; subst e; exact hblk1)); have hgn := hide hgrow1; have p0 := k1.cell 0; have p1 := k1.cell 1; have pf := k1.frozen 0; have r0 := k2.cell 0; have r1 := k2.cell 1; have rf0 := k2.frozen 0; have rf1 := k2.frozen 1; have pl := k1.lt; have rl := k2.lt; clear hown1 hgrow1 hblk1; simp only [List.getElem?_toArray, List.getElem?_cons_zero, List.getElem?_cons_succ] at p0 p1 r0 r1)
        have m1 := HP.out.store k1 0 (.slice (some ⟨g', 0, none⟩) (T.ix.length + 1) cap')
        have k2' := k2.far (p := ⟨w.heap.size, 0, none⟩) (show w.heap.size + 1 ≠ w.heap.size by omega) (.slice (some ⟨g', 0, none⟩) (T.ix.length + 1) cap')
        have m2 := m1.store k2' 0 (.slice (some ⟨g', 0, none⟩) (T.ix.length + 1) cap')
        have k3 := k2'.set_ 0 (.slice (some ⟨g', 0, none⟩) (T.ix.length + 1) cap')
        have m3 := m2.store k3 1 (.slice (some ⟨b, o, none⟩) T.bl.length cb)
        have k4 := k3.set_ 1 (.slice (some ⟨b, o, none⟩) T.bl.length cb)
        refine bodyPost_ret (results_cell_row rfl _ _ (w.heap.size + 1) 27 _ (0, 0) _ rfl k4 Tryd.underlying27 rfl (by kernel_rfl)) rfl ?_
        refine ⟨_, _, rfl, ?_, ?_⟩
        · unfold Tr.add
          rw [HF.out.1, HF.out.2]
          exact m3
        · exact (((((hbd.out.mono hn).alloc (by omega) _).grown hgn.out (by simp; omega) (fun k e => (HHd.out.ix.lt k e).1)).setCell (p := ⟨w.heap.size, 0, none⟩) hn _).setCell (p := ⟨w.heap.size + 1, 0, none⟩) (by show n0 ≤ w.heap.size + 1; omega) _).setCell (p := ⟨w.heap.size + 1, 1, none⟩) (by show n0 ≤ w.heap.size + 1; omega) _
      · have HF := hide (HG.out.step hlt hxy)
        have HDD := hide (decide_eq_false hxy)
        clear hxy
        go_wp2_with fail
        refine (ints_any A2 (some ⟨xb, xo, none⟩) n2 c2 256 c T.bl[k] x _ (hrow.drewN q) (hr1.drewN q)).mono ?_
        rintro e w2 ⟨rfl, q2, rfl⟩
        rw [HDD.out, World.drewN_drewN]
        go_wp2
        go_roundw
        case rel => exact ⟨k + 1, by omega, by go_num, HF.out, _, rfl⟩
        case measure => simp [intOf]; omega
    · obtain rfl : k = T.bl.length := by omega
      have HN := hide HG.out.none
      obtain ⟨Wd, hWd⟩ : ∃ Wd : World, Wd = W1.drewN q := ⟨_, rfl⟩
      have hgd : W1.grownBy Wd none := by rw [hWd]; exact ⟨rfl, rfl, rfl, Nat.le_refl _, fun _ _ _ => rfl⟩
      have hsd : w.heap.size + 1 < Wd.heap.size := by rw [hWd]; show _ < W1.heap.size; omega
      rw [← hWd]
      clear hWd
      have kBd := kB.grown hgd (by simp)
      have kRd := kR.grown hgd (by simp)
      have HHd := hide (HH.out.grow hgd)
      have hbd := hide (hb1.grown hgd (by omega) (fun k e => by cases e))
      have hgi := own_ne (HHd.out.ix.alloc (.cells #[.int .i64 (T.bl.length : Int)] 3)) (kBd.alloc _) (by decide)
      have hgr := own_ne (HHd.out.ix.alloc (.cells #[.int .i64 (T.bl.length : Int)] 3)) (kRd.alloc _) (by decide)
      have hrd := hr1.grown_ hgd (Nat.le_refl _) (by simp)
      have c0 := kBd.cell 0
      have c1 := kBd.cell 1
      have cf := kBd.frozen 0
      simp only [List.getElem?_toArray, List.getElem?_cons_zero, List.getElem?_cons_succ] at c0 c1
      clear b0 b1 bf0 bf1
      have hm63 : T.bl.length ≤ 9223372036854775807 := by omega
      go_wp2_with (at_builtin; go_must (refine wpList_append_lies _ rfl (.tmp 28) (.tmp 32) 24 rfl n0 3 i0 (.int .i64 0) 1 8 Tryd.underlying24 hi hz0 hz1 hz2 rfl (by decide) vi T.ix.length (intCells T.ix) rfl (HHd.out.ix.alloc _) ⟨Wd.heap.size, 0, none⟩ 1 1 [.int .i64 (T.bl.length : Int)] rfl rfl (cell_one_new _ _ _) (by simp [Value.oneCell']) (by omega) (by unfold maxLen; omega) (by omega) (by simp; omega) _ rfl ?_); intro g' cap' w3 hown1 hgrow1 hblk1 hlt1; have k1 := (kBd.alloc (.cells #[.int .i64 (T.bl.length : Int)] 3)).grown hgrow1 hgi; have k2 := (kRd.alloc (.cells #[.int .i64 (T.bl.length : Int)] 3)).grown hgrow1 hgr; have HP := hide (HHd.out.push_ix (.cells #[.int .i64 (T.bl.length : Int)] 3) (T.bl.length : Int) hown1 hgrow1 (fun b e => by injection e with e; subst e; exact hblk1)); have hgn := hide hgrow1; have p0 := k1.cell 0; have pf := k1.frozen 0; have pl := k1.lt; clear hown1 hgrow1 hblk1; simp only [List.getElem?_toArray, List.getElem?_cons_zero] at p0)
      obtain ⟨W4, hW4⟩ : ∃ W4 : World, W4 = w3.setCell ⟨w.heap.size, 0, none⟩ (.slice (some ⟨g', 0, none⟩) (T.ix.length + 1) cap') := ⟨_, rfl⟩
      have hg4 : w3.grownBy W4 (some w.heap.size) := by rw [hW4]; exact grownBy_setCell _ _ _ _
      have k14 : Blk W4 w.heap.size 27 #[.slice (some ⟨g', 0, none⟩) (T.ix.length + 1) cap', .slice Ab T.bl.length cb] := by
        rw [hW4]
        exact k1.set_ 0 _
      have k24 : Blk W4 (w.heap.size + 1) 27 #[.slice none 0 0, .slice none 0 0] := k2.grown hg4 (by simp)
      have HP4 : Ow W4 n0 (.slice (some ⟨g', 0, none⟩) (T.ix.length + 1) cap') (.slice Ab T.bl.length cb) ⟨T.ix ++ [(T.bl.length : Int)], T.bl⟩ := by
        rw [hW4]
        exact HP.out.store k1 0 _
      have hs3 := hgn.out.size
      rw [World.size_alloc] at hs3
      have hr3 := (hrd.alloc (Nat.le_refl _) (.cells #[.int .i64 (T.bl.length : Int)] 3)).grown_ hgn.out (Nat.le_refl _) hxi
      have hr4 := hr3.grown_ hg4 (Nat.le_refl _) (by intro e; injection e with e; omega)
      have hb4 : Below n0 w W4 := (((hbd.out.mono hn).alloc (by omega) _).grown hgn.out (by simp; omega) (fun k e => (HHd.out.ix.lt k e).1)).grown hg4 (by omega) (fun k e => by cases e; exact hn)
      have hs4 := hg4.size
      rw [← hW4]
      clear hW4 k1 k2 HP hgn hrd hr3 kBd kRd HHd hbd c0 c1 cf p0 pf pl hgi hgr
      have q0 := k14.cell 0
      have q1 := k14.cell 1
      have qf := k14.frozen 1
      simp only [List.getElem?_toArray, List.getElem?_cons_zero, List.getElem?_cons_succ] at q0 q1
      obtain ⟨ss4, o4, hl4, hs44⟩ := HP4.bl
      have HS4 := hide hs44
      clear hs44
      have hHd : W4.grownBy W4.drew none := ⟨rfl, rfl, rfl, Nat.le_refl _, fun _ _ _ => rfl⟩
      have hS : W4.drew.cell? ⟨w.heap.size, 1, none⟩ = some (.slice Ab T.bl.length cb) := q1
      refine wp_region_heads (fun w' => w'.cell? ⟨w.heap.size, 1, none⟩ = some (.slice Ab T.bl.length cb)) 3 3 (by kernel_rfl) (by kernel_rfl) (fun _ _ d _ _ h => by cases d <;> exact h) hS ?_
      simp only [List.take_succ_cons, List.take_zero, List.drop_succ_cons, List.drop_zero]
      refine heads_step (v := .pointer (some ⟨w.heap.size, 1, none⟩)) rfl (fun W' hS' => by go_simp) ?_
      go_frame
      refine heads_step (v := .slice Ab T.bl.length cb) rfl (fun W' hS' => by go_simp) ?_
      go_frame
      refine heads_step (v := .slice (some ⟨xb, xo, none⟩) 256 c) rfl (fun W' hS' => by rfl) ?_
      go_frame
      refine heads_nil ?_
      have hone : ∀ u ∈ intCells x, u.oneCell' = true := by intro u hu; simp [intCells] at hu; obtain ⟨y, _, rfl⟩ := hu; rfl
      refine mid_step rfl (fun K hK => ?_)
      refine wp_append_lies _ (.const (.slice none 0 0)) (.tmp 37) 24 rfl n0 3 i0 (.int .i64 0) 1 8 Tryd.underlying24 hi hz0 hz1 hz2 rfl (by decide) (.slice none 0 0) 0 [] rfl (World.ownsRow_nil _ _ _ _) ⟨xb, xo, none⟩ 256 c (intCells x) rfl (by rw [intCells_length, hHX.out]) (fun j u hu => ?_) hone (by omega) (by unfold maxLen; omega) (by omega) (by show n0 ≤ W4.heap.size; omega) _ rfl ?_
      · obtain ⟨b', o', e, hbb, hcc⟩ := hr4.2.2 (by omega)
        injection e with e
        injection e with e1 e2
        subst e1 e2
        have hadd : (⟨xb, xo, none⟩ : Addr).add j = ⟨xb, xo + j, none⟩ := by unfold Addr.add; split <;> simp_all
        rw [hadd]
        exact hcc j u hu
      intro gc cc w5 hown5 hgrow5 hblk5 hlt5
      simp only [Nat.zero_add, List.nil_append] at hown5
      have hgc : W4.heap.size ≤ gc := by
        rcases hblk5 with e | e
        · simp [Value.ownBlock] at e
        · rw [e]; exact Nat.le_refl _
      have hg45 : W4.grownBy w5 none := ⟨hgrow5.os, hgrow5.tape, hgrow5.output, hgrow5.size, fun k hk _ => hgrow5.block k hk (by simp [Value.ownBlock])⟩
      have HO5 := hide hown5
      clear hown5 hgrow5 hblk5
      have k15 := k14.grown hg45 (by simp)
      have k25 := k24.grown hg45 (by simp)
      have HP5 := HP4.grow hg45
      have o5 := o4.kept hg45 (by cases (Value.slice Ab T.bl.length cb).ownBlock <;> simp)
      have hs5 := hg45.size
      have hb5 : Below n0 w w5 := hb4.grown hg45 (by omega) (fun k e => by cases e)
      have j1 := k15.cell 1
      simp only [List.getElem?_toArray, List.getElem?_cons_zero, List.getElem?_cons_succ] at j1
      have jf := k15.frozen 1
      have jl := k15.lt
      refine hK _ _ ⟨j1, ?_⟩
      try go_frame
      refine mid_step rfl (fun K2 hK2 => ?_)
      go_simp
      refine hK2 _ _ ⟨(World.cell?_alloc_lt _ _ _ jl).trans j1, ?_⟩
      try go_frame
      have hgb := own_ne (o5.alloc (.cells #[.slice (some ⟨gc, 0, none⟩) 256 cc] 24)) (k15.alloc _) (by decide)
      have hgb2 := own_ne (o5.alloc (.cells #[.slice (some ⟨gc, 0, none⟩) 256 cc] 24)) (k25.alloc _) (by decide)
      refine mid_step rfl (fun K3 hK3 => ?_)
      refine wp_append_lies _ (.tmp 36) (.tmp 39) 25 rfl n0 24 i1 (.slice none 0 0) 1 24 Tryd.underlying25 hi' hz0' hz1' hz2' rfl (by decide) (.slice Ab T.bl.length cb) T.bl.length (ss4.map sv) rfl (o5.alloc _) ⟨w5.heap.size, 0, none⟩ 1 1 [.slice (some ⟨gc, 0, none⟩) 256 cc] rfl rfl (cell_one_new _ _ _) (by simp [Value.oneCell']) (by omega) (by unfold maxLen; omega) (by omega) (by simp; omega) _ rfl ?_
      intro g6 cap6 w6 hown6 hgrow6 hblk6 hlt6
      have k16 := (k15.alloc _).grown hgrow6 hgb
      have k26 := (k25.alloc _).grown hgrow6 hgb2
      have HP6 := HP5.push_bl (.cells #[.slice (some ⟨gc, 0, none⟩) 256 cc] 24) x hHX.out ss4 hl4 (fun i h h' => by
        obtain ⟨b, c, e1, e2, e3⟩ := HS4.out i h h'
        exact ⟨b, c, e1, e2, e3.kept hg45 (.inr (by simp [Value.ownBlock]))⟩) o5 (gc := gc) (cc := cc) hown6 hgrow6 HO5.out (fun e => by have := (HP4.ix.lt _ e).2; omega)
      have hb6 : Below n0 w w6 := (hb5.alloc (by omega) _).grown hgrow6 (by simp; omega) (fun k e => (o5.lt k e).1)
      have t1 := k16.cell 1
      simp only [List.getElem?_toArray, List.getElem?_cons_zero, List.getElem?_cons_succ] at t1
      refine hK3 _ _ ⟨t1, ?_⟩
      try go_frame
      refine mid_nil ?_
      have t0 := k16.cell 0
      have tf := k16.frozen 1
      have tl := k16.lt
      have r0 := k26.cell 0
      have r1 := k26.cell 1
      have rf0 := k26.frozen 0
      have rf1 := k26.frozen 1
      have rl := k26.lt
      simp only [List.getElem?_toArray, List.getElem?_cons_zero, List.getElem?_cons_succ] at t0 r0 r1
      have HB6 := hide hb6
      have HQ6 := hide HP6
      clear hown6 hgrow6 hblk6 HP6 hb6
      go_wp2
      have m1 := HQ6.out.store k16 1 (.slice (some ⟨g6, 0, none⟩) (T.bl.length + 1) cap6)
      have k2' := k26.far (p := ⟨w.heap.size, 1, none⟩) (show w.heap.size + 1 ≠ w.heap.size by omega) (.slice (some ⟨g6, 0, none⟩) (T.bl.length + 1) cap6)
      have m2 := m1.store k2' 0 (.slice (some ⟨g', 0, none⟩) (T.ix.length + 1) cap')
      have k3 := k2'.set_ 0 (.slice (some ⟨g', 0, none⟩) (T.ix.length + 1) cap')
      have m3 := m2.store k3 1 (.slice (some ⟨g6, 0, none⟩) (T.bl.length + 1) cap6)
      have k4 := k3.set_ 1 (.slice (some ⟨g6, 0, none⟩) (T.bl.length + 1) cap6)
      refine bodyPost_ret (results_cell_row rfl _ _ (w.heap.size + 1) 27 _ (0, 0) _ rfl k4 Tryd.underlying27 rfl (by kernel_rfl)) rfl ?_
      refine ⟨_, _, rfl, ?_, ?_⟩
      · unfold Tr.add
        rw [HN.out]
        exact m3
      · exact ((HB6.out.setCell (p := ⟨w.heap.size, 1, none⟩) hn _).setCell (p := ⟨w.heap.size + 1, 0, none⟩) (by show n0 ≤ w.heap.size + 1; omega) _).setCell (p := ⟨w.heap.size + 1, 1, none⟩) (by show n0 ≤ w.heap.size + 1; omega) _

theorem put_any (n0 : Nat) (vi vb : Value) (T : Tr) (x : List Int) (xb xo c : Nat) (w : World) (h : Ow w n0 vi vb T) (hn : n0 ≤ w.heap.size) (hx : x.length = 256)
    (hr : Rds w w.heap.size 1 (some ⟨xb, xo, none⟩) 256 (intCells x)) (hxi : vi.ownBlock ≠ some xb) (hl1 : T.ix.length ≤ 5000) (hl2 : T.bl.length ≤ 5000) :
    Calls Tryd.prog 52 #[.agg #[vi, vb], .slice (some ⟨xb, xo, none⟩) 256 c] w (Putd w n0 (T.add x)) := by
  obtain ⟨ss, h1, _⟩ := h.bl
  rcases h1.2 with ⟨rfl, h0⟩ | ⟨g', cap, cur, rfl, _⟩
  · have e : Value.slice none 0 0 = .slice none T.bl.length 0 := by rw [h0]
    rw [e] at h ⊢
    exact put_slice n0 vi none 0 T x xb xo c w h hn hx hr hxi hl1 hl2
  · exact put_slice n0 vi _ cap T x xb xo c w h hn hx hr hxi hl1 hl2
end Go.Proofs.YtibndkkbmgbogaaDoor
