/- The program's trie.Build on any ranges. Conditions: the slice reads as the list and lies within its capacity; the package's two error variables hold two different errors. -/
import Derived.RangeFuncBox
import Derived.RangeFuncLeaves
import Derived.RangeFuncWrites
import Derived.RangeFuncCalls
import Derived.Shelf.Abstract
import Derived.Shelf.RegionOpen
import Derived.WalkKit
import Derived.OwnWalkIn
import Derived.TacticsInMore
import Derived.LoopNIn
import Derived.LoopIn
import Derived.Test.YtibndkkbmgbogaaDoorProg
import Derived.Test.YtibndkkbmgbogaaDoorBase
import Derived.Test.YtibndkkbmgbogaaDoorOne
import Derived.Test.YtibndkkbmgbogaaDoorTold
import Derived.Test.YtibndkkbmgbogaaDoorFill
import Derived.Test.YtibndkkbmgbogaaDoorAdd
import Derived.Test.YtibndkkbmgbogaaDoorIter
namespace Go.Proofs.YtibndkkbmgbogaaDoor
open Go Go.RowKit

attribute [local go_sem] Oper.semAt_some

theorem cell_of_box_c {W : World} {B : Nat} {v : Value} {t : TypeId} (h : W.heap[B]? = some (.cells #[v] t (0, 0))) : W.cell? ⟨B, 0, none⟩ = some v ∧ W.frozen? ⟨B, 0, none⟩ = false := by
  constructor <;> simp [World.cell?, World.frozen?, h]
theorem cell_new_c (W : World) (v : Value) (t : TypeId) : (W.alloc (.cells #[v] t)).cell? ⟨W.heap.size, 0, none⟩ = some v ∧ (W.alloc (.cells #[v] t)).frozen? ⟨W.heap.size, 0, none⟩ = false :=
  cell_of_box_c (World.alloc_heap_new W _)
theorem cell_alloc_c {W : World} {a : Addr} {v : Value} (o : Obj) (h : W.cell? a = some v) : (W.alloc o).cell? a = some v := cell_kept h (World.grownBy_alloc W o none) (fun r e => by cases e)

/-- the trie of some rows -/
def foldRows (T : Tr) (q : List (Nat × List Rg)) : Tr := q.foldl (fun T x => T.add (fillRow x.1 x.2)) T
def rowsOf (l : List Rg) : List (Nat × List Rg) := (List.range 4352).map fun i => (i, subRow l i)
/-- what Build makes, and its number -/
def builtB (l : List Rg) : Tr × Int := if rightB l then (foldRows ⟨[], []⟩ (rowsOf l), 0) else (⟨[], []⟩, 22)

/-- A trie and a number are handed back; what lay is as it was. -/
def Out (w : World) (T : Tr) (k : Int) (e : Ending) (w' : World) : Prop :=
  ∃ A n c A' n' c', e = .returned (.tuple #[.agg #[.slice A n c, .slice A' n' c'], .int .i64 k]) ∧ TrAt w' w'.heap.size A n A' n' T ∧ n ≤ c ∧ n' ≤ c' ∧ Below w.heap.size w w'

/-- .. and a write into an older block leaves the trie. -/
def OutK (w : World) (T : Tr) (k : Int) (e : Ending) (w' : World) : Prop :=
  ∃ A n c A' n' c', e = .returned (.tuple #[.agg #[.slice A n c, .slice A' n' c'], .int .i64 k]) ∧ TrAt w' w'.heap.size A n A' n' T ∧ n ≤ c ∧ n' ≤ c' ∧ Below w.heap.size w w' ∧
    ∀ (g : Nat) (w2 : World), g < w.heap.size → w'.grownBy w2 (some g) → TrAt w2 w2.heap.size A n A' n' T

theorem results_cell_row_tmp {P : Program} {fn : Func} {p u : Tmp} {ty : TypeId} (h : fn.results = #[.cell p ty, .tmp u]) (tmps : Array Value) (w : World) (g : Nat) (t : TypeId) (cs : Array Value) (fr : Nat × Nat) (d : TypeDesc)
    (hp : tmps.getD p undef = .pointer (some ⟨g, 0, none⟩)) (hg : w.heap[g]? = some (.cells cs t fr))
    (hu : P.underlying ty = some d) (hd : (match d with | .struct _ | .array _ _ => true | _ => false) = true) (hi : (P.info? ty).map (·.size) = some cs.size) :
    (results fn tmps).run P w = .ok (.tuple #[.agg cs, tmps.getD u undef]) w := by
  rw [results_cell_tmp h, hp]
  simp [asAddr, run_loadVar_row w g t ty cs fr d hg hu hd hi]

theorem Bld.turn {w w' : World} {row : Option Nat} {n0 g m : Nat} {vi vb : Value} {T : Tr} {mb : List (List Int)} (h : Bld w n0 g m vi vb T mb) (hg : w.grownBy w' row) (hr : ∀ r, row = some r → n0 ≤ r ∧ ∃ o : Obj, w.heap[r]? = some o ∧ o.isCells = false) (g0 : g < n0) (m0 : m < n0) :
    Bld w' n0 g m vi vb T mb := by
  have own : ∀ {e n v xs}, w.ownsRow n0 e 1 v n xs → v.ownBlock = none ∨ v.ownBlock ≠ row := fun {e n v xs} ho => by
    cases hv : v.ownBlock with
    | none => exact .inl rfl
    | some k =>
      right
      intro e
      obtain ⟨cs, t, fr, hc⟩ := own_cells ho hv
      obtain ⟨_, o, ho', hoc⟩ := hr k e.symm
      rw [hc] at ho'
      injection ho' with ho'
      subst ho'
      cases hoc
  refine ⟨h.blk.grown hg (fun e => by have := (hr _ e.symm).1; omega), (hg.block m (Array.getElem?_eq_some_iff.1 h.map).1 (fun e => by have := (hr _ e.symm).1; omega)).trans h.map, h.ix.kept hg (own h.ix), ?_, h.len⟩
  obtain ⟨ss, h1, h2, h3⟩ := h.bl
  refine ⟨ss, h1.kept hg (own h1), h2, fun i hi hi' => ?_⟩
  obtain ⟨b, c, e1, e2, e3, e4, e5, e6, e7, e8⟩ := h3 i hi hi'
  exact ⟨b, c, e1, e2, Nat.lt_of_lt_of_le e3 hg.size, e4, e5, e6, e7, fun j u hu => cell_kept (e8 j u hu) hg (fun r e => (hr r e).2)⟩
theorem Bld.turn2 {w w' : World} {row : Option Nat} {n0 g m : Nat} {vi vb : Value} {T : Tr} {mb : List (List Int)} (h : Bld w n0 g m vi vb T mb) (hg : w.grownBy w' row) (hr : ∀ r, row = some r → r < n0 ∧ r ≠ g ∧ r ≠ m) :
    Bld w' n0 g m vi vb T mb := by
  have own : ∀ {e n v xs}, w.ownsRow n0 e 1 v n xs → v.ownBlock = none ∨ v.ownBlock ≠ row := fun {e n v xs} ho => by
    cases hv : v.ownBlock with
    | none => exact .inl rfl
    | some k =>
      right
      intro e
      have := (ho.lt k hv).1
      have := (hr k e.symm).1
      omega
  refine ⟨h.blk.grown hg (fun e => (hr _ e.symm).2.1 rfl), (hg.block m (Array.getElem?_eq_some_iff.1 h.map).1 (fun e => (hr _ e.symm).2.2 rfl)).trans h.map, h.ix.kept hg (own h.ix), ?_, h.len⟩
  obtain ⟨ss, h1, h2, h3⟩ := h.bl
  refine ⟨ss, h1.kept hg (own h1), h2, fun i hi hi' => ?_⟩
  obtain ⟨b, c, e1, e2, e3, e4, e5, e6, e7, e8⟩ := h3 i hi hi'
  exact ⟨b, c, e1, e2, Nat.lt_of_lt_of_le e3 hg.size, e4, e5, e6, e7, fun j u hu => (World.cell?_of_block (a := ⟨b, j, none⟩) (hg.block b e3 (fun e => by have := (hr _ e.symm).1; omega))).trans (e8 j u hu)⟩
/-- what the builder holds reads as its trie -/
theorem Bld.tr {w : World} {n0 g m : Nat} {vi vb : Value} {T : Tr} {mb : List (List Int)} (h : Bld w n0 g m vi vb T mb) (h1 : T.ix.length ≤ 5000) (h2 : T.bl.length ≤ 5000) :
    ∃ A n c A' n' c', vi = .slice A n c ∧ vb = .slice A' n' c' ∧ n ≤ c ∧ n' ≤ c' ∧ TrAt w w.heap.size A n A' n' T := by
  obtain ⟨A, c, e1, e2, e3⟩ := own_rds h.ix (Nat.le_refl _) (by omega)
  obtain ⟨ss, o, hl, hs⟩ := h.bl
  obtain ⟨A', c', f1, f2, f3⟩ := own_rds o (Nat.le_refl _) (by omega)
  refine ⟨A, _, c, A', _, c', e1, f1, e2, f2, e3, ss, f3, hl, fun i hi hi' => ?_⟩
  obtain ⟨b, cc, g1, g2, g3, g4, g5, g6, g7, g8⟩ := hs i hi hi'
  rw [g1]
  have hb := h.len _ (List.getElem_mem hi')
  refine ⟨by simp [intCells], by show T.bl[i].length ≤ _; omega, fun _ => ⟨b, 0, rfl, g3, fun j u hu => by rw [Nat.zero_add]; exact g8 j u hu⟩⟩

set_option maxRecDepth 100000 in
set_option maxHeartbeats 2000000 in
theorem build_keep {a0 a1 : Addr} (A : Option Addr) (n c : Nat) (l : List Rg) (w : World) (hE : Errs w w.heap.size a0 a1) (hc : n ≤ c) (hr : Rds w w.heap.size 3 A n (rgCells l)) :
    Calls Tryd.prog 15 #[.slice A n c] w (OutK w (builtB l).1 (builtB l).2) := by
  have hm := hr.2.1
  have hmm := @run_makeMap Tryd.prog
  have hro : Fence.wide.round = none := rfl
  have h1 : 1 ≤ 10 := by omega
  refine (callsIn_wide (n := 10)).1 ?_
  refine callsIn_of_wp_marks Tryd.func15 rfl trivial ?_ rfl
  simp only [Tryd.ntmps15, List.size_toArray, List.length_cons, List.length_nil, Nat.reduceAdd, Nat.reduceSub, Array.replicate_succ, Array.replicate_zero, List.push_toArray, List.append_toArray, List.nil_append, List.cons_append]
  have hr0 := hr.alloc (Nat.le_refl _) (.cells #[.slice none 0 0, .slice none 0 0] 27)
  have hb0 : Below w.heap.size w (w.alloc (.cells #[.slice none 0 0, .slice none 0 0] 27)) := (Below.refl _ _).alloc (Nat.le_refl _) _
  have kR := Blk.new w 27 #[.slice none 0 0, .slice none 0 0]
  have hs0 : (w.alloc (.cells #[.slice none 0 0, .slice none 0 0] 27)).heap.size = w.heap.size + 1 := by simp
  cases hrb : rightB l with
  | false =>
    have HB := hide (show builtB l = (⟨[], []⟩, 22) by unfold builtB; rw [hrb]; rfl)
    gi_wp2_with (refine ⟨trivial, ?_⟩; gi_at_call 44; refine (callsIn_wide.2 (right_any A n c l _ hr0 hm)).mono ?_; rintro e w1 ⟨he, hb1⟩; rw [hrb] at he; subst he; have hE1 := (hE.below hb0).below (hb1.mono (by simp)); have kR1 : Blk w1 w.heap.size _ _ := (hb1.block _ (by simp)).trans kR; have q0 := hE1.c0; have r0 := kR1.cell 0; have r1 := kR1.cell 1; have rf0 := kR1.frozen 0; have rf1 := kR1.frozen 1; have rl := kR1.lt)
    refine ⟨trivial, ?_⟩
    refine (callsIn_wide.2 (toldRange_any w1 hE1)).mono ?_
    rintro e w2 ⟨rfl, rfl⟩
    gi_wp2
    have kE := (kR1.set_ 0 (.slice none 0 0)).set_ 1 (.slice none 0 0)
    refine ⟨_, results_cell_row_tmp rfl _ _ w.heap.size 27 _ _ _ rfl kE Tryd.underlying27 rfl (by kernel_rfl), ?_⟩
    rw [HB.out]
    refine ⟨none, 0, 0, none, 0, 0, rfl, ⟨⟨rfl, by omega, fun h => by omega⟩, [], ⟨rfl, by omega, fun h => by omega⟩, rfl, fun i h => by cases h⟩, Nat.le_refl _, Nat.le_refl _, ?_, fun _ _ _ _ => ⟨⟨rfl, by omega, fun h => by omega⟩, [], ⟨rfl, by omega, fun h => by omega⟩, rfl, fun i h => by cases h⟩⟩
    exact ((hb0.trans (hb1.mono (by simp))).setCell (p := ⟨w.heap.size, 0, none⟩) (Nat.le_refl _) _).setCell (p := ⟨w.heap.size, 1, none⟩) (Nat.le_refl _) _
  | true =>
    have HB := hide (show builtB l = (foldRows ⟨[], []⟩ (rowsOf l), 0) by unfold builtB; rw [hrb]; rfl)
    gi_wp2_with (first | (refine ⟨trivial, ?_⟩; gi_at_call 44; refine (callsIn_wide.2 (right_any A n c l _ hr0 hm)).mono ?_; rintro e w1 ⟨he, hb1⟩; rw [hrb] at he; subst he; have hE1 := (hE.below hb0).below (hb1.mono (by simp)); have kR1 : Blk w1 w.heap.size _ _ := (hb1.block _ (by simp)).trans kR) | (refine ⟨trivial, ?_⟩; gi_at_call 46; refine (rows_in Fence.wide 9 trivial rfl _ _ _ _).mono ?_; rintro e w' ⟨rfl, rfl⟩))
    have hs1 : w.heap.size < w1.heap.size := kR1.lt
    obtain ⟨W0, hW0⟩ : ∃ W0 : World, W0 = (((w1.alloc (.map #[] 0)).alloc (.cells #[.slice none 0 0, .slice none 0 0, .map (some w1.heap.size)] 69)).alloc (.cells #[.pointer (some ⟨w1.heap.size + 1, 0, none⟩)] 66)).alloc (.cells #[.slice A n c] 22) := ⟨_, rfl⟩
    have hsz : W0.heap.size = w1.heap.size + 4 := by rw [hW0]; simp
    have hbW : Below w1.heap.size w1 W0 := by rw [hW0]; exact ((((Below.refl _ _).alloc (Nat.le_refl _) _).alloc (by simp) _).alloc (by simp; omega) _).alloc (by simp; omega) _
    have hb0W : Below w.heap.size w W0 := hb0.trans ((hb1.mono (by simp)).trans (hbW.mono (by omega)))
    have k0 : W0.heap[w1.heap.size]? = some (.map #[] 0) := by
      rw [hW0]
      exact (Below.heap_alloc _ _ _ (by simp; omega)).trans ((Below.heap_alloc _ _ _ (by simp; omega)).trans ((Below.heap_alloc _ _ _ (by simp)).trans (World.alloc_heap_new w1 _)))
    have k1 : Blk W0 (w1.heap.size + 1) 69 #[.slice none 0 0, .slice none 0 0, .map (some w1.heap.size)] := by
      rw [hW0]
      have := Blk.new (w1.alloc (.map #[] 0)) 69 #[.slice none 0 0, .slice none 0 0, .map (some w1.heap.size)]
      rw [World.size_alloc] at this
      exact (this.alloc _).alloc _
    have k2 : W0.cell? ⟨w1.heap.size + 2, 0, none⟩ = some (.pointer (some ⟨w1.heap.size + 1, 0, none⟩)) := by
      rw [hW0]
      have := (cell_new_c ((w1.alloc (.map #[] 0)).alloc (.cells #[.slice none 0 0, .slice none 0 0, .map (some w1.heap.size)] 69)) (.pointer (some ⟨w1.heap.size + 1, 0, none⟩)) 66).1
      simp only [World.size_alloc] at this
      exact cell_alloc_c _ this
    have k3 : W0.cell? ⟨w1.heap.size + 3, 0, none⟩ = some (.slice A n c) := by
      rw [hW0]
      have := (cell_new_c (((w1.alloc (.map #[] 0)).alloc (.cells #[.slice none 0 0, .slice none 0 0, .map (some w1.heap.size)] 69)).alloc (.cells #[.pointer (some ⟨w1.heap.size + 1, 0, none⟩)] 66)) (.slice A n c) 22).1
      simp only [World.size_alloc] at this
      exact this
    have kR0 : Blk W0 w.heap.size 27 #[.slice none 0 0, .slice none 0 0] := (hbW.block _ hs1).trans kR1
    have hB0 : Bld W0 W0.heap.size (w1.heap.size + 1) w1.heap.size (.slice none 0 0) (.slice none 0 0) ⟨[], []⟩ [] :=
      ⟨k1, k0, World.ownsRow_nil _ _ _ _, ⟨[], World.ownsRow_nil _ _ _ _, rfl, fun i h => by cases h⟩, fun b hb => by cases hb⟩
    rw [← hW0]
    clear hW0
    refine wpIn_rangeFunc_ownG hro h1 (gf := 69) (lb := #[.pointer (some ⟨w1.heap.size + 3, 0, none⟩)]) rfl trivial (enters_of Tryd.func69 (by kernel_rfl) rfl)
      (rows_stops 9 (by omega) l (w1.heap.size + 3) w.heap.size A n c w W0 hc hr hb0W (by omega) k3 (by omega)) KRows.trans (KRows.put (by omega)) (Below.refl _ _) (fun _ => rfl)
      (fun pre W => (∃ vi vb, Bld W W0.heap.size (w1.heap.size + 1) w1.heap.size vi vb (foldRows ⟨[], []⟩ (pre.map RowIn.key)) (foldRows ⟨[], []⟩ (pre.map RowIn.key)).bl) ∧ W.cell? ⟨w1.heap.size + 2, 0, none⟩ = some (.pointer (some ⟨w1.heap.size + 1, 0, none⟩)) ∧
        Blk W w.heap.size 27 #[.slice none 0 0, .slice none 0 0] ∧ (foldRows ⟨[], []⟩ (pre.map RowIn.key)).ix.length = pre.length ∧ (foldRows ⟨[], []⟩ (pre.map RowIn.key)).bl.length ≤ pre.length ∧ Below w.heap.size w W ∧ W0.heap.size ≤ W.heap.size)
      (fun _ _ _ => False)
      (fun s X Y row hs hg hrw => by
        obtain ⟨⟨vi, vb, q1⟩, q2, q3, q4, q5, q6, q7⟩ := hs
        refine ⟨⟨vi, vb, q1.turn hg hrw (by omega) (by omega)⟩, cell_kept q2 hg (fun r e => (hrw r e).2), (hg.block _ q3.lt (fun e => by have := (hrw _ e.symm).1; omega)).trans q3, q4, q5, q6.grown hg q6.size (fun k e => by have := (hrw k e).1; omega), Nat.le_trans q7 hg.size⟩)
      (fun _ _ _ _ _ hs _ _ => hs)
      ⟨⟨_, _, hB0⟩, k2, kR0, rfl, Nat.le_refl _, hb0W, Nat.le_refl _⟩
      (fun x => { tmps := #[.slice A n c, undef, .pointer (some ⟨w.heap.size, 0, none⟩), .int .i64 0, .pointer (some ⟨w1.heap.size + 1 + 1, 0, none⟩), .int .i64 (x.1.1 : Int), .slice x.1.2.1.1 x.1.2.1.2 x.1.2.1.2, .slice A n c, .bool true, .bool false, undef, undef, undef, .map (some w1.heap.size), .agg #[.slice none 0 0, .slice none 0 0, .map (some w1.heap.size)], .pointer (some ⟨w1.heap.size + 1, 0, none⟩), .slice A n c, .func (.func 69) #[] #[.pointer (some ⟨w1.heap.size + 1 + 1 + 1, 0, none⟩)], .int .i64 (x.1.1 : Int), .slice x.1.2.1.1 x.1.2.1.2 x.1.2.1.2, undef, undef, undef, undef, undef, undef, undef, undef, undef], defers := [] }) ?assign ?body ?done ?stop
    case assign =>
      intro l x W K hK
      dsimp only [RowIn.encs]
      gi_wp2
      exact hK
    case body =>
      rintro lp pre ⟨⟨row, ⟨A', n'⟩, q⟩, hrow, hrd⟩ W ⟨⟨vi, vb, q1⟩, q2, q3, q4, q5, q6, q7⟩ hlt
      dsimp only at hrow hrd
      dsimp only
      have hmx : Tryd.prog.follows .mixedOrders = true := by kernel_rfl
      have hlt' : pre.length < 4352 := hlt
      have hd1 : 1 ≤ 10 - 1 - 1 := by omega
      gi_wp2
      have q2d : W.drew.cell? ⟨w1.heap.size + 2, 0, none⟩ = some (.pointer (some ⟨w1.heap.size + 1, 0, none⟩)) := q2
      have hT : w1.heap.size + 2 < W.drew.heap.size := (by show _ < W.heap.size; omega)
      have hrW : Rds W.drew W.drew.heap.size 3 A' n' (rgCells q) := ((hrd.below q6).more q6.size)
      have hf := fill_any row A' n' n' q W.drew hrow hrW
      have hfl : (fillRow row q).length = 256 := by unfold fillRow; rw [fillFold_len]; simp
      have hadd : ∀ w2, Below W.drew.heap.size W.drew w2 → Calls Tryd.prog 47 #[.pointer (some ⟨w1.heap.size + 1, 0, none⟩), .agg (intArr (fillRow row q))] w2 (Added w2 W0.heap.size (w1.heap.size + 1) w1.heap.size ((foldRows ⟨[], []⟩ (pre.map RowIn.key)).add (fillRow row q))) := fun w2 hb2 =>
        add_any _ _ _ _ _ _ _ _ hfl (q1.grow (show W.grownBy w2 none from ⟨hb2.os, hb2.tape, hb2.output, hb2.size, fun k hk _ => hb2.block k hk⟩)) (Nat.le_trans q7 hb2.size) (by omega) (by omega)
      have hfin : ∀ w2 w3, Below W.drew.heap.size W.drew w2 → Added w2 W0.heap.size (w1.heap.size + 1) w1.heap.size ((foldRows ⟨[], []⟩ (pre.map RowIn.key)).add (fillRow row q)) (.returned (.tuple #[])) w3 →
          KeepsFrom W0.heap.size W w3 ∧ KRows w.heap.size (w1.heap.size + 3) W w3 ∧ (∃ vi vb, Bld w3 W0.heap.size (w1.heap.size + 1) w1.heap.size vi vb (foldRows ⟨[], []⟩ ((pre ++ [(⟨(row, (A', n'), q), hrow, hrd⟩ : RowIn w w.heap.size)]).map RowIn.key)) (foldRows ⟨[], []⟩ ((pre ++ [(⟨(row, (A', n'), q), hrow, hrd⟩ : RowIn w w.heap.size)]).map RowIn.key)).bl) ∧ w3.cell? ⟨w1.heap.size + 2, 0, none⟩ = some (.pointer (some ⟨w1.heap.size + 1, 0, none⟩)) ∧
            Blk w3 w.heap.size 27 #[.slice none 0 0, .slice none 0 0] ∧ (foldRows ⟨[], []⟩ ((pre ++ [(⟨(row, (A', n'), q), hrow, hrd⟩ : RowIn w w.heap.size)]).map RowIn.key)).ix.length = (pre ++ [(⟨(row, (A', n'), q), hrow, hrd⟩ : RowIn w w.heap.size)]).length ∧ (foldRows ⟨[], []⟩ ((pre ++ [(⟨(row, (A', n'), q), hrow, hrd⟩ : RowIn w w.heap.size)]).map RowIn.key)).bl.length ≤ (pre ++ [(⟨(row, (A', n'), q), hrow, hrd⟩ : RowIn w w.heap.size)]).length ∧ Below w.heap.size w w3 ∧ W0.heap.size ≤ w3.heap.size := by
        rintro w2 w3 hb2 ⟨_, hB, hk, hkb⟩
        have hb2' : Below W.heap.size W w2 := ⟨hb2.os, hb2.tape, hb2.output, hb2.size, hb2.block⟩
        have hf : foldRows ⟨[], []⟩ ((pre ++ [(⟨(row, (A', n'), q), hrow, hrd⟩ : RowIn w w.heap.size)]).map RowIn.key) = (foldRows ⟨[], []⟩ (pre.map RowIn.key)).add (fillRow row q) := by
          simp only [foldRows, List.map_append, List.foldl_append]; rfl
        have hbw3 : Below w.heap.size W w3 := (hb2'.mono q6.size).trans (hk.below (by omega) (by omega) (by omega))
        rw [hf]
        refine ⟨⟨Nat.le_trans hb2'.size hk.size, fun k o hk0 hko hoc => hkb.2 k o (by omega) ((hb2'.block k (Array.getElem?_eq_some_iff.1 hko).1).trans hko) hoc⟩,
          ⟨hbw3, fun v hv => ((hk.cell ⟨w1.heap.size + 3, 0, none⟩ (by show w1.heap.size + 3 < _; omega) (by show w1.heap.size + 3 ≠ _; omega) (by show w1.heap.size + 3 ≠ _; omega)).trans (hb2'.cell (p := ⟨w1.heap.size + 3, 0, none⟩) (by show w1.heap.size + 3 < _; omega))).trans hv⟩, hB,
          ((hk.cell ⟨w1.heap.size + 2, 0, none⟩ (by show w1.heap.size + 2 < _; omega) (by show w1.heap.size + 2 ≠ _; omega) (by show w1.heap.size + 2 ≠ _; omega)).trans (hb2'.cell (p := ⟨w1.heap.size + 2, 0, none⟩) (by show w1.heap.size + 2 < _; omega))).trans q2,
          ((hk.block _ (by omega) (by omega) (by omega)).trans (hb2'.block _ q3.lt)).trans q3, ?_, ?_, q6.trans hbw3, Nat.le_trans q7 (Nat.le_trans hb2'.size hk.size)⟩
        · unfold Tr.add; split <;> simp [q4]
        · unfold Tr.add; split <;> simp <;> omega
      have HF := hide hfin
      clear hfin
      have HA := hide hadd
      clear hadd
      gi_region_with_o (first | (refine ⟨trivial, ?_⟩; gi_at_call 48; go_must (refine (CallsIn.inRound lp (callsIn_wide.2 hf)).mono ?_); rintro e w2 ⟨rfl, hb2⟩; have c2 := (hb2.cell (p := ⟨w1.heap.size + 2, 0, none⟩) hT).trans q2d) | (refine ⟨trivial, ?_⟩; gi_at_call 47; go_must (refine (CallsIn.inRound lp (callsIn_wide.2 (HA.out _ hb2))).mono ?_); rintro e w3 ⟨rfl, q1', hk2, hkb2⟩))
      all_goals exact HF.out _ _ hb2 ⟨rfl, q1', hk2, hkb2⟩
    case done =>
      rintro D ys W hD hS ⟨⟨vi, vb, q1⟩, q2, q3, q4, q5, q6, q7⟩ hK
      rw [hS] at q1 q4 q5
      have hlen : ys.length = 4352 := by have := congrArg List.length hS; simpa using this
      obtain ⟨A1, n1, c1, A2, n2, c2, rfl, rfl, h1c, h2c, ht⟩ := q1.tr (by omega) (by omega)
      have r0 := q1.blk.cell 0
      have r1 := q1.blk.cell 1
      simp only [List.getElem?_toArray, List.getElem?_cons_zero, List.getElem?_cons_succ] at r0 r1
      have s0 := q3.frozen 0
      have s1 := q3.frozen 1
      have t0 := q3.cell 0
      have t1 := q3.cell 1
      have tl := q3.lt
      simp only [List.getElem?_toArray, List.getElem?_cons_zero, List.getElem?_cons_succ] at t0 t1
      gi_wp2
      have HG := grownBy_setCell W w.heap.size 0 (.slice A1 n1 c1)
      have HG2 := grownBy_setCell (W.setCell ⟨w.heap.size, 0, none⟩ (.slice A1 n1 c1)) w.heap.size 1 (.slice A2 n2 c2)
      have kE := (q3.set_ 0 (.slice A1 n1 c1)).set_ 1 (.slice A2 n2 c2)
      have qf := (q1.turn2 HG (fun r e => by cases e; omega)).turn2 HG2 (fun r e => by cases e; omega)
      have hK2 : ((W.setCell ⟨w.heap.size, 0, none⟩ (.slice A1 n1 c1)).setCell ⟨w.heap.size, 1, none⟩ (.slice A2 n2 c2)).heap[D]? = some (.deferred (some [])) :=
        (HG2.block D (by have := (Array.getElem?_eq_some_iff.1 hK).1; simpa using this) (fun e => by cases e; omega)).trans ((HG.block D (Array.getElem?_eq_some_iff.1 hK).1 (fun e => by cases e; omega)).trans hK)
      have HG3 := grownBy_putObj' ((W.setCell ⟨w.heap.size, 0, none⟩ (.slice A1 n1 c1)).setCell ⟨w.heap.size, 1, none⟩ (.slice A2 n2 c2)) D (.deferred none)
      have hrD : ∀ r, some D = some r → W0.heap.size ≤ r ∧ ∃ o : Obj, ((W.setCell ⟨w.heap.size, 0, none⟩ (.slice A1 n1 c1)).setCell ⟨w.heap.size, 1, none⟩ (.slice A2 n2 c2)).heap[r]? = some o ∧ o.isCells = false := fun r e => by cases e; exact ⟨hD, _, hK2, rfl⟩
      have qg := qf.turn HG3 hrD (by omega) (by omega)
      have kF := kE.grown HG3 (fun e => by have := (hrD _ e.symm).1; omega)
      refine ⟨by simp, .inl ⟨_, _, rfl, run_takeDeferred hK2, ?_⟩⟩
      refine ⟨_, results_cell_row_tmp rfl _ _ w.heap.size 27 _ _ _ rfl kF Tryd.underlying27 rfl (by kernel_rfl), ?_⟩
      rw [HB.out]
      have hq : (foldRows ⟨[], []⟩ ((List.range 4352).map (fun i => (i, subRow l i)))) = foldRows ⟨[], []⟩ (rowsOf l) := rfl
      obtain ⟨A3, n3, c3, A4, n4, c4, e3, e4, h3c, h4c, ht'⟩ := qg.tr (by omega) (by omega)
      injection e3 with e3a e3b e3c
      injection e4 with e4a e4b e4c
      subst e3a e3b e3c e4a e4b e4c
      rw [hq] at ht'
      dsimp only
      rw [hq] at qg q4 q5
      clear hq
      generalize foldRows ⟨[], []⟩ (rowsOf l) = TT at *
      have hkp : ∀ (g' : Nat) (w2 : World), g' < w.heap.size → World.grownBy _ w2 (some g') → TrAt w2 w2.heap.size A1 n1 A2 n2 TT := fun g' w2 hg' hgr => by
        obtain ⟨A5, n5, c5, A6, n6, c6, e5, e6, _, _, ht6⟩ := (qg.turn2 hgr (fun r e => by cases e; omega)).tr (by omega) (by omega)
        injection e5 with e5a e5b e5c
        injection e6 with e6a e6b e6c
        subst e5a e5b e6a e6b
        exact ht6
      refine ⟨A1, n1, c1, A2, n2, c2, ?_, ht', h1c, h2c, ?_, hkp⟩
      · rfl
      exact ((q6.grown HG q6.size (fun k e => by cases e; exact Nat.le_refl _)).grown HG2 (by simp; exact q6.size) (fun k e => by cases e; exact Nat.le_refl _)).grown HG3 (by simp; exact q6.size) (fun k e => by cases e; omega)
    case stop =>
      rintro D c pre W _ _ h _
      exact h.elim

theorem build_any {a0 a1 : Addr} (A : Option Addr) (n c : Nat) (l : List Rg) (w : World) (hE : Errs w w.heap.size a0 a1) (hc : n ≤ c) (hr : Rds w w.heap.size 3 A n (rgCells l)) :
    Calls Tryd.prog 15 #[.slice A n c] w (Out w (builtB l).1 (builtB l).2) :=
  (build_keep A n c l w hE hc hr).mono fun _ _ ⟨A1, n1, c1, A2, n2, c2, h1, h2, h3, h4, h5, _⟩ => ⟨A1, n1, c1, A2, n2, c2, h1, h2, h3, h4, h5⟩
end Go.Proofs.YtibndkkbmgbogaaDoor
