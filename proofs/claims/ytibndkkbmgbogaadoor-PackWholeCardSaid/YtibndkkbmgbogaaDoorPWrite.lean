/- The program's (*writer).write: a trie's bytes. Conditions: the trie lies as the words below say, is right, and has no more blocks than a pack may have. -/
import Derived.RangeFuncBox
import Derived.RangeFuncLeaves
import Derived.RangeFuncWrites
import Derived.RangeFuncCalls
import Derived.RangeFuncNested
import Derived.Shelf.Abstract
import Derived.Shelf.RegionOpen
import Derived.WalkKit
import Derived.OwnWalkIn
import Derived.TacticsInMore
import Derived.LoopNIn
import Derived.LoopIn
import Derived.Outline
import Derived.StillTailTactics
import Derived.Lib.AppendStr
import Derived.Test.YtibndkkbmgbogaaDoorProg
import Derived.Test.YtibndkkbmgbogaaDoorBase
import Derived.Test.YtibndkkbmgbogaaDoorPRunsS
import Derived.Test.YtibndkkbmgbogaaDoorPSum
import Derived.Test.YtibndkkbmgbogaaDoorPText
import Derived.Test.YtibndkkbmgbogaaDoorRegion
namespace Go.Proofs.YtibndkkbmgbogaaDoor
open Go Go.RowKit

attribute [local go_sem] Oper.semAt_some

def twoB (n : Nat) : List UInt8 := [UInt8.ofNat (n / 256), UInt8.ofNat (n % 256)]
def blkB (r : List (Int × Int)) : List UInt8 := r.flatMap fun p => [UInt8.ofNat (p.1 - 1).toNat, UInt8.ofNat p.2.toNat]
def idxB (r : List (Int × Int)) : List UInt8 := r.flatMap fun p => twoB (p.1 - 1).toNat ++ twoB p.2.toNat
def markB : List UInt8 := [86, 84, 49]
def blksB (l : List (List Int)) : List UInt8 := l.flatMap fun b => blkB (runsOf b)
def bodyB (T : Tr) : List UInt8 := markB ++ twoB T.bl.length ++ blksB T.bl ++ idxB (runsOf T.ix)
def packB (T : Tr) : List UInt8 := bodyB T ++ twoB (sumB (bodyB T) % 65536)

/-- what holds between two statements of write: the bytes so far; the two boxes; the marks of loops that are over -/
structure WInv (w : World) (g b1 : Nat) (tv : Array Value) (l : List UInt8) (Ds : List Nat) (W : World) : Prop where
  wr : Wr W g g l
  bw : Blk W b1 111 #[.pointer (some ⟨g, 0, none⟩)]
  bt : Blk W (b1 + 1) 27 tv
  below : Below g w W
  marks : Marks g W Ds
  lt : g < b1
section
variable {w W W' : World} {g b1 : Nat} {tv : Array Value} {l l' : List UInt8} {Ds : List Nat}
theorem Wr.kept {n0 : Nat} {row : Option Nat} (h : Wr W n0 g l) (hg : W.grownBy W' row) (hr : ∀ r, row = some r → ∃ o : Obj, W.heap[r]? = some o ∧ o.isCells = false) : Wr W' n0 g l := by
  obtain ⟨v, h1, h2⟩ := h
  refine ⟨v, h1.grown hg (fun e => ?_), h2.kept hg ?_⟩
  · obtain ⟨o, ho, hc⟩ := hr g e.symm
    unfold Blk at h1
    rw [h1] at ho
    cases ho
    cases hc
  · cases hv : v.ownBlock with
    | none => exact .inl rfl
    | some k =>
      right
      intro e
      obtain ⟨o, ho, hc⟩ := hr k e.symm
      obtain ⟨cs, t, fr, hh⟩ := own_cells h2 hv
      rw [hh] at ho
      cases ho
      cases hc
theorem Blk.kept {b : Nat} {t : TypeId} {cs : Array Value} {row : Option Nat} (h : Blk W b t cs) (hg : W.grownBy W' row) (hr : ∀ r, row = some r → ∃ o : Obj, W.heap[r]? = some o ∧ o.isCells = false) : Blk W' b t cs := h.grown hg (fun e => by
  obtain ⟨o, ho, hc⟩ := hr b e.symm
  unfold Blk at h
  rw [h] at ho
  cases ho
  cases hc)
theorem WInv.kept {B : Nat} {row : Option Nat} (h : WInv w g b1 tv l Ds W) (hg : W.grownBy W' row) (hB : g ≤ B) (hD : ∀ d ∈ Ds, d < B) (hr : ∀ r, row = some r → B ≤ r ∧ ∃ o : Obj, W.heap[r]? = some o ∧ o.isCells = false) : WInv w g b1 tv l Ds W' :=
  ⟨h.wr.kept hg (fun r e => (hr r e).2), h.bw.kept hg (fun r e => (hr r e).2), h.bt.kept hg (fun r e => (hr r e).2),
   h.below.grown hg (by have := h.bw.lt; have := h.lt; omega) (fun k e => Nat.le_trans hB (hr k e).1),
   ⟨h.marks.1, fun D hd => ⟨(h.marks.2 D hd).1, (hg.block D (h.marks.lt D hd) (fun e => by have := (hr D e.symm).1; have := hD D hd; omega)).trans (h.marks.2 D hd).2⟩⟩, h.lt⟩
theorem WInv.alloc (h : WInv w g b1 tv l Ds W) (o : Obj) : WInv w g b1 tv l Ds (W.alloc o) :=
  h.kept (World.grownBy_alloc W o none) (B := W.heap.size) (by have := h.bw.lt; have := h.lt; omega) h.marks.lt (fun r e => by cases e)
theorem WInv.wrote {e : Ending} (h : WInv w g b1 tv l Ds W) (h2 : Wrote W g g l' e W') : WInv w g b1 tv l' Ds W' :=
  ⟨h2.2.1, h2.2.2.2.2 _ _ _ (by decide) (by have := h.lt; omega) h.bw, h2.2.2.2.2 _ _ _ (by decide) (by have := h.lt; omega) h.bt,
   h.below.trans (h2.2.2.1.below (Nat.le_refl _) (Nat.le_refl _) (Nat.le_refl _)), h.marks.keep h2.2.2.2.1 (Nat.zero_le _), h.lt⟩
theorem WInv.drew (h : WInv w g b1 tv l Ds W) : WInv w g b1 tv l Ds W.drew :=
  ⟨h.wr.grow ⟨rfl, rfl, rfl, Nat.le_refl _, fun _ _ _ => rfl⟩, h.bw, h.bt, h.below.drew, h.marks, h.lt⟩
end

theorem right_block {T : Tr} (h : T.rightB = true) {k : Nat} (hk : k < T.bl.length) : blockB T.bl[k] = true := by
  simp only [Tr.rightB, Bool.and_eq_true, List.all_eq_true] at h
  exact h.2 _ (List.getElem_mem hk)
theorem blockB_len {b : List Int} (h : blockB b = true) : b.length = 256 := by
  simp only [blockB, Bool.and_eq_true, decide_eq_true_eq] at h
  exact h.1
theorem blockB_val {b : List Int} (h : blockB b = true) : ∀ v ∈ b, 0 ≤ v ∧ v ≤ 31 := fun v hv => by
  simp only [blockB, Bool.and_eq_true, decide_eq_true_eq, List.all_eq_true, valB] at h
  exact h.2 v hv
theorem block_runs {b : List Int} (h : blockB b = true) : ∀ x ∈ runsOf b, 1 ≤ x.1 ∧ x.1 ≤ 256 ∧ 0 ≤ x.2 ∧ x.2 ≤ 31 := fun x hx => by
  obtain ⟨h1, h2, h3⟩ := runsOf_mem b x hx
  rw [blockB_len h] at h2
  exact ⟨h1, by omega, blockB_val h _ h3⟩
theorem blkB_len (r : List (Int × Int)) : (blkB r).length = 2 * r.length := by
  induction r with
  | nil => rfl
  | cons x r ih =>
    have e : blkB (x :: r) = [UInt8.ofNat (x.1 - 1).toNat, UInt8.ofNat x.2.toNat] ++ blkB r := rfl
    rw [e, List.length_append, ih, List.length_cons]
    simp
    omega
theorem blksB_len (l : List (List Int)) (h : ∀ b ∈ l, b.length ≤ 256) : (blksB l).length ≤ 512 * l.length := by
  induction l with
  | nil => simp [blksB]
  | cons x l ih =>
    have e : blksB (x :: l) = blkB (runsOf x) ++ blksB l := rfl
    rw [e, List.length_append, blkB_len, List.length_cons]
    have h1 := ih (fun b hb => h b (by simp [hb]))
    have h2 := runsOf_len x
    have h3 := h x (by simp)
    omega
theorem blksB_take (l : List (List Int)) {k : Nat} (hk : k < l.length) : blksB (l.take (k + 1)) = blksB (l.take k) ++ blkB (runsOf l[k]) := by
  simp only [blksB, List.take_succ_eq_append_getElem hk, List.flatMap_append, List.flatMap_cons, List.flatMap_nil, List.append_nil]
theorem idxB_len (r : List (Int × Int)) : (idxB r).length = 4 * r.length := by
  induction r with
  | nil => rfl
  | cons x r ih =>
    have e : idxB (x :: r) = twoB (x.1 - 1).toNat ++ twoB x.2.toNat ++ idxB r := rfl
    rw [e, List.length_append, ih, List.length_cons]
    simp [twoB]
    omega
theorem right_ix {T : Tr} (h : T.rightB = true) : T.ix.length = 4352 := by
  simp only [Tr.rightB, Bool.and_eq_true, decide_eq_true_eq] at h
  exact h.1.1
theorem right_ixs {T : Tr} (h : T.rightB = true) : ∀ n ∈ T.ix, 0 ≤ n ∧ n < T.bl.length := fun n hn => by
  simp only [Tr.rightB, Bool.and_eq_true, decide_eq_true_eq, List.all_eq_true] at h
  exact h.1.2 n hn
theorem index_runs {T : Tr} (h : T.rightB = true) (hb : T.bl.length ≤ 300) : ∀ x ∈ runsOf T.ix, 1 ≤ x.1 ∧ x.1 ≤ 65536 ∧ 0 ≤ x.2 ∧ x.2 ≤ 65535 := fun x hx => by
  obtain ⟨h1, h2, h3⟩ := runsOf_mem T.ix x hx
  rw [right_ix h] at h2
  obtain ⟨h4, h5⟩ := right_ixs h _ h3
  exact ⟨h1, by omega, h4, by omega⟩
theorem own_some' {w : World} {base e size n : Nat} {v : Value} {xs : List Value} (h : w.ownsRow base e size v n xs) (hn : 0 < n) : ∃ g cap, v = .slice (some ⟨g, 0, none⟩) n cap := own_some h hn
theorem own_bytes {w : World} {base g cap : Nat} {l : List UInt8} (h : w.ownsRow base 5 1 (.slice (some ⟨g, 0, none⟩) l.length cap) l.length (byteCells l)) (j : Nat) (hj : j < l.length) :
    w.cell? ((⟨g, 0, none⟩ : Addr).add j) = some (.int .u8 (l[j].toNat : Int)) :=
  h.cells (g := g) rfl j _ (by simp [byteCells, byteV, hj])
theorem len_body (T : Tr) (k : Nat) (hT : T.rightB = true) (hb : T.bl.length ≤ 300) : (markB ++ twoB T.bl.length ++ blksB (T.bl.take k)).length ≤ 1000000 := by
  have h1 := blksB_len (T.bl.take k) (fun b hb => by
    obtain ⟨i, hi, rfl⟩ := List.getElem_of_mem (List.mem_of_mem_take hb)
    rw [blockB_len (right_block hT hi)]
    omega)
  have h2 : (T.bl.take k).length ≤ 300 := by simp; omega
  simp only [List.length_append]
  have h3 : markB.length = 3 := rfl
  have h4 : (twoB T.bl.length).length = 2 := rfl
  omega

theorem len_all (T : Tr) (hT : T.rightB = true) (hb : T.bl.length ≤ 300) : (bodyB T).length ≤ 900000 := by
  have h1 := blksB_len T.bl (fun b hb => by
    obtain ⟨i, hi, rfl⟩ := List.getElem_of_mem hb
    rw [blockB_len (right_block hT hi)]
    omega)
  have h2 := runsOf_len T.ix
  rw [right_ix hT] at h2
  unfold bodyB
  simp only [List.length_append, idxB_len]
  have h3 : markB.length = 3 := rfl
  have h4 : (twoB T.bl.length).length = 2 := rfl
  omega

set_option maxRecDepth 100000 in
set_option maxHeartbeats 2000000 in
theorem write_any (A A' : Option Addr) (n c n' c' g : Nat) (T : Tr) (w : World) (ht : TrAt w g A n A' n' T) (hT : T.rightB = true) (hb : T.bl.length ≤ 300) (hw : Blk w g 115 #[.slice none 0 0]) (hg : g < w.heap.size) :
    Calls Tryd.prog 80 #[.pointer (some ⟨g, 0, none⟩), .agg #[.slice A n c, .slice A' n' c']] w fun e w' => e = .returned (.string ⟨(packB T).toArray⟩) ∧ Below g w w' := by
  obtain rfl := ht.ix.int_len
  obtain rfl := ht.bl.len
  have hro : Fence.wide.round = none := rfl
  have h1 : 1 ≤ 10 := by omega
  have hap : Builtin.nextslicecap 3 0 * Tryd.t5.bytes = 3 := by kernel_rfl
  refine (callsIn_wide (n := 10)).1 ?_
  refine callsIn_of_wp_marks Tryd.func80 rfl trivial ?_ rfl
  simp only [Tryd.ntmps80, List.size_toArray, List.length_cons, List.length_nil, Nat.reduceAdd, Nat.reduceSub, Array.replicate_succ, Array.replicate_zero, List.push_toArray, List.append_toArray, List.nil_append, List.cons_append]
  gi_wp2_with fail
  obtain ⟨W, hW⟩ : ∃ W : World, W = (w.alloc (.cells #[.pointer (some ⟨g, 0, none⟩)] 111)).alloc (.cells #[.slice A T.ix.length c, .slice A' T.bl.length c'] 27) := ⟨_, rfl⟩
  obtain ⟨b1, hb1⟩ : ∃ b : Nat, b = w.heap.size := ⟨_, rfl⟩
  have kg : Blk W g 115 #[.slice none 0 0] := by rw [hW]; exact (hw.alloc _).alloc _
  have k1 : Blk W b1 111 #[.pointer (some ⟨g, 0, none⟩)] := by rw [hW, hb1]; exact (Blk.new _ _ _).alloc _
  have k2 : Blk W (b1 + 1) 27 #[.slice A T.ix.length c, .slice A' T.bl.length c'] := by rw [hW, hb1]; have := Blk.new (w.alloc (.cells #[.pointer (some ⟨g, 0, none⟩)] 111)) 27 #[.slice A T.ix.length c, .slice A' T.bl.length c']; rwa [World.size_alloc] at this
  have hbW : Below g w W := by rw [hW]; exact ((Below.refl _ _).alloc (by omega) _).alloc (by simp; omega) _
  have hsW : b1 + 2 ≤ W.heap.size := by rw [hW, hb1]; simp
  have htW := ht.keep (w' := W) (fun p hp => hbW.cell hp)
  have hgb : g < b1 := by rw [hb1]; exact hg
  rw [← hW, ← hb1]
  clear hW hw hb1 htW
  have lg := kg.lt
  have l1 := k1.lt
  have l2 := k2.lt
  have c0 := kg.cell 0
  have f0 := kg.frozen 0
  have c1 := k1.cell 0
  have c2 := k2.cell 0
  have c3 := k2.cell 1
  simp only [List.getElem?_toArray, List.getElem?_cons_zero, List.getElem?_cons_succ] at c0 c1 c2 c3
  refine wpIn_wide.2 ?_
  go_region
  have hge : 3 ≤ (Question.appendCap 3 0 5).cut (W.tape (W.drawn + 1) (Question.appendCap 3 0 5)) := grownCap_ge W.drew 3 0 5
  have hle : (Question.appendCap 3 0 5).cut (W.tape (W.drawn + 1) (Question.appendCap 3 0 5)) ≤ maxLen := grownCap_le_maxLen W.drew 3 0 5 (by decide)
  generalize (Question.appendCap 3 0 5).cut (W.tape (W.drawn + 1) (Question.appendCap 3 0 5)) = cap at *
  obtain ⟨W1, hW1⟩ : ∃ W1 : World, W1 = ((W.setCell ⟨g, 0, none⟩ (.slice (some ⟨W.heap.size, 0, none⟩) 3 cap)).alloc (.cells (#[.int .u8 86, .int .u8 84, .int .u8 49] ++ Builtin.zeroCells #[.int .u8 0] (cap - 3)) 5)).drew.drew := ⟨_, rfl⟩
  have hb1 : Below g W W1 := by rw [hW1]; exact ((((Below.refl _ _).grown (grownBy_setCell W g 0 _) (Nat.le_of_lt lg) (fun k e => by cases e; exact Nat.le_refl _)).alloc (by simp; omega) _).drew).drew
  have hWr : Wr W1 g g markB := by
    refine ⟨.slice (some ⟨W.heap.size, 0, none⟩) 3 cap, by rw [hW1]; exact ((kg.set_ 0 _).alloc _), rfl, .inr ⟨W.heap.size, cap, #[.int .u8 86, .int .u8 84, .int .u8 49] ++ Builtin.zeroCells #[.int .u8 0] (cap - 3), rfl, by omega, ?_, hge, hle, ?_, ?_⟩⟩
    · rw [hW1]
      have := heap_alloc_new (W.setCell ⟨g, 0, none⟩ (.slice (some ⟨W.heap.size, 0, none⟩) 3 cap)) (.cells (#[.int .u8 86, .int .u8 84, .int .u8 49] ++ Builtin.zeroCells #[.int .u8 0] (cap - 3)) 5)
      rwa [World.size_setCell] at this
    · simp [size_zeroCells]; omega
    · simp [byteCells, markB, byteV]
  have k1' : Blk W1 b1 111 #[.pointer (some ⟨g, 0, none⟩)] := by rw [hW1]; exact (k1.far (by simp; omega) _).alloc _
  have k2' : Blk W1 (b1 + 1) 27 #[.slice A T.ix.length c, .slice A' T.bl.length c'] := by rw [hW1]; exact (k2.far (by simp; omega) _).alloc _
  have hsW1 : b1 + 2 ≤ W1.heap.size := Nat.le_trans hsW hb1.size
  rw [← hW1]
  have hbW1 := hbW.trans hb1
  clear hW1 c0 f0 c1 c2 c3 lg l1 l2 k1 k2 kg hsW hbW hb1
  have c1 := k1'.cell 0
  have c2 := k2'.cell 0
  have c3 := k2'.cell 1
  have l1 := k1'.lt
  have l2 := k2'.lt
  simp only [List.getElem?_toArray, List.getElem?_cons_zero, List.getElem?_cons_succ] at c1 c2 c3
  gi_wp2_with fail
  refine wpIn_wide.2 ?_
  go_still_tail 6, (by kernel_rfl)
  change wpList _ _ _ _ _ W1.drew
  generalize hWd : W1.drew = W1d
  have hkd : KeptT g W1 W1d := by rw [← hWd]; exact fun _ _ _ _ _ h => h
  have hWr1 : Wr W1d g g markB := by rw [← hWd]; exact hWr
  have c1' : W1d.cell? ⟨b1, 0, none⟩ = some (.pointer (some ⟨g, 0, none⟩)) := by rw [← hWd]; exact c1
  have c3' : W1d.cell? ⟨b1 + 1, 1, none⟩ = some (.slice A' T.bl.length c') := by rw [← hWd]; exact c3
  have hb2 : Below g w W1d := by rw [← hWd]; exact hbW1.drew
  have hgl : g ≤ W1d.heap.size := by rw [← hWd]; show g ≤ W1.heap.size; omega
  have k1 := hkd b1 _ _ (by decide) (by omega) k1'
  have k2 := hkd (b1 + 1) _ _ (by decide) (by omega) k2'
  clear hWd hkd hWr c1 c2 c3 l1 l2 hbW1 k1' k2' hsW1
  go_wp2_with fail
  refine (two_b g g T.bl.length markB W1d hWr1 hgl (by omega) (by decide)).mono ?_
  rintro e W2 ⟨rfl, hw2, hkp, hkf, hkt⟩
  have hI0 : WInv w g b1 #[.slice A T.ix.length c, .slice A' T.bl.length c'] (markB ++ twoB T.bl.length ++ blksB (T.bl.take 0)) [] W2 :=
    ⟨by simpa [blksB, twoB] using hw2, hkt b1 _ _ (by decide) (by omega) k1, hkt (b1 + 1) _ _ (by decide) (by omega) k2, hb2.trans (hkp.below (Nat.le_refl _) (Nat.le_refl _) (Nat.le_refl _)), Marks.nil, hgb⟩
  clear hWr1 c1' c3' k1 k2 hb2 hgl hkp hkf hkt hw2
  have c1 := hI0.bw.cell 0
  have c2 := hI0.bt.cell 0
  have c3 := hI0.bt.cell 1
  have l1 := hI0.bw.lt
  have l2 := hI0.bt.lt
  simp only [List.getElem?_toArray, List.getElem?_cons_zero, List.getElem?_cons_succ] at c1 c2 c3
  go_wp2_with fail
  gi_wp2_with fail
  clear c1 c2 c3 l1 l2
  refine wpIn_loop (fun a W' => ∃ (k : Nat) (Ds : List Nat) (x6 x30 x31 x32 x33 x34 x49 : Value), k ≤ T.bl.length ∧ a = { tmps := #[.pointer (some ⟨g, 0, none⟩), .agg #[.slice A T.ix.length c, .slice A' T.bl.length c'], .pointer (some ⟨b1, 0, none⟩), .pointer (some ⟨b1 + 1, 0, none⟩), .string ⟨#[]⟩, undef, x6, undef, undef, .pointer (some ⟨g, 0, none⟩), .pointer (some ⟨g, 0, none⟩), .pointer (some ⟨g, 0, none⟩), .pointer (some ⟨g, 0, none⟩), .pointer (some ⟨g, 0, none⟩), .slice none 0 0, .slice (some ⟨W.heap.size, 0, none⟩) 3 cap, .pointer (some ⟨g, 0, none⟩), .pointer (some ⟨g, 0, none⟩), .pointer (some ⟨g, 0, none⟩), .pointer (some ⟨g, 0, none⟩), .pointer (some ⟨g, 0, none⟩), .pointer (some ⟨g, 0, none⟩), .pointer (some ⟨b1 + 1, 1, none⟩), .slice A' T.bl.length c', .int .i64 T.bl.length, .tuple #[], .pointer (some ⟨b1 + 1, 1, none⟩), .slice A' T.bl.length c', .int .i64 T.bl.length, .int .i64 k, x30, x31, x32, x33, x34, undef, undef, undef, undef, undef, undef, undef, undef, undef, undef, undef, undef, undef, undef, x49, undef, undef, undef, undef, undef, undef, undef, undef, undef, undef, undef, undef, undef, undef, undef, undef, undef, undef, undef, undef, undef, undef, undef, undef, undef, undef, undef, undef, undef, undef, undef, undef, undef, undef], defers := Ds.map markOf } ∧ WInv w g b1 #[.slice A T.ix.length c, .slice A' T.bl.length c'] (markB ++ twoB T.bl.length ++ blksB (T.bl.take k)) Ds W')
    (fun a _ => T.bl.length - (intOf (a.tmps.getD 29 undef)).toNat) ⟨0, [], undef, undef, undef, undef, undef, undef, undef, Nat.zero_le _, rfl, hI0⟩ ?_
  clear hI0 W2
  rintro a W2 ⟨k, Ds, x6, x30, x31, x32, x33, x34, x49, hk, rfl, hI⟩
  have htb : T.bl.length ≤ 9223372036854775807 := by omega
  by_cases hlt : k < T.bl.length
  · obtain ⟨bb, oo, A1, n1, c1, rfl, hbb, hcb, hrb⟩ := (ht.bl.below hI.below).row hlt
    have c2 := hI.bt.cell 0
    have c3 := hI.bt.cell 1
    simp only [List.getElem?_toArray, List.getElem?_cons_zero, List.getElem?_cons_succ] at c2 c3
    have hblk : blockB T.bl[k] = true := right_block hT hlt
    have hrl := hrb.int_len
    subst hrl
    have hb256 := blockB_len hblk
    have HB := hide hb256
    clear hb256
    gi_wp2_with fail
    refine ⟨trivial, (runs_in Fence.wide 9 trivial rfl A1 T.bl[k].length c1 W2).mono ?_⟩
    rintro e _ ⟨rfl, rfl⟩
    gi_wp2_with fail
    have hI3 := hI.alloc (.cells #[.slice A1 T.bl[k].length c1] 24)
    have kB : Blk (W2.alloc (.cells #[.slice A1 T.bl[k].length c1] 24)) W2.heap.size 24 #[.slice A1 T.bl[k].length c1] := Blk.new _ _ _
    have hgB' : g < W2.heap.size := by have := hI.bw.lt; have := hI.lt; omega
    generalize hBB : W2.heap.size = Bs at *
    have hgB := hgB'
    rw [← hBB] at hgB'
    generalize hW3 : W2.alloc (.cells #[.slice A1 T.bl[k].length c1] 24) = W3 at *
    have hrb3 : Rds W3 g 1 A1 T.bl[k].length (intCells T.bl[k]) := by rw [← hW3]; exact hrb.below ((Below.refl _ _).alloc (Nat.le_of_lt hgB') _)
    clear hW3 c2 c3 hI hcb hrb hBB hgB' W2
    have hBl := kB.lt
    have hBs := kB.cell 0
    simp only [List.getElem?_toArray, List.getElem?_cons_zero] at hBs
    have hok := fun x hx => block_runs hblk x hx
    obtain ⟨L, hL⟩ : ∃ L, L = markB ++ twoB T.bl.length ++ blksB (T.bl.take k) := ⟨_, rfl⟩
    have hLl : L.length ≤ 1000000 := by rw [hL]; exact len_body T k hT hb
    rw [← hL] at hI3
    have HL := hide hL
    clear hL
    have HL2 := hide hLl
    clear hLl
    refine wpIn_rangeFunc_ownH hro h1 (gf := 82) (lb := #[.pointer (some ⟨Bs, 0, none⟩)]) rfl trivial (enters_of Tryd.func82 (by kernel_rfl) rfl)
      (runs_stopsS (fun x => 1 ≤ x.1 ∧ x.1 ≤ 256 ∧ 0 ≤ x.2 ∧ x.2 ≤ 31) 9 (by omega) T.bl[k] hok Bs g A1 T.bl[k].length c1 W3 W3 hrb3 (Below.refl _ _) (by omega) hBs hBl) KRows.trans (KRows.put (by omega)) (Below.refl _ _) (fun _ => rfl)
      (fun pre W => WInv w g b1 #[.slice A T.ix.length c, .slice (some ⟨bb, oo, none⟩) T.bl.length c'] (L ++ blkB (pre.map Subtype.val)) Ds W ∧ Blk W Bs 24 #[.slice A1 T.bl[k].length c1] ∧ W3.heap.size ≤ W.heap.size)
      (fun _ _ _ => False)
      (fun s X Y row hs hg hrw => ⟨hs.1.kept hg (by omega) hI3.marks.lt hrw, hs.2.1.kept hg (fun r e => (hrw r e).2), Nat.le_trans hs.2.2 hg.size⟩)
      (fun _ _ _ _ _ hs _ _ => hs)
      ⟨by simpa [blkB] using hI3, kB, Nat.le_refl _⟩
      (fun x a' Wx => ∃ b, W3.heap.size ≤ b ∧ Blk Wx b 53 #[.int .i64 x.1.1, .int .i64 x.1.2] ∧ a' = { tmps := #[.pointer (some ⟨g, 0, none⟩), .agg #[.slice A T.ix.length c, .slice (some ⟨bb, oo, none⟩) T.bl.length c'], .pointer (some ⟨b1, 0, none⟩), .pointer (some ⟨b1 + 1, 0, none⟩), .string ⟨#[]⟩, undef, .slice A1 T.bl[k].length c1, .pointer (some ⟨b, 0, none⟩), undef, .pointer (some ⟨g, 0, none⟩), .pointer (some ⟨g, 0, none⟩), .pointer (some ⟨g, 0, none⟩), .pointer (some ⟨g, 0, none⟩), .pointer (some ⟨g, 0, none⟩), .slice none 0 0, .slice (some ⟨W.heap.size, 0, none⟩) 3 cap, .pointer (some ⟨g, 0, none⟩), .pointer (some ⟨g, 0, none⟩), .pointer (some ⟨g, 0, none⟩), .pointer (some ⟨g, 0, none⟩), .pointer (some ⟨g, 0, none⟩), .pointer (some ⟨g, 0, none⟩), .pointer (some ⟨b1 + 1, 1, none⟩), .slice (some ⟨bb, oo, none⟩) T.bl.length c', .int .i64 T.bl.length, .tuple #[], .pointer (some ⟨b1 + 1, 1, none⟩), .slice (some ⟨bb, oo, none⟩) T.bl.length c', .int .i64 T.bl.length, .int .i64 k, .bool true, .pointer (some ⟨bb, oo + k, none⟩), .slice A1 T.bl[k].length c1, .slice A1 T.bl[k].length c1, .func (.func 82) #[] #[.pointer (some ⟨Bs, 0, none⟩)], runV x.1, undef, undef, undef, undef, undef, undef, undef, undef, undef, undef, undef, undef, undef, x49, undef, undef, undef, undef, undef, undef, undef, undef, undef, undef, undef, undef, undef, undef, undef, undef, undef, undef, undef, undef, undef, undef, undef, undef, undef, undef, undef, undef, undef, undef, undef, undef, undef, undef], defers := [] })
      (fun x a' s X Y row hs hg hrw => by
        obtain ⟨b, q1, q2, q3⟩ := hs
        exact ⟨b, q1, q2.kept hg (fun r e => (hrw r e).2), q3⟩)
      ?assign ?body ?done ?stop
    case assign =>
      rintro lp pre ⟨⟨x1, x2⟩, hx⟩ W K ⟨q1, q2, q3⟩ hK
      dsimp only [runEnc, runV]
      gi_wp2
      have hg := World.grownBy_alloc W (.cells #[.int .i64 x1, .int .i64 x2] 53) none
      exact hK _ _ (KeepsFrom.of_grownBy hg (by simp)) ⟨(Below.refl _ _).alloc (by omega) _, fun v hv => (World.cell?_alloc_lt _ _ _ (World.block_lt_of_cell? _ _ hv)).trans hv⟩
        ⟨q1.alloc _, q2.alloc _, by simp; omega⟩ ⟨W.heap.size, q3, Blk.new _ _ _, rfl⟩
    case body =>
      rintro lp pre ⟨⟨x1, x2⟩, hx1, hx2, hx3, hx4⟩ a' W hlp hrec ⟨q1, q2, q3⟩ ⟨b, hbb', kb, rfl⟩ hltN
      obtain ⟨m, rfl⟩ : ∃ m : Nat, x1 = (m : Int) + 1 := ⟨(x1 - 1).toNat, by omega⟩
      obtain ⟨v, rfl⟩ : ∃ v : Nat, x2 = (v : Int) := ⟨x2.toNat, by omega⟩
      have hm : m < 256 := by omega
      have hv : v < 256 := by omega
      dsimp only [runV] at kb ⊢
      gi_wp2_with fail
      have e1 := q1.bw.cell 0
      have d0 := kb.cell 0
      have d1 := kb.cell 1
      simp only [List.getElem?_toArray, List.getElem?_cons_zero, List.getElem?_cons_succ] at e1 d0 d1
      refine wpIn_round_heads (fun w' => w'.cell? ⟨b1, 0, none⟩ = some (.pointer (some ⟨g, 0, none⟩)) ∧ w'.cell? ⟨b, 0, none⟩ = some (.int .i64 ((m : Int) + 1))) 6 1 (by kernel_rfl) (by kernel_rfl) (by kernel_rfl) (by rintro ⟨aa, ww, hh⟩; exact hh) (fun _ _ d _ _ h => by cases d <;> exact h) ⟨e1, d0⟩ ?_
      simp only [List.take_succ_cons, List.take_zero, List.drop_succ_cons, List.drop_zero]
      refine heads_step (v := .pointer (some ⟨g, 0, none⟩)) rfl (fun W' hS' => by obtain ⟨f1, f2⟩ := hS'; go_simp) ?_
      go_frame
      refine heads_step (v := .pointer (some ⟨g, 0, none⟩)) rfl (fun W' hS' => by go_simp) ?_
      go_frame
      refine heads_step (v := .pointer (some ⟨g, 0, none⟩)) rfl (fun W' hS' => by go_simp) ?_
      go_frame
      refine heads_step (v := .pointer (some ⟨b, 0, none⟩)) rfl (fun W' hS' => by go_simp) ?_
      go_frame
      refine heads_step (v := .int .i64 ((m : Int) + 1)) rfl (fun W' hS' => by obtain ⟨f1, f2⟩ := hS'; go_simp) ?_
      go_frame
      refine heads_step (v := .int .i64 m) rfl (fun W' hS' => by go_simp; try (exact IntWalk.i64_in _ (by omega))) ?_
      go_frame
      refine heads_nil ?_
      refine mid_step rfl (fun K hK1 => ?_)
      go_simp
      have hgs : g ≤ W.drew.heap.size := by show g ≤ W.heap.size; have := q1.bw.lt; have := q1.lt; omega
      have hl0 : (L ++ blkB (pre.map Subtype.val)).length ≤ 900000000 := by
        rw [List.length_append, blkB_len, List.length_map]
        have := HL2.out
        have h5 := HB.out
        have h6 : pre.length < T.bl[k].length := hltN
        omega
      refine (one_b g g m _ W.drew q1.drew.wr hgs hm (by omega)).mono ?_
      intro e W4 hW4
      obtain rfl := hW4.1
      have r1 := q1.drew.wrote hW4
      have rb := hW4.2.2.2.2 b _ _ (by decide) (by omega) kb
      have rB := hW4.2.2.2.2 Bs _ _ (by decide) (by omega) q2
      have e1' := r1.bw.cell 0
      have d0' := rb.cell 0
      have d1' := rb.cell 1
      simp only [List.getElem?_toArray, List.getElem?_cons_zero, List.getElem?_cons_succ] at e1' d0' d1'
      refine hK1 _ _ ⟨⟨e1', d0'⟩, ?_⟩
      refine mid_nil ?_
      go_wp2_with fail
      gi_wp2_with fail
      refine wpIn_round_heads (fun w' => w'.cell? ⟨b1, 0, none⟩ = some (.pointer (some ⟨g, 0, none⟩)) ∧ w'.cell? ⟨b, 1, none⟩ = some (.int .i64 (v : Int))) 5 1 (by kernel_rfl) (by kernel_rfl) (by kernel_rfl) (by rintro ⟨aa, ww, hh⟩; exact hh) (fun _ _ d _ _ h => by cases d <;> exact h) ⟨e1', d1'⟩ ?_
      simp only [List.take_succ_cons, List.take_zero, List.drop_succ_cons, List.drop_zero]
      refine heads_step (v := .pointer (some ⟨g, 0, none⟩)) rfl (fun W' hS' => by obtain ⟨f1, f2⟩ := hS'; go_simp) ?_
      go_frame
      refine heads_step (v := .pointer (some ⟨g, 0, none⟩)) rfl (fun W' hS' => by go_simp) ?_
      go_frame
      refine heads_step (v := .pointer (some ⟨g, 0, none⟩)) rfl (fun W' hS' => by go_simp) ?_
      go_frame
      refine heads_step (v := .pointer (some ⟨b, 1, none⟩)) rfl (fun W' hS' => by go_simp) ?_
      go_frame
      refine heads_step (v := .int .i64 v) rfl (fun W' hS' => by obtain ⟨f1, f2⟩ := hS'; go_simp) ?_
      go_frame
      refine heads_nil ?_
      refine mid_step rfl (fun K hK2 => ?_)
      go_simp
      refine (one_b g g v _ W4.drew r1.drew.wr (Nat.le_trans hgs hW4.len) hv (by have h9 : (L ++ blkB (pre.map Subtype.val) ++ [UInt8.ofNat m]).length = (L ++ blkB (pre.map Subtype.val)).length + 1 := List.length_append; omega)).mono ?_
      intro e W5 hW5
      obtain rfl := hW5.1
      have s1 := r1.drew.wrote hW5
      have sb := hW5.2.2.2.2 b _ _ (by decide) (by omega) rb
      have sB := hW5.2.2.2.2 Bs _ _ (by decide) (by omega) rB
      have e2' := s1.bw.cell 0
      have d2' := sb.cell 1
      simp only [List.getElem?_toArray, List.getElem?_cons_zero, List.getElem?_cons_succ] at e2' d2'
      refine hK2 _ _ ⟨⟨e2', d2'⟩, ?_⟩
      refine mid_nil ?_
      go_wp2_with fail
      gi_wp2_with fail
      refine ⟨⟨Nat.le_trans hW4.len hW5.len, fun j o _ hj ho => hW5.2.2.2.1.same j o (Nat.zero_le _) (hW4.2.2.2.1.same j o (Nat.zero_le _) hj ho) ho⟩,
        ⟨((Below.refl g W).drew.trans (hW4.2.2.1.below (Nat.le_refl _) (Nat.le_refl _) (Nat.le_refl _))).drew.trans (hW5.2.2.1.below (Nat.le_refl _) (Nat.le_refl _) (Nat.le_refl _)), fun u hu => (sB.cell 0).trans ((q2.cell 0).symm.trans hu)⟩, ?_, sB, Nat.le_trans q3 (Nat.le_trans hW4.len hW5.len)⟩
      simpa [blkB, List.append_assoc] using s1
    case done =>
      rintro D ys W hD hys ⟨q1, q2, q3⟩ hK
      gi_wp2_with fail
      have e1 : ((k + 1 : Nat) : Int) = (k : Int) + 1 := by omega
      refine ⟨⟨k + 1, D :: Ds, _, _, _, _, _, _, _, by omega, by rw [e1]; rfl, ⟨?_, q1.bw, q1.bt, q1.below, q1.marks.cons (fun d hd => Nat.lt_of_lt_of_le (hI3.marks.lt d hd) hD) (by omega) hK, q1.lt⟩⟩, by simp [intOf]; omega⟩
      have h8 := q1.wr
      rw [hys, HL.out] at h8
      rw [blksB_take T.bl hlt, ← List.append_assoc]
      exact h8
    case stop =>
      rintro D c pre W _ _ h _
      exact h.elim
  · obtain rfl : k = T.bl.length := by omega
    have c2 := hI.bt.cell 0
    simp only [List.getElem?_toArray, List.getElem?_cons_zero] at c2
    have hrb := ht.ix.below hI.below
    gi_wp2_with fail
    refine ⟨trivial, (runs_in Fence.wide 9 trivial rfl A T.ix.length c W2).mono ?_⟩
    rintro e _ ⟨rfl, rfl⟩
    gi_wp2_with fail
    have hI3 := hI.alloc (.cells #[.slice A T.ix.length c] 24)
    have kB : Blk (W2.alloc (.cells #[.slice A T.ix.length c] 24)) W2.heap.size 24 #[.slice A T.ix.length c] := Blk.new _ _ _
    have hgB' : g < W2.heap.size := by have := hI.bw.lt; have := hI.lt; omega
    generalize hBB : W2.heap.size = Bs at *
    have hgB := hgB'
    rw [← hBB] at hgB'
    generalize hW3 : W2.alloc (.cells #[.slice A T.ix.length c] 24) = W3 at *
    have hrb3 : Rds W3 g 1 A T.ix.length (intCells T.ix) := by rw [← hW3]; exact hrb.below ((Below.refl _ _).alloc (Nat.le_of_lt hgB') _)
    clear hW3 c2 hI hrb hBB hgB' W2
    have hBl := kB.lt
    have hBs := kB.cell 0
    simp only [List.getElem?_toArray, List.getElem?_cons_zero] at hBs
    have hok := fun x hx => index_runs hT hb x hx
    have hil := right_ix hT
    obtain ⟨L, hL⟩ : ∃ L, L = markB ++ twoB T.bl.length ++ blksB (T.bl.take T.bl.length) := ⟨_, rfl⟩
    have hLl : L.length ≤ 1000000 := by rw [hL]; exact len_body T _ hT hb
    rw [← hL] at hI3
    have HL := hide hL
    clear hL
    have HL2 := hide hLl
    clear hLl
    have HB := hide hil
    clear hil
    refine wpIn_rangeFunc_ownH hro h1 (gf := 82) (lb := #[.pointer (some ⟨Bs, 0, none⟩)]) rfl trivial (enters_of Tryd.func82 (by kernel_rfl) rfl)
      (runs_stopsS (fun x => 1 ≤ x.1 ∧ x.1 ≤ 65536 ∧ 0 ≤ x.2 ∧ x.2 ≤ 65535) 9 (by omega) T.ix hok Bs g A T.ix.length c W3 W3 hrb3 (Below.refl _ _) (by omega) hBs hBl) KRows.trans (KRows.put (by omega)) (Below.refl _ _) (fun _ => rfl)
      (fun pre W => WInv w g b1 #[.slice A T.ix.length c, .slice A' T.bl.length c'] (L ++ idxB (pre.map Subtype.val)) Ds W ∧ Blk W Bs 24 #[.slice A T.ix.length c] ∧ W3.heap.size ≤ W.heap.size)
      (fun _ _ _ => False)
      (fun s X Y row hs hg hrw => ⟨hs.1.kept hg (by omega) hI3.marks.lt hrw, hs.2.1.kept hg (fun r e => (hrw r e).2), Nat.le_trans hs.2.2 hg.size⟩)
      (fun _ _ _ _ _ hs _ _ => hs)
      ⟨by simpa [idxB] using hI3, kB, Nat.le_refl _⟩
      (fun x a' Wx => ∃ b, W3.heap.size ≤ b ∧ Blk Wx b 53 #[.int .i64 x.1.1, .int .i64 x.1.2] ∧ a' = { tmps := #[.pointer (some ⟨g, 0, none⟩), .agg #[.slice A T.ix.length c, .slice A' T.bl.length c'], .pointer (some ⟨b1, 0, none⟩), .pointer (some ⟨b1 + 1, 0, none⟩), .string ⟨#[]⟩, undef, x6, undef, .pointer (some ⟨b, 0, none⟩), .pointer (some ⟨g, 0, none⟩), .pointer (some ⟨g, 0, none⟩), .pointer (some ⟨g, 0, none⟩), .pointer (some ⟨g, 0, none⟩), .pointer (some ⟨g, 0, none⟩), .slice none 0 0, .slice (some ⟨W.heap.size, 0, none⟩) 3 cap, .pointer (some ⟨g, 0, none⟩), .pointer (some ⟨g, 0, none⟩), .pointer (some ⟨g, 0, none⟩), .pointer (some ⟨g, 0, none⟩), .pointer (some ⟨g, 0, none⟩), .pointer (some ⟨g, 0, none⟩), .pointer (some ⟨b1 + 1, 1, none⟩), .slice A' T.bl.length c', .int .i64 T.bl.length, .tuple #[], .pointer (some ⟨b1 + 1, 1, none⟩), .slice A' T.bl.length c', .int .i64 T.bl.length, .int .i64 T.bl.length, .bool false, x31, x32, x33, x34, undef, undef, undef, undef, undef, undef, undef, undef, undef, undef, undef, undef, undef, undef, x49, .pointer (some ⟨b1 + 1, 0, none⟩), .slice A T.ix.length c, .func (.func 82) #[] #[.pointer (some ⟨Bs, 0, none⟩)], runV x.1, undef, undef, undef, undef, undef, undef, undef, undef, undef, undef, undef, undef, undef, undef, undef, undef, undef, undef, undef, undef, undef, undef, undef, undef, undef, undef, undef, undef, undef, undef], defers := [] })
      (fun x a' s X Y row hs hg hrw => by
        obtain ⟨b, q1, q2, q3⟩ := hs
        exact ⟨b, q1, q2.kept hg (fun r e => (hrw r e).2), q3⟩)
      ?assign ?body ?done ?stop
    case assign =>
      rintro lp pre ⟨⟨x1, x2⟩, hx⟩ W K ⟨q1, q2, q3⟩ hK
      dsimp only [runEnc, runV]
      gi_wp2
      have hg := World.grownBy_alloc W (.cells #[.int .i64 x1, .int .i64 x2] 53) none
      exact hK _ _ (KeepsFrom.of_grownBy hg (by simp)) ⟨(Below.refl _ _).alloc (by omega) _, fun v hv => (World.cell?_alloc_lt _ _ _ (World.block_lt_of_cell? _ _ hv)).trans hv⟩
        ⟨q1.alloc _, q2.alloc _, by simp; omega⟩ ⟨W.heap.size, q3, Blk.new _ _ _, rfl⟩
    case body =>
      rintro lp pre ⟨⟨x1, x2⟩, hx1, hx2, hx3, hx4⟩ a' W hlp hrec ⟨q1, q2, q3⟩ ⟨b, hbb', kb, rfl⟩ hltN
      obtain ⟨m, rfl⟩ : ∃ m : Nat, x1 = (m : Int) + 1 := ⟨(x1 - 1).toNat, by omega⟩
      obtain ⟨v, rfl⟩ : ∃ v : Nat, x2 = (v : Int) := ⟨x2.toNat, by omega⟩
      have hm : m < 65536 := by omega
      have hv : v < 65536 := by omega
      dsimp only [runV] at kb ⊢
      gi_wp2_with fail
      have e1 := q1.bw.cell 0
      have d0 := kb.cell 0
      have d1 := kb.cell 1
      simp only [List.getElem?_toArray, List.getElem?_cons_zero, List.getElem?_cons_succ] at e1 d0 d1
      refine wpIn_round_heads (fun w' => w'.cell? ⟨b1, 0, none⟩ = some (.pointer (some ⟨g, 0, none⟩)) ∧ w'.cell? ⟨b, 0, none⟩ = some (.int .i64 ((m : Int) + 1))) 6 1 (by kernel_rfl) (by kernel_rfl) (by kernel_rfl) (by rintro ⟨aa, ww, hh⟩; exact hh) (fun _ _ d _ _ h => by cases d <;> exact h) ⟨e1, d0⟩ ?_
      simp only [List.take_succ_cons, List.take_zero, List.drop_succ_cons, List.drop_zero]
      refine heads_step (v := .pointer (some ⟨g, 0, none⟩)) rfl (fun W' hS' => by obtain ⟨f1, f2⟩ := hS'; go_simp) ?_
      go_frame
      refine heads_step (v := .pointer (some ⟨g, 0, none⟩)) rfl (fun W' hS' => by go_simp) ?_
      go_frame
      refine heads_step (v := .pointer (some ⟨g, 0, none⟩)) rfl (fun W' hS' => by go_simp) ?_
      go_frame
      refine heads_step (v := .pointer (some ⟨b, 0, none⟩)) rfl (fun W' hS' => by go_simp) ?_
      go_frame
      refine heads_step (v := .int .i64 ((m : Int) + 1)) rfl (fun W' hS' => by obtain ⟨f1, f2⟩ := hS'; go_simp) ?_
      go_frame
      refine heads_step (v := .int .i64 m) rfl (fun W' hS' => by go_simp; try (exact IntWalk.i64_in _ (by omega))) ?_
      go_frame
      refine heads_nil ?_
      refine mid_step rfl (fun K hK1 => ?_)
      go_simp
      have hgs : g ≤ W.drew.heap.size := by show g ≤ W.heap.size; have := q1.bw.lt; have := q1.lt; omega
      have hl0 : (L ++ idxB (pre.map Subtype.val)).length ≤ 900000000 := by
        rw [List.length_append, idxB_len, List.length_map]
        have := HL2.out
        have h5 := HB.out
        have h6 : pre.length < T.ix.length := hltN
        omega
      refine (two_b g g m _ W.drew q1.drew.wr hgs hm (by omega)).mono ?_
      intro e W4 hW4
      obtain rfl := hW4.1
      have r1 := q1.drew.wrote hW4
      have rb := hW4.2.2.2.2 b _ _ (by decide) (by omega) kb
      have rB := hW4.2.2.2.2 Bs _ _ (by decide) (by omega) q2
      have e1' := r1.bw.cell 0
      have d0' := rb.cell 0
      have d1' := rb.cell 1
      simp only [List.getElem?_toArray, List.getElem?_cons_zero, List.getElem?_cons_succ] at e1' d0' d1'
      refine hK1 _ _ ⟨⟨e1', d0'⟩, ?_⟩
      refine mid_nil ?_
      go_wp2_with fail
      gi_wp2_with fail
      refine wpIn_round_heads (fun w' => w'.cell? ⟨b1, 0, none⟩ = some (.pointer (some ⟨g, 0, none⟩)) ∧ w'.cell? ⟨b, 1, none⟩ = some (.int .i64 (v : Int))) 5 1 (by kernel_rfl) (by kernel_rfl) (by kernel_rfl) (by rintro ⟨aa, ww, hh⟩; exact hh) (fun _ _ d _ _ h => by cases d <;> exact h) ⟨e1', d1'⟩ ?_
      simp only [List.take_succ_cons, List.take_zero, List.drop_succ_cons, List.drop_zero]
      refine heads_step (v := .pointer (some ⟨g, 0, none⟩)) rfl (fun W' hS' => by obtain ⟨f1, f2⟩ := hS'; go_simp) ?_
      go_frame
      refine heads_step (v := .pointer (some ⟨g, 0, none⟩)) rfl (fun W' hS' => by go_simp) ?_
      go_frame
      refine heads_step (v := .pointer (some ⟨g, 0, none⟩)) rfl (fun W' hS' => by go_simp) ?_
      go_frame
      refine heads_step (v := .pointer (some ⟨b, 1, none⟩)) rfl (fun W' hS' => by go_simp) ?_
      go_frame
      refine heads_step (v := .int .i64 v) rfl (fun W' hS' => by obtain ⟨f1, f2⟩ := hS'; go_simp) ?_
      go_frame
      refine heads_nil ?_
      refine mid_step rfl (fun K hK2 => ?_)
      go_simp
      refine (two_b g g v _ W4.drew r1.drew.wr (Nat.le_trans hgs hW4.len) hv (by have h9 : (L ++ idxB (pre.map Subtype.val) ++ [UInt8.ofNat (m / 256), UInt8.ofNat (m % 256)]).length = (L ++ idxB (pre.map Subtype.val)).length + 2 := List.length_append; omega)).mono ?_
      intro e W5 hW5
      obtain rfl := hW5.1
      have s1 := r1.drew.wrote hW5
      have sb := hW5.2.2.2.2 b _ _ (by decide) (by omega) rb
      have sB := hW5.2.2.2.2 Bs _ _ (by decide) (by omega) rB
      have e2' := s1.bw.cell 0
      have d2' := sb.cell 1
      simp only [List.getElem?_toArray, List.getElem?_cons_zero, List.getElem?_cons_succ] at e2' d2'
      refine hK2 _ _ ⟨⟨e2', d2'⟩, ?_⟩
      refine mid_nil ?_
      go_wp2_with fail
      gi_wp2_with fail
      refine ⟨⟨Nat.le_trans hW4.len hW5.len, fun j o _ hj ho => hW5.2.2.2.1.same j o (Nat.zero_le _) (hW4.2.2.2.1.same j o (Nat.zero_le _) hj ho) ho⟩,
        ⟨((Below.refl g W).drew.trans (hW4.2.2.1.below (Nat.le_refl _) (Nat.le_refl _) (Nat.le_refl _))).drew.trans (hW5.2.2.1.below (Nat.le_refl _) (Nat.le_refl _) (Nat.le_refl _)), fun u hu => (sB.cell 0).trans ((q2.cell 0).symm.trans hu)⟩, ?_, sB, Nat.le_trans q3 (Nat.le_trans hW4.len hW5.len)⟩
      simpa [idxB, twoB, List.append_assoc] using s1
    case done =>
      rintro D ys W hD hys ⟨q1, q2, q3⟩ hK
      have c1' := q1.bw.cell 0
      simp only [List.getElem?_toArray, List.getElem?_cons_zero] at c1'
      gi_wp2_with fail
      have hLb : L ++ idxB (runsOf T.ix) = bodyB T := by rw [HL.out, List.take_length]; rfl
      rw [hys, hLb] at q1
      have hM : Marks g W (D :: Ds) := q1.marks.cons (fun d hd => Nat.lt_of_lt_of_le (hI3.marks.lt d hd) hD) (by omega) hK
      have hlen := len_all T hT hb
      have hpos : 0 < (bodyB T).length := by simp [bodyB, markB]
      clear hLb HL HL2 HB hI3 hok kB hrb3 hBl hBs q2 hK hys
      obtain ⟨vv, kg, hown⟩ := q1.wr
      obtain ⟨g', cap', rfl⟩ := own_some' hown hpos
      have hcell := own_bytes hown
      have cg := kg.cell 0
      simp only [List.getElem?_toArray, List.getElem?_cons_zero] at cg
      have hcv := fun (W' : World) (hc : ∀ j (hj : j < (bodyB T).length), W'.cell? ((⟨g', 0, none⟩ : Addr).add j) = some (.int .u8 ((bodyB T)[j].toNat : Int))) => run_convert_bytes_back (P := Tryd.prog) W' 45 9 5 ⟨g', 0, none⟩ cap' (bodyB T) Tryd.underlying45 Tryd.underlying5 Tryd.underlying9 hc
      have HO := hide hown
      clear hown
      generalize hbod : bodyB T = bod at *
      have HBD := hide hbod
      clear hbod
      refine Code.wpIn_mono (Q := Exit.then _ fun _ _ _ => False) (fun e a w h => by cases e <;> first | exact h | exact False.elim h) ?_
      refine wpIn_wide.2 ?_
      refine wp_region_headsT (fun w' => w'.cell? ⟨b1, 0, none⟩ = some (.pointer (some ⟨g, 0, none⟩)) ∧ w'.cell? ⟨g, 0, none⟩ = some (.slice (some ⟨g', 0, none⟩) bod.length cap') ∧ ∀ j (hj : j < bod.length), w'.cell? ((⟨g', 0, none⟩ : Addr).add j) = some (.int .u8 (bod[j].toNat : Int))) 9 1 (by kernel_rfl) (by kernel_rfl) (fun _ _ d _ _ h => by cases d <;> exact h) ⟨c1', cg, hcell⟩ ?_
      simp only [List.take_succ_cons, List.take_zero, List.drop_succ_cons, List.drop_zero]
      refine heads_step (v := .pointer (some ⟨g, 0, none⟩)) rfl (fun W' hS' => by obtain ⟨f1, f2, f3⟩ := hS'; go_simp) ?_
      go_frame
      refine heads_step (v := .pointer (some ⟨g, 0, none⟩)) rfl (fun W' hS' => by go_simp) ?_
      go_frame
      refine heads_step (v := .pointer (some ⟨g, 0, none⟩)) rfl (fun W' hS' => by go_simp) ?_
      go_frame
      refine heads_step (v := .pointer (some ⟨g, 0, none⟩)) rfl (fun W' hS' => by obtain ⟨f1, f2, f3⟩ := hS'; go_simp) ?_
      go_frame
      refine heads_step (v := .pointer (some ⟨g, 0, none⟩)) rfl (fun W' hS' => by go_simp) ?_
      go_frame
      refine heads_step (v := .pointer (some ⟨g, 0, none⟩)) rfl (fun W' hS' => by go_simp) ?_
      go_frame
      refine heads_step (v := .pointer (some ⟨g, 0, none⟩)) rfl (fun W' hS' => by go_simp) ?_
      go_frame
      refine heads_step (v := .slice (some ⟨g', 0, none⟩) bod.length cap') rfl (fun W' hS' => by obtain ⟨f1, f2, f3⟩ := hS'; go_simp) ?_
      go_frame
      refine heads_step (v := .string ⟨bod.toArray⟩) rfl (fun W' hS' => by obtain ⟨f1, f2, f3⟩ := hS'; have f4 := hcv W' f3; go_simp) ?_
      go_frame
      refine heads_nil ?_
      refine mid_step rfl (fun K hK1 => ?_)
      go_simp
      have hsz : (⟨bod.toArray⟩ : ByteArray).size ≤ 1000000 := by show bod.toArray.size ≤ _; simp; omega
      refine (sum_any ⟨bod.toArray⟩ W.drew hsz).mono ?_
      rintro e W4 ⟨rfl, hb4⟩
      have q4 : WInv w g b1 #[.slice A T.ix.length c, .slice A' T.bl.length c'] bod (D :: Ds) W4 := by
        have hd := q1.drew
        refine ⟨hd.wr.below hb4, hd.bw.below hb4 hd.bw.lt, hd.bt.below hb4 hd.bt.lt, hd.below.trans (hb4.mono (by show g ≤ W.heap.size; have := q1.bw.lt; have := q1.lt; omega)), ?_, hd.lt⟩
        exact ⟨hM.1, fun d hd' => ⟨(hM.2 d hd').1, (hb4.block d (hM.lt d hd')).trans (hM.2 d hd').2⟩⟩
      refine hK1 _ _ ⟨⟨(hb4.cell (p := ⟨b1, 0, none⟩) q1.bw.lt).trans c1', (hb4.cell (p := ⟨g, 0, none⟩) kg.lt).trans cg, fun j hj => (hb4.cell (p := (⟨g', 0, none⟩ : Addr).add j) (by have h0 := (HO.out.lt g' rfl).2; rw [show ((⟨g', 0, none⟩ : Addr).add j).block = g' by unfold Addr.add; split <;> rfl]; exact h0)).trans (hcell j hj)⟩, ?_⟩
      refine mid_nil ?_
      have hsm : (sumB (⟨bod.toArray⟩ : ByteArray).data.toList % 65536) = sumB bod % 65536 := by simp
      rw [hsm]
      have hlt6 : sumB bod % 65536 < 65536 := Nat.mod_lt _ (by omega)
      go_wp2_with fail
      refine (two_b g g (sumB bod % 65536) bod W4 q4.wr (by have := q4.bw.lt; have := q4.lt; omega) hlt6 (by omega)).mono ?_
      intro e W5 hW5
      obtain rfl := hW5.1
      have q5 := q4.wrote hW5
      go_wp2_with fail
      clear c1' cg hcell hcv
      obtain ⟨v5, kg5, hown5⟩ := q5.wr
      have hlen5 : (bod ++ [UInt8.ofNat (sumB bod % 65536 / 256), UInt8.ofNat (sumB bod % 65536 % 256)]).length = bod.length + 2 := List.length_append
      obtain ⟨g5, cap5, rfl⟩ := own_some' hown5 (by omega)
      have hcell5 := own_bytes hown5
      have hcv5 := run_convert_bytes_back (P := Tryd.prog) W5 45 9 5 ⟨g5, 0, none⟩ cap5 _ Tryd.underlying45 Tryd.underlying5 Tryd.underlying9 hcell5
      have HR : Hid (packB T = bod ++ [UInt8.ofNat (sumB bod % 65536 / 256), UInt8.ofNat (sumB bod % 65536 % 256)]) := hide (by unfold packB; rw [HBD.out]; rfl)
      have c1' := q5.bw.cell 0
      have cg := kg5.cell 0
      simp only [List.getElem?_toArray, List.getElem?_cons_zero] at c1' cg
      have hM5 := q5.marks
      have hb5 := q5.below
      clear hown5 hcell5 hlen5 q5 q4 q1
      generalize bod ++ [UInt8.ofNat (sumB bod % 65536 / 256), UInt8.ofNat (sumB bod % 65536 % 256)] = all at *
      gi_wp2_with fail
      refine leaves_marks (D :: Ds) W5 hM5 (fun w' hw' => ?_)
      refine ⟨_, by simp [results, Tryd.results80, go_sem]; rfl, ?_⟩
      exact ⟨by rw [HR.out], hb5.trans hw'⟩
    case stop =>
      rintro D c pre W _ _ h _
      exact h.elim
end Go.Proofs.YtibndkkbmgbogaaDoor
