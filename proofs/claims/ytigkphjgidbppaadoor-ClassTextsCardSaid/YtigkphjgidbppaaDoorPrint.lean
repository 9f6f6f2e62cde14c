/- The program's (*class.reader).print: a set's text. Conditions: the reader's list reads as texts; the set is right. -/
import Derived.Test.YtigkphjgidbppaaDoorList
import Derived.Test.YtigkphjgidbppaaDoorMixT
import Derived.Test.YtigkphjgidbppaaDoorMapL
import Derived.Deep.CutRange
import Derived.Deep.Cut
import Derived.Deep.CutBlock
import Derived.Deep.DeepCutAuto
namespace Go.Proofs.YtigkphjgidbppaaDoor
open Go Go.RowKit

/-- a set's names, joined -/
def listB (set : Int) (l : List ByteArray) : ByteArray := joinB (namesOf l (classesB set))
/-- a set's text -/
def printB (set : Int) (l : List ByteArray) : ByteArray :=
  if (classesB set).length = l.length then ⟨#[46]⟩
  else if (classesB set).length = 1 then listB set l
  else if l.length < 2 * (classesB set).length then ⟨#[91, 94]⟩ ++ listB (notB set l.length) l ++ ⟨#[93]⟩
  else ⟨#[91]⟩ ++ listB set l ++ ⟨#[93]⟩

theorem flat_len (sep : List UInt8) : ∀ xs : List ByteArray, (Lib.joinTail sep (xs.map (·.data.toList))).length = (xs.map fun x => sep.length + x.size).sum
  | [] => rfl
  | x :: r => by
    have ih := flat_len sep r
    unfold Lib.joinTail at ih ⊢
    simp only [List.map_cons, List.flatten_cons, List.length_append, List.sum_cons, ih]
    rfl
theorem sum_le (xs : List ByteArray) (m : Nat) (h : ∀ x ∈ xs, x.size ≤ m) : (xs.map fun x => [(32 : UInt8)].length + x.size).sum ≤ xs.length * (m + 1) := by
  induction xs with
  | nil => simp
  | cons x r ih =>
    have h1 := h x (by simp)
    have h2 := ih fun y hy => h y (by simp [hy])
    simp only [List.map_cons, List.sum_cons, List.length_cons, List.length_nil, Nat.zero_add, Nat.add_mul, Nat.one_mul] at h2 ⊢
    omega
theorem join_size (xs : List ByteArray) (m : Nat) (h : ∀ x ∈ xs, x.size ≤ m) : (joinB xs).size ≤ xs.length * (m + 1) := by
  cases xs with
  | nil => simp [joinB, Lib.join_nil, ByteArray.size]
  | cons x r =>
    have h1 := h x (by simp)
    have h2 := sum_le r m fun y hy => h y (by simp [hy])
    have h3 := flat_len [32] r
    unfold joinB
    rw [List.map_cons, Lib.join_cons]
    have h4 : x.data.toList.length = x.size := rfl
    have h5 : ∀ l : List UInt8, (⟨l.toArray⟩ : ByteArray).size = l.length := fun l => by simp [ByteArray.size]
    rw [h5, List.length_append, h3, h4, show (x :: r).length = r.length + 1 from rfl, Nat.add_mul, Nat.one_mul]
    omega
theorem list_size (set : Int) (l : List ByteArray) (h : ∀ x ∈ l, x.size ≤ 40) : (listB set l).size ≤ 1312 := by
  have := cls_len set
  have h2 := join_size (namesOf l (classesB set)) 40 (fun x hx => by
    unfold namesOf at hx
    obtain ⟨c, _, rfl⟩ := List.mem_map.1 hx
    rw [List.getD_eq_getElem?_getD]
    cases hg : l[c.toNat]? with
    | none => exact Nat.zero_le _
    | some y => exact h y (List.mem_of_getElem? hg))
  rw [namesOf_length] at h2
  unfold listB
  omega

/-- a right set's classes are below the number -/
theorem right_below {set n : Int} (h : rightB set n = true) (c : Int) (hc : hasB set c = true) : 0 ≤ c ∧ c < n := by
  obtain ⟨s, k, rfl, rfl, h1, h2, h3⟩ := right_nat h
  unfold hasB at hc
  simp only [Bool.and_eq_true, decide_eq_true_eq] at hc
  obtain ⟨⟨⟨_, hc0⟩, hc1⟩, hc2⟩ := hc
  refine ⟨hc0, ?_⟩
  obtain ⟨j, rfl⟩ : ∃ j : Nat, c = (j : Int) := ⟨c.toNat, by omega⟩
  rcases Nat.lt_or_ge j k with h | h
  · omega
  · have := bit_above h3 h
    simp at hc2
    rw [this] at hc2
    cases hc2

theorem list_any (g : Nat) (mp : Value) (A : Option Addr) (len cap : Nat) (l : List ByteArray) (set : Int) (w : World) (hg : Blk w g 68 #[.slice A len cap, mp]) (hr : Rds w w.heap.size 1 A len (strCells l)) (hs : rightB set l.length = true) (hz : ∀ x ∈ l, x.size ≤ 40) :
    Calls Tryd.prog 41 #[.pointer (some ⟨g, 0, none⟩), .int .i64 set] w (Freed w (.string (listB set l))) :=
  list_walk g mp A len cap l set w hg hr (right_below hs) (Nat.le_trans (list_size set l hz) (by decide))

set_option maxRecDepth 100000 in
set_option maxHeartbeats 2000000 in
theorem print_any (g : Nat) (mp : Value) (A : Option Addr) (len cap : Nat) (l : List ByteArray) (set : Int) (w : World) (hg : Blk w g 68 #[.slice A len cap, mp]) (hr : Rds w w.heap.size 1 A len (strCells l)) (hs : rightB set l.length = true) (hz : ∀ x ∈ l, x.size ≤ 40) :
    Calls Tryd.prog 32 #[.pointer (some ⟨g, 0, none⟩), .int .i64 set] w (Freed w (.string (printB set l))) := by
  obtain rfl := hr.str_len
  have hlst := fun W h1 h2 => list_any g mp A l.length cap l set W h1 h2 hs hz
  have hnot : rightB (notB set l.length) l.length = true := by
    obtain ⟨s, k, rfl, e, h1, h2, h3⟩ := right_nat hs
    rw [e, not_of h1 h2 h3]
    exact right_of h1 h2 (xor_lt h3)
  have hlsn := fun W h1 h2 => list_any g mp A l.length cap l (notB set l.length) W h1 h2 hnot hz
  have hsz1 := list_size set l hz
  have hsz2 := list_size (notB set l.length) l hz
  have hcl := fun W => Classes_any set W
  have hcn := cls_len set
  have HP := hide (show printB set l = if (classesB set).length = l.length then ⟨#[46]⟩ else if (classesB set).length = 1 then listB set l else if l.length < 2 * (classesB set).length then ⟨#[91, 94]⟩ ++ listB (notB set l.length) l ++ ⟨#[93]⟩ else ⟨#[91]⟩ ++ listB set l ++ ⟨#[93]⟩ from rfl)
  have hnn : l.length ≤ 32 := by
    obtain ⟨s, k, _, e, h1, h2, h3⟩ := right_nat hs
    omega
  have HR := hide hr
  have HG := hide hg
  have HCL := hide hcl
  have HLS := hide hlst
  have HLN := hide hlsn
  have HNT := hide (fun W => not_any set (l.length : Int) W)
  have c0 := hg.cell 0
  simp only [List.getElem?_toArray, List.getElem?_cons_zero] at c0
  have cg := hg.lt
  generalize notB set (l.length : Int) = ns at *
  generalize printB set l = pb at *
  generalize listB set l = ls at *
  generalize listB ns l = ln at *
  obtain ⟨C, hC⟩ : ∃ C : Nat, C = (classesB set).length := ⟨_, rfl⟩
  have HC := hide hC
  rw [← hC] at HP
  rw [← hC] at hcn
  clear hlst hlsn hcl hr hs hnot hz hC
  go_enter Tryd.func32, Tryd.ntmps32
  go_upto_region 1 with fail
  go_cut [5] from 8 to 17 (fun s5 wx => ∃ b5 : Nat, s5 = .pointer (some ⟨b5, 0, none⟩) ∧ Blk wx b5 72 #[.int .i64 (C : Int), .int .i64 (l.length : Int)] ∧ w.heap.size ≤ b5 ∧ Below w.heap.size w wx)
  case first =>
    refine wp_region_mixT (fun w' => w'.cell? ⟨g, 0, none⟩ = some (.slice A l.length cap)) (fun _ => true) (MixT.heads [0, 3, 4, 5, 6, 7, 8] (.two 1 (MixT.heads [2, 9] (.one 10 (.one 11 .nil))) 10 (.one 1 (MixT.heads [2, 9] (.one 11 .nil))))) (by kernel_rfl) (by kernel_rfl) (fun _ _ d _ _ h => by cases d <;> exact h) ?_
    obtain ⟨W, hW⟩ : ∃ W : World, W = w.drew := ⟨_, rfl⟩
    have bW : Below w.heap.size w W := by rw [hW]; exact below_drewN (Below.refl _ _) 1
    rw [← hW]
    clear hW
    have d0 : W.cell? ⟨g, 0, none⟩ = some (.slice A l.length cap) := (bW.cell cg).trans c0
    refine mixT_head (v := .int .i64 set) d0 rfl rfl (fun W' hS' => by rfl) ?_
    go_frame
    refine mixT_head (v := .pointer (some ⟨g, 0, none⟩)) d0 rfl rfl (fun W' hS' => by rfl) ?_
    go_frame
    refine mixT_head (v := .pointer (some ⟨g, 0, none⟩)) d0 rfl rfl (fun W' hS' => by go_simp) ?_
    go_frame
    refine mixT_head (v := .pointer (some ⟨g, 0, none⟩)) d0 rfl rfl (fun W' hS' => by go_simp) ?_
    go_frame
    refine mixT_head (v := .pointer (some ⟨g, 0, none⟩)) d0 rfl rfl (fun W' hS' => by go_simp) ?_
    go_frame
    refine mixT_head (v := .slice A l.length cap) d0 rfl rfl (fun W' hS' => by go_simp) ?_
    go_frame
    refine mixT_head (v := .int .i64 (l.length : Int)) d0 rfl rfl (fun W' hS' => by go_simp) ?_
    go_frame
    refine mixT_two (stepT_of rfl rfl (fun K hK => ?_)) (stepT_of rfl rfl (fun K hK => ?_))
    · go_simp
      refine (HCL.out W).mono ?_
      rintro e W1 ⟨A1, c1, rfl, -, -, hb1⟩
      rw [← HC.out]
      have bW1 := bW.trans (hb1.mono bW.size)
      have d1 : W1.cell? ⟨g, 0, none⟩ = some (.slice A l.length cap) := (bW1.cell cg).trans c0
      refine hK _ _ ⟨fun _ => d1, ?_⟩
      refine mixT_head (v := .int .i64 (C : Int)) d1 rfl rfl (fun W' hS' => by go_simp) ?_
      go_frame
      refine mixT_head (v := .agg #[.int .i64 (C : Int), .int .i64 (l.length : Int)]) d1 rfl rfl (fun W' hS' => by go_simp) ?_
      go_frame
      refine mixT_one rfl rfl (fun K2 hK2 => ?_)
      go_simp
      have k2 := Blk.new W1 72 #[.int .i64 0, .int .i64 0]
      have bW2 : Below w.heap.size w (W1.alloc (.cells #[.int .i64 0, .int .i64 0] 72)) := bW1.alloc bW1.size _
      have d2 := (bW2.cell (p := ⟨g, 0, none⟩) cg).trans c0
      have gb := bW1.size
      refine hK2 _ _ ⟨fun _ => d2, ?_⟩
      generalize W1.alloc (.cells #[.int .i64 0, .int .i64 0] 72) = W2 at *
      generalize W1.heap.size = b5 at *
      obtain ⟨q0, q1⟩ := And.intro (k2.cell 0) (k2.cell 1)
      obtain ⟨f0, f1⟩ := And.intro (k2.frozen 0) (k2.frozen 1)
      have ql := k2.lt
      simp only [List.getElem?_toArray, List.getElem?_cons_zero, List.getElem?_cons_succ] at q0 q1
      refine mixT_one rfl rfl (fun K3 hK3 => ?_)
      go_simp
      have m1 := grownBy_setCell W2 b5 0 (.int .i64 (C : Int))
      have m2 := grownBy_setCell (W2.setCell ⟨b5, 0, none⟩ (.int .i64 (C : Int))) b5 1 (.int .i64 (l.length : Int))
      have bW3 := (bW2.grown m1 bW2.size (fun k e => by cases e; exact gb)).grown m2 (by simp; exact bW2.size) (fun k e => by cases e; exact gb)
      have k3 := (k2.set_ 0 (.int .i64 (C : Int))).set_ 1 (.int .i64 (l.length : Int))
      refine hK3 _ _ ⟨fun _ => (bW3.cell (p := ⟨g, 0, none⟩) cg).trans c0, ?_⟩
      refine mixT_nil ?_
      go_wp2_with fail
      go_meet
      exact ⟨b5, rfl, by simpa using k3, gb, bW3⟩
    · go_simp
      have k2 := Blk.new W 72 #[.int .i64 0, .int .i64 0]
      have bW2 : Below w.heap.size w (W.alloc (.cells #[.int .i64 0, .int .i64 0] 72)) := bW.alloc bW.size _
      have d2 := (bW2.cell (p := ⟨g, 0, none⟩) cg).trans c0
      have gb := bW.size
      refine hK _ _ ⟨fun _ => d2, ?_⟩
      generalize W.alloc (.cells #[.int .i64 0, .int .i64 0] 72) = W2 at *
      generalize W.heap.size = b5 at *
      refine mixT_one rfl rfl (fun K2 hK2 => ?_)
      go_simp
      refine (HCL.out W2).mono ?_
      rintro e W1 ⟨A1, c1, rfl, -, -, hb1⟩
      rw [← HC.out]
      have bW1 := bW2.trans (hb1.mono bW2.size)
      have k1 := k2.below hb1 k2.lt
      have d1 : W1.cell? ⟨g, 0, none⟩ = some (.slice A l.length cap) := (bW1.cell cg).trans c0
      refine hK2 _ _ ⟨fun _ => d1, ?_⟩
      refine mixT_head (v := .int .i64 (C : Int)) d1 rfl rfl (fun W' hS' => by go_simp) ?_
      go_frame
      refine mixT_head (v := .agg #[.int .i64 (C : Int), .int .i64 (l.length : Int)]) d1 rfl rfl (fun W' hS' => by go_simp) ?_
      go_frame
      obtain ⟨q0, q1⟩ := And.intro (k1.cell 0) (k1.cell 1)
      obtain ⟨f0, f1⟩ := And.intro (k1.frozen 0) (k1.frozen 1)
      have ql := k1.lt
      simp only [List.getElem?_toArray, List.getElem?_cons_zero, List.getElem?_cons_succ] at q0 q1
      refine mixT_one rfl rfl (fun K3 hK3 => ?_)
      go_simp
      have m1 := grownBy_setCell W1 b5 0 (.int .i64 (C : Int))
      have m2 := grownBy_setCell (W1.setCell ⟨b5, 0, none⟩ (.int .i64 (C : Int))) b5 1 (.int .i64 (l.length : Int))
      have bW3 := (bW1.grown m1 bW1.size (fun k e => by cases e; exact gb)).grown m2 (by simp; exact bW1.size) (fun k e => by cases e; exact gb)
      have k3 := (k1.set_ 0 (.int .i64 (C : Int))).set_ 1 (.int .i64 (l.length : Int))
      refine hK3 _ _ ⟨fun _ => (bW3.cell (p := ⟨g, 0, none⟩) cg).trans c0, ?_⟩
      refine mixT_nil ?_
      go_wp2_with fail
      go_meet
      exact ⟨b5, rfl, by simpa using k3, gb, bW3⟩
  case rest =>
    obtain ⟨b5, rfl, k5, g5, bw5⟩ := hcut
    clear c0
    go_upto_region 2 with fail
    go_cut [6, 7] from 18 to 25 (fun s6 s7 wx => ∃ b6 b7 : Nat, s6 = .pointer (some ⟨b6, 0, none⟩) ∧ s7 = .pointer (some ⟨b7, 0, none⟩) ∧ Blk wx b5 72 #[.int .i64 (C : Int), .int .i64 (l.length : Int)] ∧ Blk wx b6 72 #[.int .i64 (l.length : Int), .int .i64 (l.length : Int)] ∧ Blk wx b7 72 #[.int .i64 1, .int .i64 (l.length : Int)] ∧ Below w.heap.size w wx)
    case first =>
      refine wp_region_mixT (fun w' => w'.cell? ⟨b5, 1, none⟩ = some (.int .i64 (l.length : Int))) (fun _ => true) (MixT.heads [0, 1, 2, 3, 4, 5, 6, 7] (.two 8 (.one 9 (.one 10 (.one 11 .nil))) 9 (.one 8 (.one 10 (.one 11 .nil))))) (by kernel_rfl) (by kernel_rfl) (fun _ _ d _ _ h => by cases d <;> exact h) ?_
      obtain ⟨W, hW⟩ : ∃ W : World, W = wc.drew := ⟨_, rfl⟩
      have bW : Below w.heap.size w W := by rw [hW]; exact below_drewN bw5 1
      have kW : Blk W b5 72 #[.int .i64 (C : Int), .int .i64 (l.length : Int)] := by rw [hW]; exact k5
      rw [← hW]
      clear hW k5 bw5
      have d0 : W.cell? ⟨b5, 1, none⟩ = some (.int .i64 (l.length : Int)) := by simpa using kW.cell 1
      refine mixT_head (v := .pointer (some ⟨b5, 1, none⟩)) d0 rfl rfl (fun W' hS' => by go_simp) ?_
      go_frame
      refine mixT_head (v := .int .i64 (l.length : Int)) d0 rfl rfl (fun W' hS' => by go_simp) ?_
      go_frame
      refine mixT_head (v := .pointer (some ⟨b5, 1, none⟩)) d0 rfl rfl (fun W' hS' => by go_simp) ?_
      go_frame
      refine mixT_head (v := .int .i64 (l.length : Int)) d0 rfl rfl (fun W' hS' => by go_simp) ?_
      go_frame
      refine mixT_head (v := .agg #[.int .i64 (l.length : Int), .int .i64 (l.length : Int)]) d0 rfl rfl (fun W' hS' => by go_simp) ?_
      go_frame
      refine mixT_head (v := .pointer (some ⟨b5, 1, none⟩)) d0 rfl rfl (fun W' hS' => by go_simp) ?_
      go_frame
      refine mixT_head (v := .int .i64 (l.length : Int)) d0 rfl rfl (fun W' hS' => by go_simp) ?_
      go_frame
      refine mixT_head (v := .agg #[.int .i64 1, .int .i64 (l.length : Int)]) d0 rfl rfl (fun W' hS' => by go_simp) ?_
      go_frame
      have k1 := Blk.new W 72 #[.int .i64 0, .int .i64 0]
      have kW1 := kW.alloc (.cells #[.int .i64 0, .int .i64 0] 72)
      have bW1 : Below w.heap.size w (W.alloc (.cells #[.int .i64 0, .int .i64 0] 72)) := bW.alloc bW.size _
      have gl : b5 < W.heap.size := kW.lt
      have gw := bW.size
      have fin : ∀ (p q : Nat) (V : World), p ≠ q → b5 < p → b5 < q → w.heap.size ≤ p → w.heap.size ≤ q → Blk V b5 72 #[.int .i64 (C : Int), .int .i64 (l.length : Int)] → Blk V p 72 #[.int .i64 0, .int .i64 0] → Blk V q 72 #[.int .i64 0, .int .i64 0] → Below w.heap.size w V →
          (V.setCell ⟨p, 0, none⟩ (.int .i64 (l.length : Int))).cell? ⟨b5, 1, none⟩ = some (.int .i64 (l.length : Int)) ∧
          Blk ((V.setCell ⟨p, 0, none⟩ (.int .i64 (l.length : Int))).setCell ⟨p, 1, none⟩ (.int .i64 (l.length : Int))) b5 72 #[.int .i64 (C : Int), .int .i64 (l.length : Int)] ∧
          Blk ((V.setCell ⟨p, 0, none⟩ (.int .i64 (l.length : Int))).setCell ⟨p, 1, none⟩ (.int .i64 (l.length : Int))) p 72 #[.int .i64 (l.length : Int), .int .i64 (l.length : Int)] ∧
          Blk ((V.setCell ⟨p, 0, none⟩ (.int .i64 (l.length : Int))).setCell ⟨p, 1, none⟩ (.int .i64 (l.length : Int))) q 72 #[.int .i64 0, .int .i64 0] ∧
          Below w.heap.size w ((V.setCell ⟨p, 0, none⟩ (.int .i64 (l.length : Int))).setCell ⟨p, 1, none⟩ (.int .i64 (l.length : Int))) := by
        intro p q V hpq hp hq hwp hwq v5 vp vq hb
        have m1 := grownBy_setCell V p 0 (.int .i64 (l.length : Int))
        have m2 := grownBy_setCell (V.setCell ⟨p, 0, none⟩ (.int .i64 (l.length : Int))) p 1 (.int .i64 (l.length : Int))
        have u5 := v5.far (p := ⟨p, 0, none⟩) (by simp; omega) (.int .i64 (l.length : Int))
        refine ⟨by simpa using u5.cell 1, u5.far (by simp; omega) _, by simpa using (vp.set_ 0 (.int .i64 (l.length : Int))).set_ 1 (.int .i64 (l.length : Int)), (vq.far (by simp; omega) _).far (by simp; omega) _, (hb.grown m1 hb.size (fun k e => by cases e; exact hwp)).grown m2 (by simp; exact hb.size) (fun k e => by cases e; exact hwp)⟩
      refine mixT_two (stepT_of rfl rfl (fun K hK => ?_)) (stepT_of rfl rfl (fun K hK => ?_))
      · go_simp
        refine hK _ _ ⟨fun _ => by simpa using kW1.cell 1, ?_⟩
        generalize W.alloc (.cells #[.int .i64 0, .int .i64 0] 72) = W1 at *
        generalize W.heap.size = b6 at *
        refine mixT_one rfl rfl (fun K2 hK2 => ?_)
        go_simp
        have k2 := Blk.new W1 72 #[.int .i64 0, .int .i64 0]
        have k12 := k1.alloc (.cells #[.int .i64 0, .int .i64 0] 72)
        have kW2 := kW1.alloc (.cells #[.int .i64 0, .int .i64 0] 72)
        have bW2 : Below w.heap.size w (W1.alloc (.cells #[.int .i64 0, .int .i64 0] 72)) := bW1.alloc bW1.size _
        have gl2 := k1.lt
        refine hK2 _ _ ⟨fun _ => by simpa using kW2.cell 1, ?_⟩
        generalize W1.alloc (.cells #[.int .i64 0, .int .i64 0] 72) = W2 at *
        generalize W1.heap.size = b7 at *
        obtain ⟨q0, q1⟩ := And.intro (k12.cell 0) (k12.cell 1)
        obtain ⟨f0, f1⟩ := And.intro (k12.frozen 0) (k12.frozen 1)
        have ql := k12.lt
        simp only [List.getElem?_toArray, List.getElem?_cons_zero, List.getElem?_cons_succ] at q0 q1
        refine mixT_one rfl rfl (fun K3 hK3 => ?_)
        go_simp
        obtain ⟨e1, e2, e3, e4, e5⟩ := fin b6 b7 W2 (by omega) (by omega) (by omega) (by omega) (by omega) kW2 k12 k2 bW2
        refine hK3 _ _ ⟨fun _ => by simpa using e2.cell 1, ?_⟩
        generalize (W2.setCell ⟨b6, 0, none⟩ (.int .i64 (l.length : Int))).setCell ⟨b6, 1, none⟩ (.int .i64 (l.length : Int)) = W3 at *
        clear q0 q1 f0 f1 ql
        obtain ⟨q0, q1⟩ := And.intro (e4.cell 0) (e4.cell 1)
        obtain ⟨f0, f1⟩ := And.intro (e4.frozen 0) (e4.frozen 1)
        have ql := e4.lt
        simp only [List.getElem?_toArray, List.getElem?_cons_zero, List.getElem?_cons_succ] at q0 q1
        refine mixT_one rfl rfl (fun K4 hK4 => ?_)
        go_simp
        have m1 := grownBy_setCell W3 b7 0 (.int .i64 1)
        have m2 := grownBy_setCell (W3.setCell ⟨b7, 0, none⟩ (.int .i64 1)) b7 1 (.int .i64 (l.length : Int))
        have hb7 : w.heap.size ≤ b7 := by omega
        have h5 := (e2.far (p := ⟨b7, 0, none⟩) (by simp; omega) (.int .i64 1)).far (p := ⟨b7, 1, none⟩) (by simp; omega) (.int .i64 (l.length : Int))
        have h6 := (e3.far (p := ⟨b7, 0, none⟩) (by simp; omega) (.int .i64 1)).far (p := ⟨b7, 1, none⟩) (by simp; omega) (.int .i64 (l.length : Int))
        have h7 := (e4.set_ 0 (.int .i64 1)).set_ 1 (.int .i64 (l.length : Int))
        refine hK4 _ _ ⟨fun _ => by simpa using h5.cell 1, ?_⟩
        refine mixT_nil ?_
        go_wp2_with fail
        go_meet
        exact ⟨b6, b7, rfl, rfl, h5, h6, by simpa using h7, (e5.grown m1 e5.size (fun k e => by cases e; exact hb7)).grown m2 (by simp; exact e5.size) (fun k e => by cases e; exact hb7)⟩
      · go_simp
        refine hK _ _ ⟨fun _ => by simpa using kW1.cell 1, ?_⟩
        generalize W.alloc (.cells #[.int .i64 0, .int .i64 0] 72) = W1 at *
        generalize W.heap.size = b7 at *
        refine mixT_one rfl rfl (fun K2 hK2 => ?_)
        go_simp
        have k2 := Blk.new W1 72 #[.int .i64 0, .int .i64 0]
        have k12 := k1.alloc (.cells #[.int .i64 0, .int .i64 0] 72)
        have kW2 := kW1.alloc (.cells #[.int .i64 0, .int .i64 0] 72)
        have bW2 : Below w.heap.size w (W1.alloc (.cells #[.int .i64 0, .int .i64 0] 72)) := bW1.alloc bW1.size _
        have gl2 := k1.lt
        refine hK2 _ _ ⟨fun _ => by simpa using kW2.cell 1, ?_⟩
        generalize W1.alloc (.cells #[.int .i64 0, .int .i64 0] 72) = W2 at *
        generalize W1.heap.size = b6 at *
        obtain ⟨q0, q1⟩ := And.intro (k2.cell 0) (k2.cell 1)
        obtain ⟨f0, f1⟩ := And.intro (k2.frozen 0) (k2.frozen 1)
        have ql := k2.lt
        simp only [List.getElem?_toArray, List.getElem?_cons_zero, List.getElem?_cons_succ] at q0 q1
        refine mixT_one rfl rfl (fun K3 hK3 => ?_)
        go_simp
        obtain ⟨e1, e2, e3, e4, e5⟩ := fin b6 b7 W2 (by omega) (by omega) (by omega) (by omega) (by omega) kW2 k2 k12 bW2
        refine hK3 _ _ ⟨fun _ => by simpa using e2.cell 1, ?_⟩
        generalize (W2.setCell ⟨b6, 0, none⟩ (.int .i64 (l.length : Int))).setCell ⟨b6, 1, none⟩ (.int .i64 (l.length : Int)) = W3 at *
        clear q0 q1 f0 f1 ql
        obtain ⟨q0, q1⟩ := And.intro (e4.cell 0) (e4.cell 1)
        obtain ⟨f0, f1⟩ := And.intro (e4.frozen 0) (e4.frozen 1)
        have ql := e4.lt
        simp only [List.getElem?_toArray, List.getElem?_cons_zero, List.getElem?_cons_succ] at q0 q1
        refine mixT_one rfl rfl (fun K4 hK4 => ?_)
        go_simp
        have m1 := grownBy_setCell W3 b7 0 (.int .i64 1)
        have m2 := grownBy_setCell (W3.setCell ⟨b7, 0, none⟩ (.int .i64 1)) b7 1 (.int .i64 (l.length : Int))
        have hb7 : w.heap.size ≤ b7 := by omega
        have h5 := (e2.far (p := ⟨b7, 0, none⟩) (by simp; omega) (.int .i64 1)).far (p := ⟨b7, 1, none⟩) (by simp; omega) (.int .i64 (l.length : Int))
        have h6 := (e3.far (p := ⟨b7, 0, none⟩) (by simp; omega) (.int .i64 1)).far (p := ⟨b7, 1, none⟩) (by simp; omega) (.int .i64 (l.length : Int))
        have h7 := (e4.set_ 0 (.int .i64 1)).set_ 1 (.int .i64 (l.length : Int))
        refine hK4 _ _ ⟨fun _ => by simpa using h5.cell 1, ?_⟩
        refine mixT_nil ?_
        go_wp2_with fail
        go_meet
        exact ⟨b6, b7, rfl, rfl, h5, h6, by simpa using h7, (e5.grown m1 e5.size (fun k e => by cases e; exact hb7)).grown m2 (by simp; exact e5.size) (fun k e => by cases e; exact hb7)⟩
    case rest =>
      obtain ⟨b6, b7, rfl, rfl, v5, v6, v7, bw6⟩ := hcut
      clear k5 bw5
      obtain ⟨p0, p1⟩ := And.intro (v5.cell 0) (v5.cell 1)
      obtain ⟨q0, q1⟩ := And.intro (v6.cell 0) (v6.cell 1)
      obtain ⟨r0, r1⟩ := And.intro (v7.cell 0) (v7.cell 1)
      simp only [List.getElem?_toArray, List.getElem?_cons_zero, List.getElem?_cons_succ] at p0 p1 q0 q1 r0 r1
      by_cases h1 : C = l.length
      · have e1 : ((C : Int) == (l.length : Int)) = true := by rw [h1]; simp
        have HB := hide (HP.out.trans (if_pos h1))
        clear h1
        go_wp2_with fail
        go_ret
        exact ⟨by rw [HB.out]; rfl, bw6⟩
      · have e1 : ((C : Int) == (l.length : Int)) = false := by rw [beq_eq_false_iff_ne]; omega
        have HB := hide (HP.out.trans (if_neg h1))
        clear h1
        have HGc := hide (HG.out.below bw6 cg)
        have HRc := hide ((HR.out.below bw6).more bw6.size)
        by_cases h2 : C = 1
        · have e2 : ((C : Int) == 1) = true := by rw [h2]; rfl
          have HB2 := hide (HB.out.trans (if_pos h2))
          clear h2
          go_wp2_with fail
          refine (HLS.out wc HGc.out HRc.out).mono ?_
          rintro e w9 ⟨rfl, hb9⟩
          go_wp2
          go_ret
          exact ⟨by rw [HB2.out]; rfl, bw6.trans (hb9.mono bw6.size)⟩
        · have e2 : ((C : Int) == 1) = false := by rw [beq_eq_false_iff_ne]; omega
          have HB2 := hide (HB.out.trans (if_neg h2))
          clear h2
          by_cases h3 : l.length < 2 * C
          · have e3 : (l.length : Int) < 2 * (C : Int) := by omega
            have HB3 := hide (HB2.out.trans (if_pos h3))
            clear h3
            go_wp2_with fail
            refine (HNT.out _).mono ?_
            rintro e _ ⟨rfl, rfl⟩
            go_wp2_with fail
            refine (HLN.out _ HGc.out HRc.out).mono ?_
            rintro e w9 ⟨rfl, hb9⟩
            go_wp2
            go_ret
            exact ⟨by rw [HB3.out]; rfl, bw6.trans (hb9.mono bw6.size)⟩
          · have e3 : ¬ (l.length : Int) < 2 * (C : Int) := by omega
            have HB3 := hide (HB2.out.trans (if_neg h3))
            clear h3
            go_wp2_with fail
            refine (HLS.out wc HGc.out HRc.out).mono ?_
            rintro e w9 ⟨rfl, hb9⟩
            go_wp2
            go_ret
            exact ⟨by rw [HB3.out]; rfl, bw6.trans (hb9.mono bw6.size)⟩
end Go.Proofs.YtigkphjgidbppaaDoor
