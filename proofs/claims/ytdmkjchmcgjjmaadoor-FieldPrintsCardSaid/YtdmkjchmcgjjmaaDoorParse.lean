/- The program's field.Parse. Conditions: the text is of moderate size; the package's variables hold what they hold. -/
import Derived.Test.YtdmkjchmcgjjmaaDoorRead
namespace Go.Proofs.YtdmkjchmcgjjmaaDoor
open Go Go.RowKit

/-- what Parse answers -/
def ParseA (w : World) (r : List Rc × Nat × Int) (e : Ending) (w' : World) : Prop :=
  ∃ (X : List RX) (v : Value), e = .returned (.tuple #[v, .int .i64 (r.2.1 : Int), .int .i64 r.2.2]) ∧ X.map RX.rc = r.1 ∧ w'.ownsRow w.heap.size 31 4 v X.length (recCells X) ∧ (∀ x ∈ X, FldX w' w.heap.size x) ∧ Below w.heap.size w w'

set_option maxRecDepth 100000 in
set_option maxHeartbeats 4000000 in
theorem Parse_any (s : ByteArray) (B : Nat) (m : Int) (w : World) (hE : FEnv w B m) (hB : B ≤ w.heap.size) (hs : s.size ≤ 20000) : Calls Tryd.prog 18 #[.string s] w (ParseA w (fileB s)) := by
  have HFB := hide (show fileB s = readL (splitT 10 s) 0 [] by unfold fileB; rw [if_neg (by omega)])
  have hd : decide ((20000 : Int) < (s.size : Int)) = false := decide_eq_false (by omega)
  have HE := hide hE
  go_enter Tryd.func18, Tryd.ntmps18
  go_wp2_with fail
  obtain ⟨W0, hW0⟩ : ∃ W0 : World, W0 = w.alloc (.cells #[.string s, .int .i64 0, .slice none 0 0, .nilIface] 62) := ⟨_, rfl⟩
  obtain ⟨g, hg⟩ : ∃ g : Nat, g = w.heap.size := ⟨_, rfl⟩
  have hst : St w.heap.size g s w 0 [] (.slice none 0 0) W0 := by
    have hk : Blk W0 g 62 #[.string s, .int .i64 0, .slice none 0 0, .nilIface] := by rw [hW0, hg]; exact Blk.new _ _ _
    have hbl : Below w.heap.size w W0 := by rw [hW0]; exact (Below.refl _ _).alloc (Nat.le_refl _) _
    exact ⟨hk, World.ownsRow_nil _ _ _ _, (fun x hx => by cases hx), hbl, Nat.le_of_eq hg.symm⟩
  have hrd := read_any w.heap.size g s m w W0 (hE.more hB) hs hst
  rw [← hW0, ← hg]
  clear hW0 hg hst hE
  refine hrd.mono ?_
  rintro e w1 ⟨rfl, h⟩
  clear hrd
  rcases h with ⟨X, vo, line, hst, hrl⟩ | ⟨k, line, ⟨hk, ⟨vo, hblk⟩, hbel⟩, hrl⟩
  · have c0 := hst.blk.cell 0
    have c1 := hst.blk.cell 1
    have c2 := hst.blk.cell 2
    have c3 := hst.blk.cell 3
    simp only [List.getElem?_toArray, List.getElem?_cons_zero, List.getElem?_cons_succ] at c0 c1 c2 c3
    have HR := hide (HFB.out.trans hrl)
    have HST := hide hst
    clear hst hrl
    go_wp2_with fail
    go_ret3
    refine ⟨X, vo, by rw [HR.out]; rfl, by rw [HR.out], HST.out.row, HST.out.fld, HST.out.below⟩
  · have c0 := hblk.cell 0
    have c1 := hblk.cell 1
    have c2 := hblk.cell 2
    have c3 := hblk.cell 3
    simp only [List.getElem?_toArray, List.getElem?_cons_zero, List.getElem?_cons_succ] at c0 c1 c2 c3
    have HR := hide (HFB.out.trans hrl)
    have hto := fun W h => told_errV k B m W h
    have hev : errV k = errW k := by unfold errV; rw [if_neg hk]
    rw [hev] at hto
    have HEW : Hid (errW k = .iface 77 (.agg #[.int .i64 k])) := rfl
    rw [HEW.out] at c3 hto
    have HTO := hide hto
    have HBEL := hide hbel
    clear hrl hto hev hblk hbel
    go_upto_region 6 with fail
    refine wp_region_headsT (fun w' => w'.cell? ⟨g, 1, none⟩ = some (.int .i64 (line : Int)) ∧ w'.cell? ⟨g, 3, none⟩ = some (.iface 77 (.agg #[.int .i64 k]))) 9 4 (by kernel_rfl) (by kernel_rfl) (fun _ _ d _ _ h => by cases d <;> exact h) ⟨c1, c3⟩ ?_
    simp only [List.take_succ_cons, List.take_zero, List.drop_succ_cons, List.drop_zero]
    have hdw : FEnv w1.drew B m := (HE.out.below (HBEL.out.mono hB)).below (drewN_below _ _ 1)
    have bdw : Below w.heap.size w w1.drew := below_drewN HBEL.out 1
    have d1 : w1.drew.cell? ⟨g, 1, none⟩ = some (.int .i64 (line : Int)) := c1
    have d3 : w1.drew.cell? ⟨g, 3, none⟩ = some (.iface 77 (.agg #[.int .i64 k])) := c3
    have dl : g < w1.drew.heap.size := World.block_lt_of_cell? _ _ d1
    generalize w1.drew = W at *
    clear c0 c1 c2 c3 HBEL
    refine heads_step (v := .pointer (some ⟨g, 0, none⟩)) rfl (fun W' hS' => by go_simp) ?_
    go_frame
    refine heads_step (v := .pointer (some ⟨g, 0, none⟩)) rfl (fun W' hS' => by go_simp) ?_
    go_frame
    refine heads_step (v := .pointer (some ⟨g, 0, none⟩)) rfl (fun W' hS' => by go_simp) ?_
    go_frame
    refine heads_step (v := .pointer (some ⟨g, 1, none⟩)) rfl (fun W' hS' => by go_simp) ?_
    go_frame
    refine heads_step (v := .int .i64 (line : Int)) rfl (fun W' hS' => by obtain ⟨f1, f2⟩ := hS'; go_simp) ?_
    go_frame
    refine heads_step (v := .pointer (some ⟨g, 0, none⟩)) rfl (fun W' hS' => by go_simp) ?_
    go_frame
    refine heads_step (v := .pointer (some ⟨g, 0, none⟩)) rfl (fun W' hS' => by go_simp) ?_
    go_frame
    refine heads_step (v := .pointer (some ⟨g, 3, none⟩)) rfl (fun W' hS' => by go_simp) ?_
    go_frame
    refine heads_step (v := .iface 77 (.agg #[.int .i64 k])) rfl (fun W' hS' => by obtain ⟨f1, f2⟩ := hS'; go_simp) ?_
    go_frame
    refine heads_nil ?_
    refine mid_step rfl (fun K1 hK1 => ?_)
    go_simp
    refine (HTO.out W hdw).mono ?_
    rintro e W2 ⟨rfl, hb2⟩
    have g1 : W2.cell? ⟨g, 1, none⟩ = some (.int .i64 (line : Int)) := (hb2.cell (p := ⟨g, 1, none⟩) dl).trans d1
    have g3 : W2.cell? ⟨g, 3, none⟩ = some (.iface 77 (.agg #[.int .i64 k])) := (hb2.cell (p := ⟨g, 3, none⟩) dl).trans d3
    have HB2 := hide (bdw.trans (hb2.mono bdw.size))
    refine hK1 _ _ ⟨⟨g1, g3⟩, ?_⟩
    refine mid_step rfl (fun K2 hK2 => ?_)
    go_simp
    refine hK2 _ _ ⟨⟨g1, g3⟩, ?_⟩
    refine mid_step rfl (fun K3 hK3 => ?_)
    go_simp
    refine hK3 _ _ ⟨⟨g1, g3⟩, ?_⟩
    refine mid_step rfl (fun K4 hK4 => ?_)
    go_simp
    refine hK4 _ _ ⟨⟨g1, g3⟩, ?_⟩
    refine mid_nil ?_
    go_wp2_with fail
    go_ret3
    exact ⟨[], .slice none 0 0, by rw [HR.out]; rfl, by rw [HR.out]; rfl, World.ownsRow_nil _ _ _ _, (fun x hx => by cases hx), HB2.out⟩
end Go.Proofs.YtdmkjchmcgjjmaaDoor
