/- The program's prop.of: names by their values. Conditions: the slice reads as the list of texts. -/
import Derived.Test.YtigkphjgidbppaaDoorBack
import Derived.Maps.OwnIn
import Derived.Laws.ResultCell
import Derived.ChangeMaps4
import Derived.WideMake
import Derived.Laws.Rows
namespace Go.Proofs.YtigkphjgidbppaaDoor
open Go Go.RowKit

/-- the map after so many pairs -/
def mapTo (ys : List (Int × ByteArray)) : DataW Unit := ys.foldl (fun D p => D.put (.string p.2.data.toList) (.lit (.int .i64 p.1))) (.map [])
theorem mapTo_snoc (ys : List (Int × ByteArray)) (p : Int × ByteArray) : mapTo (ys ++ [p]) = (mapTo ys).put (.string p.2.data.toList) (.lit (.int .i64 p.1)) := by simp [mapTo]

def prs {P : Int × ByteArray → Prop} (l : List {x : Int × ByteArray // P x}) : List (Int × ByteArray) := l.map Subtype.val
theorem prs_snoc {P : Int × ByteArray → Prop} (l : List {x : Int × ByteArray // P x}) (x : {x : Int × ByteArray // P x}) : prs (l ++ [x]) = prs l ++ [x.1] := by simp [prs]
theorem prs_length {P : Int × ByteArray → Prop} (l : List {x : Int × ByteArray // P x}) : (prs l).length = l.length := by simp [prs]

attribute [local go_sem] Oper.semAt_some

set_option maxRecDepth 100000 in
set_option maxHeartbeats 2000000 in
theorem of_names (A : Option Addr) (len cap : Nat) (l : List ByteArray) (w : World) (hr : Rds w w.heap.size 1 A len (strCells l)) (hlen : len ≤ 1000) (hz : ∀ s ∈ l, s.size ≤ maxLen) :
    Calls Tryd.prog 46 #[.slice A len cap] w (fun e w' => ∃ b, e = .returned (.agg #[.slice A len cap, .map (some b)]) ∧ w.heap.size ≤ b ∧ w'.ownsMap (H := Unit) Tryd.prog 9 (plainElem Tryd.prog 3) b len (mapTo (bwdTo l l.length)) ∧ Below w.heap.size w w') := by
  have hro : Fence.wide.round = none := rfl
  have h1 : 1 ≤ 10 := by omega
  have hll := hr.str_len
  subst hll
  refine (callsIn_wide (n := 10)).1 ?_
  refine callsIn_of_wp_marks Tryd.func46 rfl trivial ?_ rfl
  simp only [Tryd.ntmps46, List.size_toArray, List.length_cons, List.length_nil, Nat.reduceAdd, Nat.reduceSub, Array.replicate_succ, Array.replicate_zero, List.push_toArray, List.append_toArray, List.nil_append, List.cons_append]
  have hmm := @run_makeMap Tryd.prog
  gi_wp2_with fail
  clear hmm
  obtain ⟨W0, hW0⟩ : ∃ W0 : World, W0 = ((w.alloc (.cells #[.slice none 0 0, .map none] 79)).alloc (.map #[] 0)).alloc (.cells #[.map (some (w.heap.size + 1))] 64) := ⟨_, rfl⟩
  obtain ⟨bm, hbm⟩ : ∃ bm : Nat, bm = w.heap.size + 1 := ⟨_, rfl⟩
  obtain ⟨b3, hb3⟩ : ∃ b3 : Nat, b3 = bm + 1 := ⟨_, rfl⟩
  have hb0 : Below w.heap.size w W0 := by rw [hW0]; exact (((Below.refl _ _).alloc (Nat.le_refl _) _).alloc (by simp) _).alloc (by simp; omega) _
  have hs0 : W0.heap.size = w.heap.size + 3 := by rw [hW0]; simp
  have k2 : Blk W0 w.heap.size 79 #[.slice none 0 0, .map none] := by rw [hW0]; exact ((Blk.new w _ _).alloc _).alloc _
  have k3 : Blk W0 b3 64 #[.map (some bm)] := by
    rw [hW0, hb3, hbm]
    have := Blk.new ((w.alloc (.cells #[.slice none 0 0, .map none] 79)).alloc (.map #[] 0)) 64 #[.map (some (w.heap.size + 1))]
    simpa using this
  have hm0 : W0.ownsMap (H := Unit) Tryd.prog 9 (plainElem Tryd.prog 3) bm 0 (.map []) := by
    rw [hW0, hbm]
    have := World.ownsMap_made (H := Unit) (w.alloc (.cells #[.slice none 0 0, .map none] 79)) Tryd.prog 9 (plainElem Tryd.prog 3)
    rw [show (w.alloc (.cells #[.slice none 0 0, .map none] 79)).heap.size = w.heap.size + 1 by simp] at this
    exact this.alloc _
  rw [← hW0, ← hbm, ← hb3]
  have hlt3 : bm < b3 ∧ w.heap.size < bm ∧ b3 < W0.heap.size := by omega
  clear hW0 hbm hb3 hs0
  refine ⟨trivial, (backward_in Fence.wide _ trivial rfl A l.length cap W0).mono ?_⟩
  rintro e _ ⟨rfl, rfl⟩
  obtain ⟨W1, hW1⟩ : ∃ W1 : World, W1 = W0.alloc (.cells #[.slice A l.length cap] 35) := ⟨_, rfl⟩
  obtain ⟨bs, hbs⟩ : ∃ bs : Nat, bs = W0.heap.size := ⟨_, rfl⟩
  have hb1 : Below w.heap.size w W1 := by rw [hW1]; exact hb0.alloc hb0.size _
  have k21 : Blk W1 w.heap.size 79 #[.slice none 0 0, .map none] := by rw [hW1]; exact k2.alloc _
  have k31 : Blk W1 b3 64 #[.map (some bm)] := by rw [hW1]; exact k3.alloc _
  have hm1 : W1.ownsMap (H := Unit) Tryd.prog 9 (plainElem Tryd.prog 3) bm 0 (.map []) := by rw [hW1]; exact hm0.alloc _
  have ks : Blk W1 bs 35 #[.slice A l.length cap] := by rw [hW1, hbs]; exact Blk.new _ _ _
  have hcs : W1.cell? ⟨bs, 0, none⟩ = some (.slice A l.length cap) := by have := ks.cell 0; simpa using this
  have hs1 : W1.heap.size = bs + 1 := by rw [hW1, hbs]; simp
  have hlt4 : b3 < bs := by omega
  rw [← hW1, ← hbs]
  have HS1 := hide hs1
  clear hW1 hbs hb0 k2 k3 hm0 ks hs1
  have hstop := backward_stops (fun x => 0 ≤ x.1 ∧ x.1 < 1000 ∧ x.2.size ≤ maxLen) 9 (by omega) l (fun j h => ⟨by simp only; omega, by simp only; omega, hz _ (List.getElem_mem h)⟩) bs w.heap.size A l.length cap w W1 hr hb1 hb1.size hcs (by have := HS1.out; omega)
  gi_wp2
  refine wpIn_rangeFunc_ownH hro h1 (gf := 71) (lb := #[.pointer (some ⟨bs, 0, none⟩)]) rfl trivial (enters_of Tryd.func71 (by kernel_rfl) rfl)
    hstop KRows.trans (KRows.put hb1.size) (Below.refl _ _) (fun _ => rfl)
    (fun pre W => W.ownsMap (H := Unit) Tryd.prog 9 (plainElem Tryd.prog 3) bm pre.length (mapTo (prs pre)) ∧ Blk W b3 64 #[.map (some bm)] ∧ Blk W w.heap.size 79 #[.slice none 0 0, .map none] ∧ Below w.heap.size w W ∧ W1.heap.size ≤ W.heap.size)
    (fun _ _ _ => False)
    (fun s X Y row hs hg hrw => by
      obtain ⟨q1, q2, q3, q4, q5⟩ := hs
      have h9 := HS1.out
      exact ⟨q1.kept hg (fun e => by have := (hrw _ e.symm).1; omega), q2.grown hg (fun e => by have := (hrw _ e.symm).1; omega), q3.grown hg (fun e => by have := (hrw _ e.symm).1; omega), q4.grown hg q4.size (fun k e => by have := (hrw k e).1; omega), Nat.le_trans q5 hg.size⟩)
    (fun _ _ _ _ _ hs _ _ => hs)
    ⟨hm1, k31, k21, hb1, Nat.le_refl _⟩
    (fun x a' W => a' = { tmps := #[.slice A l.length cap, undef, .pointer (some ⟨w.heap.size, 0, none⟩), .pointer (some ⟨b3, 0, none⟩), .int .i64 x.1.1, .string x.1.2, .map (some bm), .slice A l.length cap, .func (.func 71) #[] #[.pointer (some ⟨bs, 0, none⟩)], .int .i64 x.1.1, .string x.1.2, undef, undef, undef, undef, undef, undef], defers := [] })
    (fun x a' s X Y row hs hg hrw => hs)
    ?assign ?body ?done ?stop
  case assign =>
    rintro lp pre ⟨⟨x1, x2⟩, hx⟩ W K hs hK
    dsimp only [twoEnc]
    gi_wp2
    exact hK _ _ (KeepsFrom.of_grownBy (row := none) ⟨rfl, rfl, rfl, Nat.le_refl _, fun _ _ _ => rfl⟩ (by simp)) (KRows.refl _ _ _) hs rfl
  case body =>
    rintro lp pre ⟨⟨x1, x2⟩, hx⟩ a' W hlp hrec ⟨q1, q2, q3, q4, q5⟩ rfl hlt
    dsimp only
    obtain ⟨hx1, hx2, hx3⟩ := id hx
    simp only at hx1 hx2 hx3
    have c3 := q2.cell 0
    have cl3 := q2.lt
    simp only [List.getElem?_toArray, List.getElem?_cons_zero] at c3
    have HM := hide q1
    have hpl : pre.length < l.length := hlt
    have hkey : keyOf Tryd.prog 9 (.string x2) = some (.string x2.data.toList) := by rw [keyOf_string Tryd.underlying9]; unfold mapKey; rw [Tryd.underlying9]; exact if_pos hx3
    have hval : plainElem (H := Unit) Tryd.prog 3 (.int .i64 x1) = some (.lit (.int .i64 x1), []) := plainElem_int Tryd.underlying3 (by
      have e1 : IntKind.i64.min = -9223372036854775808 := rfl
      have e2 : IntKind.i64.max = 9223372036854775807 := rfl
      simp only [Lit.wf, Bool.and_eq_true, decide_eq_true_eq, e1, e2]
      omega)
    have hml : pre.length < maxLen := Nat.lt_of_lt_of_le hpl (Nat.le_trans hlen (by decide))
    have HML := hide hml
    clear hml
    have HKEY := hide hkey
    have HVAL := hide hval
    clear hkey hval q1 hlt hx1 hx2 hx3
    gi_wp2_with (gi_at_mapUpdate; (refine wpListIn_mapUpdate_own _ rfl (.tmp 11) (.tmp 12) (.tmp 13) 64 rfl 9 3 (Maps.string_keyed Tryd.underlying9) Tryd.underlying64 (plainElem (H := Unit) Tryd.prog 3) bm pre.length (mapTo (prs pre)) rfl HM.out HML.out (.string x2) (.int .i64 x1) (.string x2.data.toList) rfl rfl HKEY.out (.lit (.int .i64 x1)) [] HVAL.out ?_); intro w9 hm9 hg9; have HM9 := hide hm9; have HG9 := hide hg9; clear hm9 hg9)
    have h9 := HS1.out
    have hbW : Below w.heap.size W w9 := (Below.refl _ _).grown HG9.out q4.size (fun k e => by cases e; omega)
    refine ⟨KeepsFrom.of_grownBy HG9.out (fun j e => by cases e; omega), ⟨hbW, fun v hv => HG9.out.cell hv (by intro e; injection e with e; simp only at e; omega)⟩, ?_, q2.grown HG9.out (by intro e; injection e; omega), q3.grown HG9.out (by intro e; injection e; omega), q4.trans hbW, Nat.le_trans q5 HG9.out.size⟩
    rw [List.length_append, prs_snoc, mapTo_snoc]
    exact HM9.out
  case done =>
    rintro D ys W hD hys ⟨q1, q2, q3, q4, q5⟩ hK
    have c3 := q2.cell 0
    have cl3 := q2.lt
    have c2 := q3.cell 0
    have c2' := q3.cell 1
    have f2 := q3.frozen 0
    have f2' := q3.frozen 1
    have cl2 := q3.lt
    simp only [List.getElem?_toArray, List.getElem?_cons_zero, List.getElem?_cons_succ] at c3 c2 c2'
    have hyl : ys.length = l.length := by
      have := congrArg List.length hys
      rw [List.length_map, bwdTo_len] at this
      exact this
    rw [show prs ys = bwdTo l l.length from hys, hyl] at q1
    have HM := hide q1
    have HK := hide hK
    clear q1 hys hyl hK
    gi_wp2
    have h9 := HS1.out
    have HG := grownBy_setCell W w.heap.size 0 (.slice A l.length cap)
    have HG2 := grownBy_setCell (W.setCell ⟨w.heap.size, 0, none⟩ (.slice A l.length cap)) w.heap.size 1 (.map (some bm))
    have kE := (q3.set_ 0 (.slice A l.length cap)).set_ 1 (.map (some bm))
    have hK := HK.out
    have hDl := (Array.getElem?_eq_some_iff.1 hK).1
    have hK2 : ((W.setCell ⟨w.heap.size, 0, none⟩ (.slice A l.length cap)).setCell ⟨w.heap.size, 1, none⟩ (.map (some bm))).heap[D]? = some (.deferred (some [])) :=
      (HG2.block D (by simpa using hDl) (fun e => by cases e; omega)).trans ((HG.block D hDl (fun e => by cases e; omega)).trans hK)
    have HG3 := grownBy_putObj' ((W.setCell ⟨w.heap.size, 0, none⟩ (.slice A l.length cap)).setCell ⟨w.heap.size, 1, none⟩ (.map (some bm))) D (.deferred none)
    have kF := kE.grown HG3 (fun e => by injection e; omega)
    have m2 := ((HM.out.kept HG (fun e => by injection e; omega)).kept HG2 (fun e => by injection e; omega)).kept HG3 (fun e => by injection e; omega)
    have bF := ((q4.grown HG q4.size (fun k e => by cases e; exact Nat.le_refl _)).grown HG2 (by simp; exact q4.size) (fun k e => by cases e; exact Nat.le_refl _)).grown HG3 (by simp; exact q4.size) (fun k e => by cases e; omega)
    refine ⟨by simp, .inl ⟨_, _, rfl, run_takeDeferred hK2, ?_⟩⟩
    refine ⟨_, results_cell_row rfl _ _ w.heap.size 79 _ (0, 0) _ rfl kF Tryd.underlying79 rfl (by kernel_rfl), ?_⟩
    exact ⟨bm, rfl, by omega, m2, bF⟩
  case stop =>
    rintro D c pre W _ _ h _
    exact h.elim
end Go.Proofs.YtigkphjgidbppaaDoor
