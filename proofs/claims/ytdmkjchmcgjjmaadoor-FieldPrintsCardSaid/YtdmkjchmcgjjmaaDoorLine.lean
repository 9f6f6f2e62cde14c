/- The program's field.Line. Conditions: the text is of moderate size; the package's variables hold what they hold. -/
import Derived.Laws.ResultCell
import Derived.Test.YtdmkjchmcgjjmaaDoorRecord
namespace Go.Proofs.YtdmkjchmcgjjmaaDoor
open Go Go.RowKit

theorem results_cell_row_tmp2 {P : Program} {fn : Func} {p u v : Tmp} {ty : TypeId} (h : fn.results = #[.cell p ty, .tmp u, .tmp v]) (tmps : Array Value) (w : World) (g : Nat) (t : TypeId) (cs : Array Value) (fr : Nat × Nat) (d : TypeDesc)
    (hp : tmps.getD p undef = .pointer (some ⟨g, 0, none⟩)) (hg : w.heap[g]? = some (.cells cs t fr))
    (hu : P.underlying ty = some d) (hd : (match d with | .struct _ | .array _ _ => true | _ => false) = true) (hi : (P.info? ty).map (·.size) = some cs.size) :
    (results fn tmps).run P w = .ok (.tuple #[.agg cs, tmps.getD u undef, tmps.getD v undef]) w := by
  have h1 : (results fn tmps).run P w =
      ((asAddr (tmps.getD p undef)).run P w).andThen fun a w₁ => ((loadVar ty a).run P w₁).andThen fun v' w₂ => .ok (.tuple #[v', tmps.getD u undef, tmps.getD v undef]) w₂ := by
    simp only [results, h]
    simp [Sem.run_bind, Result.andThen]
  rw [h1, hp]
  simp [asAddr, run_loadVar_row w g t ty cs fr d hg hu hd hi]
theorem told_errV (k : Int) (B : Nat) (m : Int) (w : World) (hE : FEnv w B m) : Calls Tryd.prog 33 #[errV k] w (Freed w (.int .i64 k)) := by
  unfold errV errW
  split
  · rename_i h
    subst h
    exact told_nil w
  · exact told_any k w hE.hT
/-- four cells are written -/
def set4 (w : World) (b : Nat) (v0 v1 v2 v3 : Value) : World := (((w.setCell ⟨b, 0, none⟩ v0).setCell ⟨b, 1, none⟩ v1).setCell ⟨b, 2, none⟩ v2).setCell ⟨b, 3, none⟩ v3
theorem set4_blk {w : World} {b : Nat} {t : TypeId} {x0 x1 x2 x3 : Value} (h : Blk w b t #[x0, x1, x2, x3]) (v0 v1 v2 v3 : Value) : Blk (set4 w b v0 v1 v2 v3) b t #[v0, v1, v2, v3] :=
  (((h.set_ 0 v0).set_ 1 v1).set_ 2 v2).set_ 3 v3
theorem set4_grown (w : World) (b : Nat) (v0 v1 v2 v3 : Value) : w.grownBy (set4 w b v0 v1 v2 v3) (some b) := by
  refine ⟨rfl, rfl, rfl, by simp [set4], fun k hk hne => ?_⟩
  have hkb : k ≠ b := fun e => hne (by rw [e])
  unfold set4
  rw [Below.heap_setCell _ _ _ _ hkb, Below.heap_setCell _ _ _ _ hkb, Below.heap_setCell _ _ _ _ hkb, Below.heap_setCell _ _ _ _ hkb]
theorem rds_grown {w w' : World} {lo B size n b : Nat} {A : Option Addr} {xs : List Value} (h : Rds w B size A n xs) (hlo : ∀ p, A = some p → lo ≤ p.block) (hg : w.grownBy w' (some b)) (hb : b < lo) (hB : B ≤ w.heap.size) : Rds w' B size A n xs := by
  refine ⟨h.1, h.2.1, fun hn => ?_⟩
  obtain ⟨k, o, e, hk, hc⟩ := h.2.2 hn
  refine ⟨k, o, e, hk, fun j u hu => ?_⟩
  have h1 := hlo _ e
  have h2 : w'.heap[k]? = w.heap[k]? := hg.block k (by omega) (fun e => by injection e with e; simp at h1; omega)
  have h3 := hc j u hu
  unfold World.cell? at h3 ⊢
  simpa [h2] using h3
/-- what Line answers -/
def LineA (w : World) (r : Int × Option (Nat × Nat × List ByteArray)) (e : Ending) (w' : World) : Prop :=
  ∃ (a b : Nat) (fs : List ByteArray) (A : Option Addr) (c : Nat), e = .returned (.tuple #[.agg #[.int .i64 0, .int .i64 (a : Int), .int .i64 (b : Int), .slice A fs.length c], .bool r.2.isSome, .int .i64 r.1]) ∧
    r.2.getD (0, 0, []) = (a, b, fs) ∧ a < 2 ^ 24 ∧ b < 2 ^ 24 ∧ fs.length ≤ c ∧ Rds w' w'.heap.size 1 A fs.length (strCells fs) ∧ Below w.heap.size w w'

set_option maxRecDepth 100000 in
set_option maxHeartbeats 4000000 in
theorem Line_any (s : ByteArray) (B : Nat) (m : Int) (w : World) (hE : FEnv w B m) (hB : B ≤ w.heap.size) (hs : s.size ≤ 100000) : Calls Tryd.prog 16 #[.string s] w (LineA w (lineB s)) := by
  have hrec := fun (W : World) h1 h2 => record_any s B m W h1 h2 hs
  generalize lineB s = R at *
  go_enter Tryd.func16, Tryd.ntmps16
  go_wp2_with fail
  obtain ⟨W0, hW0⟩ : ∃ W0 : World, W0 = w.alloc (.cells #[.int .i64 0, .int .i64 0, .int .i64 0, .slice none 0 0] 31) := ⟨_, rfl⟩
  obtain ⟨b0, hb0⟩ : ∃ b0 : Nat, b0 = w.heap.size := ⟨_, rfl⟩
  have kb : Blk W0 b0 31 #[.int .i64 0, .int .i64 0, .int .i64 0, .slice none 0 0] := by rw [hW0, hb0]; exact Blk.new _ _ _
  have hbl : Below w.heap.size w W0 := by rw [hW0]; exact (Below.refl _ _).alloc (Nat.le_refl _) _
  have hsz : b0 < W0.heap.size := by rw [hW0, hb0]; simp
  have hwb : w.heap.size ≤ b0 := by omega
  rw [← hW0, ← hb0]
  clear hW0 hb0
  refine (hrec W0 (hE.below (hbl.mono hB)) (Nat.le_trans hB hbl.size)).mono ?_
  rintro e w1 h
  clear hrec
  have HE := hide hE
  clear hE
  rcases h with ⟨hn, rfl, hb1⟩ | ⟨a, b, fs, g, A, c, hR, ha, hb, rfl, hg, kg, hc, hf1, hf2, hfld, hb1⟩
  · have HN := hide hn
    have HB1 := hide (hbl.trans (hb1.mono hbl.size))
    have hto := told_errV R.1 B m w1 (HE.out.below (HB1.out.mono hB))
    have kb1 := kb.below hb1 hsz
    clear hn
    generalize errV R.1 = ev at *
    obtain ⟨R1, R2⟩ := R
    dsimp only at hto
    go_wp2_with fail
    refine hto.mono ?_
    rintro e w2 ⟨rfl, hb2⟩
    clear hto
    have HB2 := hide (HB1.out.trans (hb2.mono HB1.out.size))
    have kb2 := kb1.below hb2 kb1.lt
    have d0 := kb2.cell 0
    have d1 := kb2.cell 1
    have d2 := kb2.cell 2
    have d3 := kb2.cell 3
    have f0 := kb2.frozen 0
    have f1 := kb2.frozen 1
    have f2 := kb2.frozen 2
    have f3 := kb2.frozen 3
    have lb := kb2.lt
    simp only [List.getElem?_toArray, List.getElem?_cons_zero, List.getElem?_cons_succ] at d0 d1 d2 d3
    have HK := hide kb2
    clear kb kb1 kb2
    go_wp2_with fail
    have hsub : R2 = none := HN.out
    subst hsub
    refine bodyPost_ret (results_cell_row_tmp2 rfl _ _ b0 31 _ _ _ rfl (set4_blk HK.out (.int .i64 0) (.int .i64 0) (.int .i64 0) (.slice none 0 0)) Tryd.underlying31 rfl (by kernel_rfl)) rfl ?_
    exact ⟨0, 0, [], none, 0, rfl, rfl, by decide, by decide, Nat.le_refl _, ⟨rfl, by decide, fun h => absurd h (by decide)⟩, HB2.out.grown (set4_grown _ _ _ _ _ _) HB2.out.size (fun k e => by cases e; exact hwb)⟩
  · have HB1 := hide (hbl.trans (hb1.mono hbl.size))
    have HR := hide hR
    have HA := hide ha
    have HBB := hide hb
    have HC := hide hc
    have hgl := kg.lt
    have hszl := hsz
    have HRD := hide (hfld.rds (by omega))
    have hfar := hfld.far
    clear hfld
    have c0 := kg.cell 0
    have c1 := kg.cell 1
    have c2 := kg.cell 2
    have c3 := kg.cell 3
    simp only [List.getElem?_toArray, List.getElem?_cons_zero, List.getElem?_cons_succ] at c0 c1 c2 c3
    have kb2 := kb.below hb1 hsz
    have d0 := kb2.cell 0
    have d1 := kb2.cell 1
    have d2 := kb2.cell 2
    have d3 := kb2.cell 3
    have f0 := kb2.frozen 0
    have f1 := kb2.frozen 1
    have f2 := kb2.frozen 2
    have f3 := kb2.frozen 3
    have lb := kb2.lt
    simp only [List.getElem?_toArray, List.getElem?_cons_zero, List.getElem?_cons_succ] at d0 d1 d2 d3
    have HK := hide kb2
    clear hR ha hb hc kb kb2 kg
    go_wp2_with fail
    have HG := set4_grown w1 b0 (.int .i64 0) (.int .i64 (a : Int)) (.int .i64 (b : Int)) (.slice A fs.length c)
    refine bodyPost_ret (results_cell_row_tmp2 rfl _ _ b0 31 _ _ _ rfl (set4_blk HK.out (.int .i64 0) (.int .i64 (a : Int)) (.int .i64 (b : Int)) (.slice A fs.length c)) Tryd.underlying31 rfl (by kernel_rfl)) rfl ?_
    refine ⟨a, b, fs, A, c, by rw [HR.out]; rfl, by rw [HR.out]; rfl, HA.out, HBB.out, HC.out, ?_, HB1.out.grown HG HB1.out.size (fun k e => by cases e; exact hwb)⟩
    exact (rds_grown HRD.out hfar HG (by omega) (Nat.le_refl _)).more (by simp)
end Go.Proofs.YtdmkjchmcgjjmaaDoor
