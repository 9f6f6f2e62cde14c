/- The walk of the law FieldRemarks. Conditions: the packages' variables hold what they hold. -/
import Derived.Test.YtdmkjchmcgjjmaaDoorShown
import Derived.Test.YtdmkjchmcgjjmaaDoorSame
import Derived.Test.YtdmkjchmcgjjmaaDoorRemL
import Derived.Laws.IdiomStrings
namespace Go.Proofs.YtdmkjchmcgjjmaaDoor
open Go Go.RowKit

/-- one record in a fresh block -/
theorem one_rz {w : World} (x : RZ) : Rds (w.alloc (.cells #[.int .i64 x.line, .int .i64 x.a, .int .i64 x.b, .slice x.A x.fs.length x.c] 31)) (w.alloc (.cells #[.int .i64 x.line, .int .i64 x.a, .int .i64 x.b, .slice x.A x.fs.length x.c] 31)).heap.size 4 (some ⟨w.heap.size, 0, none⟩) 1 (zCells [x]) := by
  refine ⟨rfl, by decide, fun _ => ⟨_, _, rfl, by simp, fun j u hu => ?_⟩⟩
  rw [Nat.zero_add, cell_new, List.getElem?_toArray]
  exact hu

set_option maxRecDepth 100000 in
set_option maxHeartbeats 4000000 in
theorem remarks_any (s0 t0 : ByteArray) (B : Nat) (m : Int) (w : World) (hE : FEnv w B m) (hB : B ≤ w.heap.size) : Calls Tryd.prog 9 #[.string s0, .string t0] w (Freed w (.bool true)) := by
  have hsh := shown_any B m w hE hB
  go_enter Tryd.func9, Tryd.ntmps9
  go_wp2_with fail
  refine hsh.mono ?_
  rintro e w1 ⟨rfl, b1⟩
  clear hsh
  have HE1 := hide (hE.below (b1.mono hB))
  have hB1 := Nat.le_trans hB b1.size
  clear hE
  go_wp2_with fail
  have hs : (s0.extract 0 (min (s0.size : Int) 300).toNat).size ≤ 300 := by rw [ByteArray.size_extract]; omega
  generalize s0.extract 0 (min (s0.size : Int) 300).toNat = s at *
  go_wp2_with fail
  have ht : (t0.extract 0 (min (t0.size : Int) 300).toNat).size ≤ 300 := by rw [ByteArray.size_extract]; omega
  generalize t0.extract 0 (min (t0.size : Int) 300).toNat = t at *
  have hl1 := Line_any s B m w1 HE1.out hB1 (by omega)
  have HLR := hide (line_remark s t)
  have hsz : (⟨#[32]⟩ ++ s ++ ⟨#[9, 35]⟩ ++ t : ByteArray).size ≤ 603 := by
    rw [ByteArray.size_append, ByteArray.size_append, ByteArray.size_append]
    show 1 + s.size + 2 + t.size ≤ 603
    omega
  generalize hR : lineB s = R at *
  clear hR
  obtain ⟨R1, R2⟩ := R
  go_wp2_with fail
  refine hl1.mono ?_
  rintro e w2 ⟨a, b, fs, A, c, rfl, he, -, -, hc1, hr1, b2⟩
  clear hl1
  have c2 := b1.trans (b2.mono b1.size)
  have HE2 := hide (HE1.out.below (b2.mono hB1))
  have hB2 := Nat.le_trans hB1 b2.size
  dsimp only at he
  have HGE := hide he
  clear he
  go_wp2_with fail
  obtain ⟨g2, hg2⟩ : ∃ g2 : Nat, g2 = w2.heap.size := ⟨_, rfl⟩
  obtain ⟨W2, hW2⟩ : ∃ W2 : World, W2 = w2.alloc (.cells #[.int .i64 0, .int .i64 (a : Int), .int .i64 (b : Int), .slice A fs.length c] 31) := ⟨_, rfl⟩
  have kb : Blk W2 g2 31 #[.int .i64 0, .int .i64 (a : Int), .int .i64 (b : Int), .slice A fs.length c] := by rw [hW2, hg2]; exact Blk.new _ _ _
  have c2' : Below w.heap.size w W2 := by rw [hW2]; exact c2.alloc c2.size _
  have d2 : Below w2.heap.size w2 W2 := by rw [hW2]; exact (Below.refl _ _).alloc (Nat.le_refl _) _
  have r2 : Rds W2 W2.heap.size 1 A fs.length (strCells fs) := by rw [hW2]; exact hr1.alloc (Nat.le_refl _) _
  rw [← hW2, ← hg2]
  clear hW2 hg2 hr1
  have HE3 := hide (HE2.out.below (d2.mono hB2))
  have hB3 := Nat.le_trans hB2 d2.size
  have hl2 := Line_any (⟨#[32]⟩ ++ s ++ ⟨#[9, 35]⟩ ++ t) B m W2 HE3.out hB3 (by omega)
  rw [HLR.out] at hl2
  go_wp2_with fail
  refine hl2.mono ?_
  rintro e w3 ⟨a', b', fs', A', c', rfl, he, -, -, hc2, hr3, b3⟩
  clear hl2
  dsimp only at he
  rw [HGE.out] at he
  simp only [Prod.mk.injEq] at he
  obtain ⟨rfl, rfl, rfl⟩ := he
  clear HGE HLR
  have c3 := c2'.trans (b3.mono c2'.size)
  have kb3 := kb.below b3 kb.lt
  have r23 := (r2.below b3).more b3.size
  have d0 := kb3.cell 0
  have d1 := kb3.cell 1
  have d2 := kb3.cell 2
  have d3 := kb3.cell 3
  simp only [List.getElem?_toArray, List.getElem?_cons_zero, List.getElem?_cons_succ] at d0 d1 d2 d3
  have hlt3 := kb3.lt
  obtain ⟨W3, hW3⟩ : ∃ W3 : World, W3 = w3.alloc (.cells #[.int .i64 0, .int .i64 (a : Int), .int .i64 (b : Int), .slice A' fs.length c'] 31) := ⟨_, rfl⟩
  obtain ⟨W4, hW4⟩ : ∃ W4 : World, W4 = W3.alloc (.cells #[.int .i64 0, .int .i64 (a : Int), .int .i64 (b : Int), .slice A fs.length c] 31) := ⟨_, rfl⟩
  obtain ⟨W5, hW5⟩ : ∃ W5 : World, W5 = W4.alloc (.cells #[.int .i64 0, .int .i64 (a : Int), .int .i64 (b : Int), .slice A' fs.length c'] 31) := ⟨_, rfl⟩
  have b35 : Below w3.heap.size w3 W5 := by
    rw [hW5, hW4, hW3]
    exact (((Below.refl _ _).alloc (Nat.le_refl _) _).alloc (by simp) _).alloc (by simp; omega) _
  have HC5 := hide (c3.trans (b35.mono c3.size))
  have q1 : Rds W5 W5.heap.size 4 (some ⟨W3.heap.size, 0, none⟩) 1 (zCells [⟨0, a, b, fs, A, c⟩]) := by
    rw [hW5, hW4]
    exact (one_rz ⟨0, a, b, fs, A, c⟩).alloc (Nat.le_refl _) _
  have q2 : Rds W5 W5.heap.size 4 (some ⟨W4.heap.size, 0, none⟩) 1 (zCells [⟨0, a, b, fs, A', c'⟩]) := by
    rw [hW5]
    exact one_rz ⟨0, a, b, fs, A', c'⟩
  have f1 : Zflds W5 W5.heap.size [⟨0, a, b, fs, A, c⟩] := fun x hx => by
    rw [List.mem_singleton] at hx
    subst hx
    exact (r23.below b35).more b35.size
  have f2 : Zflds W5 W5.heap.size [⟨0, a, b, fs, A', c'⟩] := fun x hx => by
    rw [List.mem_singleton] at hx
    subst hx
    exact (hr3.below b35).more b35.size
  have hsm := same_any _ _ 1 1 1 1 _ _ W5 q1 q2 f1 f2
  rw [show List.map RZ.rc [(⟨0, a, b, fs, A, c⟩ : RZ)] = List.map RZ.rc [(⟨0, a, b, fs, A', c'⟩ : RZ)] from rfl, decide_eq_true rfl] at hsm
  have e3 : W3.heap.size = w3.heap.size + 1 := by rw [hW3]; simp
  have e4 : W4.heap.size = w3.heap.size + 1 + 1 := by rw [hW4]; simp [e3]
  rw [e3, e4] at hsm
  clear e3 e4
  rw [hW5, hW4, hW3] at hsm HC5
  clear q1 q2 f1 f2 b35 hW5 hW4 hW3 W5 W4 W3 r23 hr3 c3 kb3 kb r2 HE3 HE2 hc1 hc2 b3
  dsimp only
  go_wp2_with fail
  refine hsm.mono ?_
  rintro e w6 ⟨rfl, b6⟩
  have HC6 := hide (HC5.out.trans (b6.mono HC5.out.size))
  clear hsm
  go_wp2_with fail
  go_ret
  exact ⟨rfl, HC6.out⟩
end Go.Proofs.YtdmkjchmcgjjmaaDoor
