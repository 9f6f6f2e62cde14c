/- The walk of the law FieldLines. Conditions: the packages' variables hold what they hold. -/
import Derived.Test.YtdmkjchmcgjjmaaDoorRefSame
import Derived.Test.YtdmkjchmcgjjmaaDoorRefParse
import Derived.Test.YtdmkjchmcgjjmaaDoorRemarks
import Derived.Test.YtdmkjchmcgjjmaaDoorJoins
namespace Go.Proofs.YtdmkjchmcgjjmaaDoor
open Go Go.RowKit

set_option maxRecDepth 100000 in
set_option maxHeartbeats 4000000 in
theorem linesLaw_any (s0 : ByteArray) (B : Nat) (m : Int) (w : World) (hE : FEnv w B m) (hB : B ≤ w.heap.size) : Calls Tryd.prog 3 #[.string s0] w (Freed w (.bool true)) := by
  have hsh := shown_any B m w hE hB
  go_enter Tryd.func3, Tryd.ntmps3
  go_wp2_with fail
  refine hsh.mono ?_
  rintro e w1 ⟨rfl, b1⟩
  clear hsh
  have HE1 := hide (hE.below (b1.mono hB))
  have hB1 := Nat.le_trans hB b1.size
  clear hE
  go_wp2_with fail
  refine (cut_law s0 w1).mono ?_
  rintro e _ ⟨s, rfl, hs, rfl⟩
  have hc1 := Code_any s w1 (by omega)
  have hc2 := fun W => refCode_any s W
  unfold codeV at hc1 hc2
  go_wp2_with fail
  refine hc1.mono ?_
  rintro e w2 ⟨rfl, b2⟩
  clear hc1
  have C2 := hide (b1.trans (b2.mono b1.size))
  have HE2 := hide (HE1.out.below (b2.mono hB1))
  have hB2 := Nat.le_trans hB1 b2.size
  go_wp2_with fail
  refine (hc2 w2).mono ?_
  rintro e _ ⟨rfl, rfl⟩
  clear hc2
  generalize codeB s = cb
  have hd1 := Codes_any s B m w2 HE2.out hB2 (by omega)
  have hd2 := fun W => refCodes_any s W (by omega)
  go_wp2_with fail
  refine hd1.mono ?_
  rintro e w3 ⟨v3, rfl, h3, b3⟩
  clear hd1
  have C3 := hide (C2.out.trans (b3.mono C2.out.size))
  have HE3 := hide (HE2.out.below (b3.mono hB2))
  have hB3 := Nat.le_trans hB2 b3.size
  have H3 := hide h3
  clear h3
  go_wp2_with fail
  refine (hd2 w3).mono ?_
  rintro e w4 ⟨v4, rfl, h4, b4⟩
  clear hd2
  have C4 := hide (C3.out.trans (b4.mono C3.out.size))
  have HE4 := hide (HE3.out.below (b4.mono hB3))
  have hB4 := Nat.le_trans hB3 b4.size
  have H34 := hide (own_below H3.out b4)
  have H4 := hide h4
  have HCZ := hide (show ((codesB s).getD []).length ≤ 601 by
    cases h : codesB s with
    | none => exact Nat.zero_le _
    | some l => exact Nat.le_trans (codes_len h) (by omega))
  clear h4 H3 b1 b2 b3
  generalize codesB s = oc at *
  have hl1 := Line_any s B m w4 HE4.out hB4 (by omega)
  have hl2 := fun W => refLine_any s W (by omega)
  generalize lineB s = R at *
  obtain ⟨R1, R2⟩ := R
  go_wp2_with fail
  refine hl1.mono ?_
  rintro e w5 ⟨a, b, fs, A, c, rfl, he, -, -, hk1, hr5, b5⟩
  clear hl1
  have C5 := hide (C4.out.trans (b5.mono C4.out.size))
  have HE5 := hide (HE4.out.below (b5.mono hB4))
  have hB5 := Nat.le_trans hB4 b5.size
  have H35 := hide (own_below H34.out b5)
  have H45 := hide (own_below H4.out b5)
  dsimp only at he
  have HGE := hide he
  clear he H34 H4
  go_wp2_with fail
  obtain ⟨g5, hg5⟩ : ∃ g5 : Nat, g5 = w5.heap.size := ⟨_, rfl⟩
  obtain ⟨W5, hW5⟩ : ∃ W5 : World, W5 = w5.alloc (.cells #[.int .i64 0, .int .i64 (a : Int), .int .i64 (b : Int), .slice A fs.length c] 31) := ⟨_, rfl⟩
  have K5 := hide (show Blk W5 g5 31 #[.int .i64 0, .int .i64 (a : Int), .int .i64 (b : Int), .slice A fs.length c] by rw [hW5, hg5]; exact Blk.new _ _ _)
  have d5 : Below w5.heap.size w5 W5 := by rw [hW5]; exact (Below.refl _ _).alloc (Nat.le_refl _) _
  have CC5 := hide (C5.out.trans (d5.mono C5.out.size))
  have R5 := hide ((hr5.below d5).more d5.size)
  have H3a := hide (own_below H35.out d5)
  have H4a := hide (own_below H45.out d5)
  have HEa := hide (HE5.out.below (d5.mono hB5))
  have hBa := Nat.le_trans hB5 d5.size
  rw [← hW5, ← hg5]
  clear hW5 hg5 hr5 H35 H45 C5 d5
  go_wp2_with fail
  refine (hl2 W5).mono ?_
  rintro e w6 ⟨a', b', fs', A', c', rfl, he, hcase, b6⟩
  clear hl2
  dsimp only at he hcase
  have hf6 : Rds w6 w6.heap.size 1 A' fs'.length (strCells fs') := by
    rcases hcase with ⟨rfl, rfl, rfl⟩ | h
    · simp only [Option.getD_none, Prod.mk.injEq] at he
      rw [← he.2.2]
      exact ⟨rfl, by decide, fun h => absurd h (by decide)⟩
    · exact h.1.rds (by have := h.2.2.2.1; show fs'.length ≤ _; have h2 : fs'.length ≤ 20 := h.2.2.2.1; omega)
  rw [HGE.out] at he
  simp only [Prod.mk.injEq] at he
  obtain ⟨rfl, rfl, rfl⟩ := he
  clear HGE hcase
  have C6 := hide (CC5.out.trans (b6.mono CC5.out.size))
  have H36 := hide (own_below H3a.out b6)
  have H46 := hide (own_below H4a.out b6)
  have HE6 := hide (HEa.out.below (b6.mono hBa))
  have hB6 := Nat.le_trans hBa b6.size
  have K56 := hide (K5.out.below b6 K5.out.lt)
  have R56 := hide ((R5.out.below b6).more b6.size)
  clear H3a H4a R5 K5 CC5
  dsimp only
  go_wp2_with fail
  obtain ⟨g6, hg6⟩ : ∃ g6 : Nat, g6 = w6.heap.size := ⟨_, rfl⟩
  obtain ⟨W6, hW6⟩ : ∃ W6 : World, W6 = w6.alloc (.cells #[.int .i64 0, .int .i64 (a : Int), .int .i64 (b : Int), .slice A' fs.length c'] 31) := ⟨_, rfl⟩
  have K6 := hide (show Blk W6 g6 31 #[.int .i64 0, .int .i64 (a : Int), .int .i64 (b : Int), .slice A' fs.length c'] by rw [hW6, hg6]; exact Blk.new _ _ _)
  have d6 : Below w6.heap.size w6 W6 := by rw [hW6]; exact (Below.refl _ _).alloc (Nat.le_refl _) _
  have CC6 := hide (C6.out.trans (d6.mono C6.out.size))
  have K5b := hide (K56.out.below d6 K56.out.lt)
  have R5b := hide ((R56.out.below d6).more d6.size)
  have R6b := hide ((hf6.below d6).more d6.size)
  have H3b := hide (own_below H36.out d6)
  have H4b := hide (own_below H46.out d6)
  have HEb := hide (HE6.out.below (d6.mono hB6))
  have hBb := Nat.le_trans hB6 d6.size
  rw [← hW6, ← hg6]
  clear hW6 hg6 hf6 H36 H46 C6 d6 K56 R56
  have hp1 := Parse_any s B m W6 HEb.out hBb (by omega)
  have hp2 := fun W => refParse_any s W (by omega)
  have HFL := hide (file_few hs)
  generalize fileB s = S at *
  obtain ⟨S0, S1, S2⟩ := S
  go_wp2_with fail
  refine hp1.mono ?_
  rintro e w7 ⟨X, v7, rfl, hX, h7, hf7, b7⟩
  clear hp1
  have C7 := hide (CC6.out.trans (b7.mono CC6.out.size))
  have RX7 := hide (RowR.mk h7 hf7)
  have HX := hide hX
  have H37 := hide (own_below H3b.out b7)
  have H47 := hide (own_below H4b.out b7)
  have K57 := hide (K5b.out.below b7 K5b.out.lt)
  have K67 := hide (K6.out.below b7 K6.out.lt)
  have R57 := hide ((R5b.out.below b7).more b7.size)
  have R67 := hide ((R6b.out.below b7).more b7.size)
  clear hX h7 hf7 H3b H4b K5b K6 R5b R6b
  go_wp2_with fail
  refine (hp2 w7).mono ?_
  rintro e w8 ⟨Y, v8, rfl, hY, h8, hf8, b8⟩
  clear hp2
  have C8 := hide (C7.out.trans (b8.mono C7.out.size))
  have RY8 := hide (RowR.mk h8 hf8)
  have RX8 := hide (RX7.out.below b8)
  have HY := hide hY
  have H38 := hide (own_below H37.out b8)
  have H48 := hide (own_below H47.out b8)
  have K58 := hide (K57.out.below b8 K57.out.lt)
  have K68 := hide (K67.out.below b8 K67.out.lt)
  have R58 := hide ((R57.out.below b8).more b8.size)
  have R68 := hide ((R67.out.below b8).more b8.size)
  clear hY h8 hf8 H37 H47 K57 K67 R57 R67 RX7 b4 b5 b6 b7 b8 C2 C3 C4 CC6 C7 HE1 HE2 HE3 HE4 HE5 HE6 HEa HEb
  obtain ⟨A3, k3, rfl, _, q3⟩ := own_rds H38.out (Nat.le_refl _) (by have := HCZ.out; omega)
  obtain ⟨A4, k4, rfl, _, q4⟩ := own_rds H48.out (Nat.le_refl _) (by have := HCZ.out; omega)
  obtain ⟨A7, k7, rfl, _⟩ := RX8.out.form
  obtain ⟨A8, k8, rfl, _⟩ := RY8.out.form
  dsimp only at HX HY HFL ⊢
  have hin := ints_any A3 A4 _ k3 _ k4 _ _ w8 q3 q4
  rw [decide_eq_true rfl] at hin
  clear q3 q4 H38 H48
  go_wp2_with fail
  refine hin.mono ?_
  rintro e w9 ⟨rfl, hq9⟩
  clear hin
  have b9 : Below w8.heap.size w8 w9 := by obtain ⟨q, e⟩ := hq9; rw [e]; exact drewN_below _ _ q
  have C9 := hide (C8.out.trans (b9.mono C8.out.size))
  have RX9 := hide (RX8.out.below b9)
  have RY9 := hide (RY8.out.below b9)
  have kb5 := K58.out.below b9 K58.out.lt
  have kb6 := K68.out.below b9 K68.out.lt
  have r59 := (R58.out.below b9).more b9.size
  have r69 := (R68.out.below b9).more b9.size
  clear hq9 b9 C8 RX8 RY8 K58 K68 R58 R68
  have d0 := kb5.cell 0
  have d1 := kb5.cell 1
  have d2 := kb5.cell 2
  have d3 := kb5.cell 3
  have e0 := kb6.cell 0
  have e1 := kb6.cell 1
  have e2 := kb6.cell 2
  have e3 := kb6.cell 3
  simp only [List.getElem?_toArray, List.getElem?_cons_zero, List.getElem?_cons_succ] at d0 d1 d2 d3 e0 e1 e2 e3
  have hlt5 := kb5.lt
  have hlt6 := kb6.lt
  obtain ⟨Wa, hWa⟩ : ∃ Wa : World, Wa = w9.alloc (.cells #[.int .i64 0, .int .i64 (a : Int), .int .i64 (b : Int), .slice A fs.length c] 31) := ⟨_, rfl⟩
  obtain ⟨Wb, hWb⟩ : ∃ Wb : World, Wb = Wa.alloc (.cells #[.int .i64 0, .int .i64 (a : Int), .int .i64 (b : Int), .slice A' fs.length c'] 31) := ⟨_, rfl⟩
  have b9b : Below w9.heap.size w9 Wb := by
    rw [hWb, hWa]
    exact ((Below.refl _ _).alloc (Nat.le_refl _) _).alloc (by simp) _
  have HCb := hide (C9.out.trans (b9b.mono C9.out.size))
  have RXb := hide (RX9.out.below b9b)
  have RYb := hide (RY9.out.below b9b)
  have q1 : Rds Wb Wb.heap.size 4 (some ⟨w9.heap.size, 0, none⟩) 1 (zCells [⟨0, a, b, fs, A, c⟩]) := by
    rw [hWb, hWa]
    exact (one_rz ⟨0, a, b, fs, A, c⟩).alloc (Nat.le_refl _) _
  have q2 : Rds Wb Wb.heap.size 4 (some ⟨Wa.heap.size, 0, none⟩) 1 (zCells [⟨0, a, b, fs, A', c'⟩]) := by
    rw [hWb]
    exact one_rz ⟨0, a, b, fs, A', c'⟩
  have f1 : Zflds Wb Wb.heap.size [⟨0, a, b, fs, A, c⟩] := fun x hx => by
    rw [List.mem_singleton] at hx
    subst hx
    exact (r59.below b9b).more b9b.size
  have f2 : Zflds Wb Wb.heap.size [⟨0, a, b, fs, A', c'⟩] := fun x hx => by
    rw [List.mem_singleton] at hx
    subst hx
    exact (r69.below b9b).more b9b.size
  have hsm := refSame_any _ _ 1 1 1 1 _ _ Wb q1 q2 f1 f2
  rw [show List.map RZ.rc [(⟨0, a, b, fs, A, c⟩ : RZ)] = List.map RZ.rc [(⟨0, a, b, fs, A', c'⟩ : RZ)] from rfl, decide_eq_true rfl] at hsm
  have z3 : Wa.heap.size = w9.heap.size + 1 := by rw [hWa]; simp
  rw [z3] at hsm
  clear z3 q1 q2 f1 f2 b9b r59 r69 C9 RX9 RY9 kb5 kb6
  rw [hWb, hWa] at hsm HCb RXb RYb
  clear hWb hWa Wb Wa
  go_wp2_with fail
  refine hsm.mono ?_
  rintro e wc ⟨rfl, q, hqc⟩
  clear hsm
  have HCc := hide (below_drewN HCb.out q)
  have RXc := hide (RXb.out.below (drewN_below _ _ q))
  have RYc := hide (RYb.out.below (drewN_below _ _ q))
  rw [← hqc] at HCc RXc RYc
  have hxy : (X.map RX.rc) = (Y.map RX.rc) := by rw [HX.out, HY.out]
  have hxn : X.length ≤ 101 := by have := HFL.out.2.1; rw [← HX.out, List.length_map] at this; exact this
  have hyn : Y.length ≤ 101 := by have := HFL.out.2.1; rw [← HY.out, List.length_map] at this; exact this
  have hs2 := refSame_any _ _ X.length k7 Y.length k8 _ _ wc (RXc.out.rds (by omega)) (RYc.out.rds (by omega)) RXc.out.flds RYc.out.flds
  rw [z_rcs, z_rcs, hxy, decide_eq_true rfl] at hs2
  clear hqc HCb RXb RYb RXc RYc hxy hxn hyn HX HY HFL
  go_wp2_with fail
  refine hs2.mono ?_
  rintro e _ ⟨rfl, q, rfl⟩
  go_wp2_with fail
  go_ret
  exact ⟨rfl, below_drewN HCc.out q⟩
end Go.Proofs.YtdmkjchmcgjjmaaDoor
