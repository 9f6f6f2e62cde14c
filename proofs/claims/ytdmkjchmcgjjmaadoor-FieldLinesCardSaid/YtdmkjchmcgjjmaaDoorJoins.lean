/- The walk of the law FieldJoins. Conditions: the packages' variables hold what they hold. -/
import Derived.Test.YtdmkjchmcgjjmaaDoorCodesLaw
import Derived.Test.YtdmkjchmcgjjmaaDoorRowR
import Derived.Test.YtdmkjchmcgjjmaaDoorJoinL
namespace Go.Proofs.YtdmkjchmcgjjmaaDoor
open Go Go.RowKit

theorem cut_law (s : ByteArray) (w : World) : Calls Tryd.prog 11 #[.string s] w (fun e w' => ∃ s' : ByteArray, e = .returned (.string s') ∧ s'.size ≤ 600 ∧ w = w') := by
  go_enter Tryd.func11, Tryd.ntmps11
  go_wp2_with fail
  go_ret
  exact ⟨_, rfl, by rw [ByteArray.size_extract]; omega, rfl⟩

theorem count_step {l : List UInt8} {k : Nat} (h : k < l.length) : (l.take (k + 1)).count 10 = (l.take k).count 10 + if l[k] = 10 then 1 else 0 := by
  rw [List.take_succ_eq_append_getElem h, List.count_append, List.count_cons, List.count_nil]
  simp

theorem apart_lt {v u : Value} {b : Nat} (hv : ∀ k, v.ownBlock = some k → k < b) (hu : ∀ k, u.ownBlock = some k → b ≤ k) : v.ownBlock = none ∨ v.ownBlock ≠ u.ownBlock := by
  cases h : v.ownBlock with
  | none => exact .inl rfl
  | some k =>
    right
    intro e
    have h1 := hv k h
    have h2 := hu k e.symm
    omega
def shX (L : Nat) (x : RX) : RX := { x with line := x.line + L }
def turnY (L k : Nat) (Y : List RX) : List RX := (Y.take k).map (shX L) ++ Y.drop k
theorem turnY_len (L k : Nat) (Y : List RX) : (turnY L k Y).length = Y.length := by
  unfold turnY
  rw [List.length_append, List.length_map, List.length_take, List.length_drop]
  omega
theorem turnY_get {L k : Nat} {Y : List RX} (h : k < Y.length) : (turnY L k Y)[k]'(by rw [turnY_len]; exact h) = Y[k] := by
  unfold turnY
  rw [List.getElem_append_right (by simp; omega)]
  simp
  congr 1
  omega
theorem turnY_step {L k : Nat} {Y : List RX} (h : k < Y.length) : (turnY L k Y).set k { (turnY L k Y)[k]'(by rw [turnY_len]; exact h) with line := Y[k].line + L } = turnY L (k + 1) Y := by
  rw [turnY_get h]
  unfold turnY
  have hl : (List.map (shX L) (List.take k Y)).length = k := by rw [List.length_map, List.length_take]; omega
  rw [List.take_succ_eq_append_getElem h, List.map_append, List.append_assoc, List.set_append_right, drop_cons h, hl, Nat.sub_self]
  · rfl
  · rw [hl]
    exact Nat.le_refl _
theorem turnY_all (L : Nat) (Y : List RX) : turnY L Y.length Y = Y.map (shX L) := by
  unfold turnY
  rw [List.take_length, List.drop_length, List.append_nil]
theorem turnY_rc (L : Nat) (Y : List RX) : (Y.map (shX L)).map RX.rc = (Y.map RX.rc).map (shiftR L) := by
  rw [List.map_map, List.map_map]
  rfl

set_option maxRecDepth 100000 in
set_option maxHeartbeats 4000000 in
theorem joins_any (s0 t0 : ByteArray) (B : Nat) (m : Int) (w : World) (hE : FEnv w B m) (hB : B ≤ w.heap.size) : Calls Tryd.prog 8 #[.string s0, .string t0] w (Freed w (.bool true)) := by
  obtain ⟨i0, hi, hz0, hz1, hz2⟩ := info_parts info31
  have hsh := shown_any B m w hE hB
  go_enter Tryd.func8, Tryd.ntmps8
  go_wp2_with fail
  refine hsh.mono ?_
  rintro e w1 ⟨rfl, b1⟩
  clear hsh
  have HE1 := hide (hE.below (b1.mono hB))
  have hB1 := Nat.le_trans hB b1.size
  clear hE
  go_wp2_with fail
  refine (cut_law s0 w1).mono ?_
  rintro e _ ⟨s, rfl, hs, rfl⟩
  go_wp2_with fail
  refine (cut_law t0 w1).mono ?_
  rintro e _ ⟨t, rfl, ht, rfl⟩
  have HJ := hide (file_join hs ht)
  have hsz : (s ++ ⟨#[10]⟩ ++ t).size ≤ 1201 := by
    rw [ByteArray.size_append, ByteArray.size_append]
    show s.size + 1 + t.size ≤ 1201
    omega
  have hp1 := Parse_any s B m w1 HE1.out hB1 (by omega)
  go_wp2_with fail
  refine hp1.mono ?_
  rintro e w2 ⟨X, v, rfl, hX, h2, hf2, b2⟩
  clear hp1
  have c2 := b1.trans (b2.mono b1.size)
  have HE2 := hide (HE1.out.below (b2.mono hB1))
  have hB2 := Nat.le_trans hB1 b2.size
  have HX := hide hX
  clear hX
  have hp2 := Parse_any t B m w2 HE2.out hB2 (by omega)
  go_wp2_with fail
  refine hp2.mono ?_
  rintro e w3 ⟨Y, v3, rfl, hY, h3, hf3, b3⟩
  clear hp2
  have c3 := c2.trans (b3.mono c2.size)
  have HE3 := hide (HE2.out.below (b3.mono hB2))
  have hB3 := Nat.le_trans hB2 b3.size
  have HY := hide hY
  clear hY
  have hp3 := Parse_any (s ++ ⟨#[10]⟩ ++ t) B m w3 HE3.out hB3 (by omega)
  go_wp2_with fail
  refine hp3.mono ?_
  rintro e w4 ⟨Z, v4, rfl, hZ, h4, hf4, b4⟩
  clear hp3
  have c4 := c3.trans (b4.mono c3.size)
  have HZ := hide hZ
  have RX4 := hide ((RowR.mk h2 hf2).below (b3.trans (b4.mono b3.size)))
  have RY4 := hide ((RowR.mk h3 hf3).below b4)
  have RZ4 := hide (RowR.mk h4 hf4)
  have LX := hide (show ∀ k, v.ownBlock = some k → k < w2.heap.size from fun k e => (h2.lt k e).2)
  have LY := hide (show ∀ k, v3.ownBlock = some k → k < w3.heap.size from fun k e => (h3.lt k e).2)
  have S12 := hide (show w.heap.size ≤ w1.heap.size ∧ w1.heap.size ≤ w2.heap.size ∧ w2.heap.size ≤ w3.heap.size ∧ w3.heap.size ≤ w4.heap.size from ⟨b1.size, b2.size, b3.size, b4.size⟩)
  have C4 := hide c4
  have HFL := hide (file_few hs)
  have FT := hide (file_few ht)
  have SC := hide (splitT_count 10 s)
  clear hZ h2 hf2 h3 hf3 h4 hf4 c4 c3 c2 b2 b3 b4 b1
  generalize fileB (s ++ ⟨#[10]⟩ ++ t) = R at *
  generalize fileB s = S at *
  generalize fileB t = T at *
  obtain ⟨L, HL⟩ : ∃ L, Hid (L = (splitT 10 s).length) := ⟨_, rfl⟩
  rw [← HL.out] at HJ SC
  clear HL
  dsimp only
  go_wp2_with fail
  go_loopg [15, 16] s.size (fun g s15 s16 wx => ∃ (k : Nat), g = s.size - k ∧ k ≤ s.size ∧ s15 = .int .i64 (((s.data.toList.take k).count 10 + 1 : Nat) : Int) ∧ s16 = .int .i64 (k : Int) ∧ w4 = wx)
  case atStart => exact ⟨0, rfl, Nat.zero_le _, rfl, rfl, rfl⟩
  case round =>
    obtain ⟨k, rfl, hk, rfl, rfl, rfl⟩ := hrel
    by_cases hlt : k < s.size
    · have hst := count_step (show k < s.data.toList.length from hlt)
      have hcl : (s.data.toList.take k).count 10 ≤ k := Nat.le_trans List.count_le_length (by rw [List.length_take]; omega)
      rw [show s.data.toList[k]'hlt = s[k]'hlt from rfl] at hst
      have HLT := hide hlt
      by_cases h10 : (s[k]'hlt) = 10
      · have q2 : ((((s[k]'hlt).toNat : Nat) : Int) == 10) = true := by rw [h10]; rfl
        rw [if_pos h10] at hst
        clear h10
        generalize (s.data.toList.take k).count 10 = cn at *
        go_wp2_with fail
        go_roundg (s.size - (k + 1))
        case measure => have := HLT.out; omega
        case rel => exact ⟨k + 1, rfl, HLT.out, by rw [hst]; simp, by simp, rfl⟩
      · have q2 : ((((s[k]'hlt).toNat : Nat) : Int) == 10) = false := by
          rw [beq_eq_false_iff_ne]
          intro e
          exact h10 (UInt8.toNat_inj.1 (by have : (s[k]'hlt).toNat = 10 := by omega
                                           rw [this]; rfl))
        rw [if_neg h10] at hst
        clear h10
        generalize (s.data.toList.take k).count 10 = cn at *
        go_wp2_with fail
        go_roundg (s.size - (k + 1))
        case measure => have := HLT.out; omega
        case rel => exact ⟨k + 1, rfl, HLT.out, by rw [hst], by simp, rfl⟩
    · obtain rfl : k = s.size := by omega
      rw [List.take_of_length_le (l := s.data.toList) (Nat.le_refl s.size)]
      rw [← SC.out]
      clear hlt hk
      have HFS := hide HFL.out.1
      obtain ⟨S0, S1, S2⟩ := S
      obtain ⟨T0, T1, T2⟩ := T
      have ft := FT.out
      have fs := HFL.out
      have HJo := HJ.out
      dsimp only at HJo ft fs HX HY HZ ⊢
      clear HFL FT HJ HFS
      by_cases hS : S2 = 0
      · subst hS
        rw [if_neg (by simp)] at HJo
        by_cases hT : T2 = 0
        · subst hT
          rw [if_neg (by simp)] at HJo
          subst HJo
          dsimp only at HZ ⊢
          have HLb := hide (show L ≤ 601 by have := SC.out; have := List.count_le_length (a := (10 : UInt8)) (l := s.data.toList); have : s.data.toList.length = s.size := rfl; omega)
          have HYN := hide (show Y.length ≤ 101 ∧ ∀ (k : Nat) (h : k < Y.length), Y[k].line ≤ 601 from ⟨by have := ft.2.1; rw [← HY.out, List.length_map] at this; exact this, fun k h => ft.2.2 (Y[k].rc) (by rw [← HY.out]; exact List.mem_map_of_mem (List.getElem_mem h))⟩)
          have HXN := hide (show X.length ≤ 101 by have := fs.2.1; rw [← HX.out, List.length_map] at this; exact this)
          clear ft fs SC
          obtain ⟨A3, k3, rfl, hk3⟩ := RY4.out.form
          go_wp2_with fail
          go_loopg [17] Y.length (fun g s17 W => ∃ (k : Nat), g = Y.length - k ∧ k ≤ Y.length ∧ s17 = .int .i64 (k : Int) ∧ RowR W w1.heap.size v X ∧ RowR W w2.heap.size (.slice A3 Y.length k3) (turnY L k Y) ∧ RowR W w3.heap.size v4 Z ∧ Below w.heap.size w W ∧ w4.heap.size ≤ W.heap.size)
          case atStart => exact ⟨0, rfl, Nat.zero_le _, rfl, RX4.out, RY4.out, RZ4.out, C4.out, Nat.le_refl _⟩
          case round =>
            obtain ⟨k, rfl, hk, rfl, rx, ry, rz, hb, hw4⟩ := hrel
            have RX5 := hide rx
            have RY5 := hide ry
            have RZ5 := hide rz
            have C5 := hide hb
            clear rx ry rz hb
            by_cases hlt : k < Y.length
            · obtain ⟨g, k3', e⟩ := own_some RY5.out.row (by rw [turnY_len]; omega)
              rw [turnY_len] at e
              injection e with e1 e2 e3
              subst e1
              subst e3
              have ry := RY5.out
              rw [← turnY_len L k Y] at ry
              have hkt : k < (turnY L k Y).length := by rw [turnY_len]; exact hlt
              have d0 := ry.line hkt
              have d1 := ry.frozen (4 * k)
              have hset := ry.setLine hkt (Y[k].line + L)
              rw [turnY_get hlt] at d0
              rw [turnY_step hlt] at hset
              have hly := HYN.out.2 k hlt
              rw [Nat.mul_comm] at d0 d1 hset
              generalize Y[k].line = ln at *
              rw [turnY_len] at hset
              have hcast : ((ln + L : Nat) : Int) = (ln : Int) + (L : Int) := by omega
              rw [hcast] at hset
              have HSET := hide hset
              have hlt' : (k : Int) < (Y.length : Int) := by omega
              have q3 : (ln : Int) ≤ 601 := by omega
              have q4 : (L : Int) ≤ 601 := by have := HLb.out; omega
              have q5 : (Y.length : Int) ≤ 101 := by have := HYN.out.1; omega
              have HLT := hide hlt
              have HOW := hide (RY5.out.row.lt g rfl)
              have HOX := hide (RX5.out.other RY5.out.row hset.2 (apart_lt (b := w2.heap.size) LX.out (fun k e => by cases e; exact HOW.out.1)))
              have HOZ := hide (RZ5.out.other RY5.out.row hset.2 (own_apart RZ5.out.row LY.out))
              clear hset ry hlt
              go_wp2_with fail
              go_roundg (Y.length - (k + 1))
              case measure => have := HLT.out; omega
              case rel =>
                refine ⟨k + 1, rfl, HLT.out, by simp, HOX.out, HSET.out.1, HOZ.out, C5.out.grown HSET.out.2 C5.out.size (fun k e => by cases e; exact Nat.le_trans S12.out.1 (Nat.le_trans S12.out.2.1 HOW.out.1)), by simpa using hw4⟩
            · obtain rfl : k = Y.length := by omega
              have ry := RY5.out
              rw [turnY_all] at ry
              have hyr := ry.row
              rw [List.length_map] at hyr
              have HYR := hide hyr
              have N1 := hide (recCells_one (Y.map (shX L)))
              have SZ := hide (show w1.heap.size ≤ wr.heap.size from Nat.le_trans (Nat.le_trans S12.out.2.1 (Nat.le_trans S12.out.2.2.1 S12.out.2.2.2)) hw4)
              obtain ⟨A4, k4, rfl, hk4⟩ := RZ5.out.form
              have q5 : (Y.length : Int) ≤ 101 := by have := HYN.out.1; omega
              clear hyr ry hlt hk
              go_wp2_with (at_builtin; (refine wpList_append_any_g _ rfl (.tmp 112) (.tmp 113) 35 rfl w1.heap.size 31 i0 (.agg #[.int .i64 0, .int .i64 0, .int .i64 0, .slice none 0 0]) 4 48 Tryd.underlying35 hi hz0 hz1 hz2 rfl (by decide) _ X.length (recCells X) rfl RX5.out.row w2.heap.size A3 Y.length k3 (recCells (Y.map (shX L))) rfl HYR.out N1.out (by have := HXN.out; have := HYN.out.1; unfold maxLen; omega) (by have := HXN.out; have := HYN.out.1; omega) SZ.out ?_); intro v' w5 hown1 hgrow1; have HO := hide hown1; have HG := hide hgrow1; clear hown1 hgrow1)
              have LX3 : ∀ k, v.ownBlock = some k → k < w3.heap.size := fun k e => Nat.lt_of_lt_of_le (LX.out k e) S12.out.2.2.1
              have rz6 := RZ5.out.other RX5.out.row HG.out (own_apart RZ5.out.row LX3)
              have rxy : RowR w5 w1.heap.size v' (X ++ Y.map (shX L)) := by
                have ry := RY5.out
                rw [turnY_all] at ry
                refine ⟨?_, fun x hx => ?_⟩
                · rw [List.length_append, List.length_map, recCells_app]
                  exact HO.out
                · rcases List.mem_append.1 hx with hx | hx
                  · exact ⟨(RX5.out.fld x hx).1.ownGrown RX5.out.row (by decide) HG.out, (RX5.out.fld x hx).2⟩
                  · exact ⟨((ry.fld x hx).1.ownGrown RX5.out.row (by decide) HG.out).lower S12.out.2.1, (ry.fld x hx).2⟩
              obtain ⟨A6, k6, rfl, hk6⟩ := rxy.form
              have hzn : Z.length ≤ 202 := by
                have := congrArg List.length HZ.out
                rw [List.length_map, List.length_append, List.length_map, ← HX.out, ← HY.out, List.length_map, List.length_map] at this
                have := HXN.out
                have := HYN.out.1
                omega
              have hxyn : (X ++ Y.map (shX L)).length ≤ 202 := by
                rw [List.length_append, List.length_map]
                have := HXN.out
                have := HYN.out.1
                omega
              have hsm := same_any A4 A6 Z.length k4 (X ++ Y.map (shX L)).length k6 (Z.map RX.z) ((X ++ Y.map (shX L)).map RX.z) w5 (rz6.rds (by omega)) (rxy.rds (by omega)) rz6.flds rxy.flds
              rw [z_rcs, z_rcs, decide_eq_true (by rw [HZ.out, List.map_append (f := RX.rc), turnY_rc, HX.out, HY.out])] at hsm
              rw [List.length_append, List.length_map] at hsm ⊢
              have C6 := hide (C5.out.grown HG.out C5.out.size (fun k e => Nat.le_trans S12.out.1 (RX5.out.row.lt k e).1))
              clear rz6 rxy hk6 hzn hxyn
              go_wp2_with fail
              refine hsm.mono ?_
              rintro e w7 ⟨rfl, b7⟩
              have C7 := hide (C6.out.trans (b7.mono C6.out.size))
              clear hsm
              go_wp2_with fail
              go_ret
              exact ⟨rfl, C7.out⟩
        · rw [if_pos (by simpa using hT)] at HJo
          subst HJo
          have q1 : (T2 != 0) = true := by simpa using hT
          have q2 : (((T1 + L : Nat) : Int) == (T1 : Int) + (L : Int)) = true := by simp
          have HL := hide (show L ≤ 601 by have := SC.out; have := List.count_le_length (a := (10 : UInt8)) (l := s.data.toList); have : s.data.toList.length = s.size := rfl; omega)
          have q3 : (T1 : Int) ≤ 601 := by omega
          have q4 : (L : Int) ≤ 601 := by have := HL.out; omega
          clear hT ft fs HX HY HZ RX4 RY4 RZ4 SC
          dsimp only
          go_wp2_with fail
          go_ret
          exact ⟨rfl, C4.out⟩
      · rw [if_pos (by simpa using hS)] at HJo
        subst HJo
        have q1 : (S2 != 0) = true := by simpa using hS
        clear hS ft fs HX HY HZ RX4 RY4 RZ4 SC
        dsimp only
        go_wp2_with fail
        go_ret
        exact ⟨rfl, C4.out⟩
end Go.Proofs.YtdmkjchmcgjjmaaDoor
