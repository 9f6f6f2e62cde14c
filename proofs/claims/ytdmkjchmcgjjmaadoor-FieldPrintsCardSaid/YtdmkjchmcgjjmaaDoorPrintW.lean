/- The program's field.Print, walked. Conditions: the slices read as the records; the print is of moderate size. -/
import Derived.Test.YtdmkjchmcgjjmaaDoorPrint
namespace Go.Proofs.YtdmkjchmcgjjmaaDoor
open Go Go.RowKit

/-- a record's numbers and fields are whole -/
def ZOk (w : World) (B : Nat) (x : RZ) : Prop := Rds w B 1 x.A x.fs.length (strCells x.fs) ∧ (-9223372036854775808 ≤ x.a ∧ x.a ≤ 9223372036854775807) ∧ (-9223372036854775808 ≤ x.b ∧ x.b ≤ 9223372036854775807)
theorem len_mid {out s rest : List UInt8} {m : Nat} (_ : out ++ (s ++ rest) = out ++ (s ++ rest)) (hl : (out ++ (s ++ rest)).length ≤ m) : s.length ≤ m := by
  simp at hl
  omega

set_option maxRecDepth 100000 in
set_option maxHeartbeats 4000000 in
theorem Print_any (A : Option Addr) (n c : Nat) (X : List RZ) (w : World) (hr : Rds w w.heap.size 4 A n (zCells X)) (hx : ∀ x ∈ X, ZOk w w.heap.size x) (hl : (printS (X.map RZ.rc)).length ≤ 1000000) :
    Calls Tryd.prog 23 #[.slice A n c] w (Freed w (.string (printB (X.map RZ.rc)))) := by
  have hnn := hr.2.1
  obtain rfl := hr.rz_len
  obtain ⟨T, hT⟩ : ∃ T, T = printS (X.map RZ.rc) := ⟨_, rfl⟩
  have HPB := hide (show printB (X.map RZ.rc) = ⟨T.toArray⟩ by rw [hT]; rfl)
  rw [← hT] at hl
  have HL := hide hl
  have HR := hide hr
  clear hl hr
  generalize printB (X.map RZ.rc) = pb at *
  obtain ⟨n0, hn0⟩ : ∃ n0 : Nat, n0 = w.heap.size := ⟨_, rfl⟩
  go_enter Tryd.func23, Tryd.ntmps23
  go_wp2_with fail
  have hbl0 := Lib.fresh_isBuilder 66 5 w
  have hb0 : Below n0 w (w.alloc (.cells #[.pointer none, .slice none 0 0] 66)) := by rw [hn0]; exact (Below.refl _ _).alloc (Nat.le_refl _) _
  rw [← hn0] at hbl0 HR ⊢
  rw [← hn0] at hx
  have HN := hide hn0
  clear hn0
  go_loopw [10] (fun i wr => ∃ (k : Nat) (out : List UInt8), k ≤ X.length ∧ i = .int .i64 (k : Int) ∧ out ++ printS ((X.drop k).map RZ.rc) = T ∧ Lib.IsBuilderF 66 5 n0 n0 (Lib.byteCells out) wr ∧ Below n0 w wr) (fun i _ => X.length - (intOf i).toNat)
  case atStart => exact ⟨0, [], Nat.zero_le _, rfl, hT.symm, Lib.IsBuilderF.of hbl0, hb0⟩
  case round =>
    obtain ⟨k, out, hk, rfl, ho, hB, hb⟩ := hrel
    have HO := hide ho
    have HB := hide hB
    clear ho hB hbl0 hb0
    by_cases hlt : k < X.length
    · obtain ⟨bb, o, rfl, hbl, c0, c1, c2, c3⟩ := (HR.out.below hb).rz hlt
      have hxk := hx X[k] (List.getElem_mem hlt)
      have HO1 := hide (show out ++ (numS X[k].a X[k].b ++ (fldS X[k].fs ++ ([10] ++ printS ((X.drop (k + 1)).map RZ.rc)))) = T by
        rw [← HO.out, drop_cons hlt, List.map_cons]
        simp [printS, recS, RZ.rc])
      clear HO
      unfold ZOk at hxk
      generalize X[k] = x at *
      obtain ⟨line, a, b, fs, A', c'⟩ := x
      dsimp only at hxk c0 c1 c2 c3 HO1
      obtain ⟨hfs, ⟨ha1, ha2⟩, ⟨hb1, hb2⟩⟩ := hxk
      obtain ⟨rest, HREST⟩ : ∃ rest, Hid (rest = printS ((X.drop (k + 1)).map RZ.rc)) := ⟨_, rfl⟩
      rw [← HREST.out] at HO1
      have HP := hide (PS.first HB.out hb #[.int .i64 line, .int .i64 a, .int .i64 b, .slice A' fs.length c'])
      have hca := fun W => code_any a W ha1 ha2
      have hcb := fun W => code_any b W hb1 hb2
      have hsz := hb.size
      have hsa := codeS_len a
      have hsb := codeS_len b
      have HFS := hide hfs
      clear hfs
      have hab : ∀ W : World, PS n0 wr.heap.size #[.int .i64 line, .int .i64 a, .int .i64 b, .slice A' fs.length c'] out w W → W = W := fun _ _ => rfl
      clear hab
      go_wp2_with fail
      obtain ⟨gx, hgx⟩ : ∃ gx : Nat, gx = wr.heap.size := ⟨_, rfl⟩
      obtain ⟨W1, hW1⟩ : ∃ W1 : World, W1 = wr.alloc (.cells #[.int .i64 line, .int .i64 a, .int .i64 b, .slice A' fs.length c'] 31) := ⟨_, rfl⟩
      rw [← hgx, ← hW1] at HP
      rw [← hgx, ← hW1]
      clear hgx hW1
      have k1 := HP.out.rc.cell 1
      have k2 := HP.out.rc.cell 2
      have k3 := HP.out.rc.cell 3
      simp only [List.getElem?_toArray, List.getElem?_cons_zero, List.getElem?_cons_succ] at k1 k2 k3
      have HCB := hide hcb
      clear hcb hx
      refine (hca W1).mono ?_
      rintro e _ ⟨rfl, rfl⟩
      clear hca
      have step : ∃ (Z : List UInt8), out ++ (codeS a ++ Z) = T := by
        have := HO1.out
        unfold numS at this
        split at this
        · exact ⟨_, this⟩
        · exact ⟨_, by rw [← this]; simp; rfl⟩
      obtain ⟨Z, hZ⟩ := step
      have hw := str_write HP.out (by rw [hZ]; exact HL.out)
      clear hZ
      go_wp2_with fail
      refine hw.mono ?_
      rintro e W2 ⟨v2, rfl, h2⟩
      clear hw HP
      have hba' : ∃ out2 : List UInt8, out2 = out ++ codeS a := ⟨_, rfl⟩
      obtain ⟨out2, hout2⟩ := hba'
      rw [← hout2] at h2
      have HP2 := hide h2
      clear k1 k2 k3 h2
      have k1 := HP2.out.rc.cell 1
      have k2 := HP2.out.rc.cell 2
      have k3 := HP2.out.rc.cell 3
      simp only [List.getElem?_toArray, List.getElem?_cons_zero, List.getElem?_cons_succ] at k1 k2 k3
      by_cases hba : b = a
      · have HO3 := hide (show out2 ++ (fldS fs ++ ([10] ++ rest)) = T by rw [← HO1.out, hout2, hba]; simp [numS])
        have hd : (decide (b ≠ a)) = false := by simp [hba]
        clear HO1 HCB hout2
        obtain ⟨cs, HCS⟩ : ∃ cs : Array Value, Hid (cs = #[.int .i64 line, .int .i64 a, .int .i64 b, .slice A' fs.length c']) := ⟨_, rfl⟩
        obtain ⟨out3, rfl⟩ : ∃ out3 : List UInt8, out3 = out2 := ⟨_, rfl⟩
        rw [← HCS.out] at HP2
        have HP3 := HP2
        clear HP2
        go_wp2_with fail
        go_loopw [31] (fun i wr => ∃ (j : Nat) (out4 : List UInt8), j ≤ fs.length ∧ i = .int .i64 (j : Int) ∧ out4 ++ (fldS (fs.drop j) ++ ([10] ++ rest)) = T ∧ PS n0 gx cs out4 w wr) (fun i _ => fs.length - (intOf i).toNat)
        case atStart => exact ⟨0, out3, Nat.zero_le _, rfl, HO3.out, HP3.out⟩
        case round =>
          obtain ⟨j, out4, hj, rfl, ho4, hp4⟩ := hrel
          have HP4 := hide hp4
          have hfn := HFS.out.2.1
          have HO4 := hide ho4
          clear hp4 ho4
          by_cases hlj : j < fs.length
          · obtain ⟨b5, o5, rfl, hb5, d0⟩ := (HFS.out.below HP4.out.below).str hlj
            have HO5 := hide (show out4 ++ ((59 :: fs[j].data.toList) ++ (fldS (fs.drop (j + 1)) ++ ([10] ++ rest))) = T by
              rw [← HO4.out, drop_cons hlj, fldS_cons]
              simp)
            have hfl : (59 :: fs[j].data.toList).length ≤ 1000000 := by
              have h1 := HL.out
              rw [← HO5.out] at h1
              simp only [List.length_append] at h1
              omega
            obtain ⟨rj, HRJ⟩ : ∃ rj, Hid (rj = fldS (fs.drop (j + 1))) := ⟨_, rfl⟩
            rw [← HRJ.out] at HO5
            obtain ⟨f, HF⟩ : ∃ f, Hid (f = fs[j]) := ⟨fs[j], (rfl : fs[j] = fs[j])⟩
            rw [← HF.out] at HO5 hfl d0
            have hsz5 : (⟨#[59]⟩ : ByteArray).size + f.size ≤ 9223372036854775807 := by
              have : f.data.toList.length = f.size := rfl
              rw [List.length_cons] at hfl
              rw [show (⟨#[59]⟩ : ByteArray).size = 1 from rfl]
              omega
            have hw5 := str_write HP4.out (by rw [HO5.out]; exact HL.out)
            have he5 : (⟨(59 :: f.data.toList).toArray⟩ : ByteArray) = ⟨#[59]⟩ ++ f := by
              apply data_inj
              simp
            rw [he5] at hw5
            clear he5 hfl HO4
            go_wp2_with fail
            refine hw5.mono ?_
            rintro e W5 ⟨v5, rfl, h5⟩
            have HP5 := hide h5
            clear h5 hw5
            go_wp2_with fail
            exact ⟨⟨j + 1, _, by omega, by go_num, by rw [← HO5.out, HRJ.out, List.append_assoc], HP5.out⟩, by simp [intOf]; omega⟩
          · obtain rfl : j = fs.length := by omega
            have HO5 := hide (show out4 ++ ([10] ++ rest) = T by
              rw [← HO4.out, List.drop_of_length_le (Nat.le_refl _)]
              rfl)
            have hw5 := ten_write HP4.out (by rw [HO5.out]; exact HL.out)
            go_wp2_with fail
            refine hw5.mono ?_
            rintro e W5 ⟨v5, rfl, h5⟩
            have HP5 := hide h5
            clear h5 hw5
            go_wp2_with fail
            exact ⟨⟨k + 1, _, by omega, by go_num, by rw [← HO5.out, HREST.out, List.append_assoc], HP5.out.bld, HP5.out.below⟩, by simp [intOf]; omega⟩
      · have HO3 := hide (show (out2 ++ (46 :: 46 :: codeS b)) ++ (fldS fs ++ ([10] ++ rest)) = T by rw [← HO1.out, hout2]; simp [numS, hba])
        have hw3 := str_write HP2.out (s := 46 :: 46 :: codeS b) (rest := fldS fs ++ ([10] ++ rest)) (by rw [← List.append_assoc, HO3.out]; exact HL.out)
        have he3 : (⟨(46 :: 46 :: codeS b).toArray⟩ : ByteArray) = ⟨#[46, 46]⟩ ++ ⟨(codeS b).toArray⟩ := by
          apply data_inj
          simp
        rw [he3] at hw3
        have hsz3 : (⟨#[46, 46]⟩ : ByteArray).size + (codeS b).length ≤ 9223372036854775807 := by simp [ByteArray.size]; omega
        clear HO1 hout2 he3
        go_wp2_with fail
        refine (HCB.out W2).mono ?_
        rintro e _ ⟨rfl, rfl⟩
        clear HCB
        go_wp2_with fail
        refine hw3.mono ?_
        rintro e W3 ⟨v3, rfl, h3⟩
        obtain ⟨out3, hout3⟩ : ∃ out3 : List UInt8, out3 = out2 ++ (46 :: 46 :: codeS b) := ⟨_, rfl⟩
        rw [← hout3] at h3 HO3
        have HP3 := hide h3
        clear hw3 h3 hout3 k1 k2 k3 HP2
        generalize codeS b = cb at *
        have k1 := HP3.out.rc.cell 1
        have k2 := HP3.out.rc.cell 2
        have k3 := HP3.out.rc.cell 3
        simp only [List.getElem?_toArray, List.getElem?_cons_zero, List.getElem?_cons_succ] at k1 k2 k3
        obtain ⟨cs, HCS⟩ : ∃ cs : Array Value, Hid (cs = #[.int .i64 line, .int .i64 a, .int .i64 b, .slice A' fs.length c']) := ⟨_, rfl⟩
        rw [← HCS.out] at HP3
        go_wp2_with fail
        go_loopw [31] (fun i wr => ∃ (j : Nat) (out4 : List UInt8), j ≤ fs.length ∧ i = .int .i64 (j : Int) ∧ out4 ++ (fldS (fs.drop j) ++ ([10] ++ rest)) = T ∧ PS n0 gx cs out4 w wr) (fun i _ => fs.length - (intOf i).toNat)
        case atStart => exact ⟨0, out3, Nat.zero_le _, rfl, HO3.out, HP3.out⟩
        case round =>
          obtain ⟨j, out4, hj, rfl, ho4, hp4⟩ := hrel
          have HP4 := hide hp4
          have hfn := HFS.out.2.1
          have HO4 := hide ho4
          clear hp4 ho4
          by_cases hlj : j < fs.length
          · obtain ⟨b5, o5, rfl, hb5, d0⟩ := (HFS.out.below HP4.out.below).str hlj
            have HO5 := hide (show out4 ++ ((59 :: fs[j].data.toList) ++ (fldS (fs.drop (j + 1)) ++ ([10] ++ rest))) = T by
              rw [← HO4.out, drop_cons hlj, fldS_cons]
              simp)
            have hfl : (59 :: fs[j].data.toList).length ≤ 1000000 := by
              have h1 := HL.out
              rw [← HO5.out] at h1
              simp only [List.length_append] at h1
              omega
            obtain ⟨rj, HRJ⟩ : ∃ rj, Hid (rj = fldS (fs.drop (j + 1))) := ⟨_, rfl⟩
            rw [← HRJ.out] at HO5
            obtain ⟨f, HF⟩ : ∃ f, Hid (f = fs[j]) := ⟨fs[j], (rfl : fs[j] = fs[j])⟩
            rw [← HF.out] at HO5 hfl d0
            have hsz5 : (⟨#[59]⟩ : ByteArray).size + f.size ≤ 9223372036854775807 := by
              have : f.data.toList.length = f.size := rfl
              rw [List.length_cons] at hfl
              rw [show (⟨#[59]⟩ : ByteArray).size = 1 from rfl]
              omega
            have hw5 := str_write HP4.out (by rw [HO5.out]; exact HL.out)
            have he5 : (⟨(59 :: f.data.toList).toArray⟩ : ByteArray) = ⟨#[59]⟩ ++ f := by
              apply data_inj
              simp
            rw [he5] at hw5
            clear he5 hfl HO4
            go_wp2_with fail
            refine hw5.mono ?_
            rintro e W5 ⟨v5, rfl, h5⟩
            have HP5 := hide h5
            clear h5 hw5
            go_wp2_with fail
            exact ⟨⟨j + 1, _, by omega, by go_num, by rw [← HO5.out, HRJ.out, List.append_assoc], HP5.out⟩, by simp [intOf]; omega⟩
          · obtain rfl : j = fs.length := by omega
            have HO5 := hide (show out4 ++ ([10] ++ rest) = T by
              rw [← HO4.out, List.drop_of_length_le (Nat.le_refl _)]
              rfl)
            have hw5 := ten_write HP4.out (by rw [HO5.out]; exact HL.out)
            go_wp2_with fail
            refine hw5.mono ?_
            rintro e W5 ⟨v5, rfl, h5⟩
            have HP5 := hide h5
            clear h5 hw5
            go_wp2_with fail
            exact ⟨⟨k + 1, _, by omega, by go_num, by rw [← HO5.out, HREST.out, List.append_assoc], HP5.out.bld, HP5.out.below⟩, by simp [intOf]; omega⟩
    · obtain rfl : k = X.length := by omega
      have hT2 : out = T := by
        rw [← HO.out, List.drop_of_length_le (Nat.le_refl _)]
        simp [printS]
      subst hT2
      have hst := Tryd.Builder_String_any_k n0 n0 out wr HB.out (by rcases HB.out with h | h <;> exact Nat.le_of_lt h.lt)
      have HBL := hide hb
      clear hT
      go_wp2_with fail
      refine hst.mono ?_
      rintro e W6 ⟨rfl, h6, h7, h8⟩
      have HB7 := hide (HBL.out.trans h7)
      clear h6 h7 h8 hst
      go_wp2_with fail
      go_ret
      refine ⟨?_, by rw [← HN.out]; exact HB7.out⟩
      rw [HPB.out]
      rfl
end Go.Proofs.YtdmkjchmcgjjmaaDoor
