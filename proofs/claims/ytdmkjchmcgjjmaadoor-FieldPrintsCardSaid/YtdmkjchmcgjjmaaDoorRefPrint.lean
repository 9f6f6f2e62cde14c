/- The reference's Print. Conditions: the slices read as the records. -/
import Derived.Test.YtdmkjchmcgjjmaaDoorRefHex
import Derived.Test.YtdmkjchmcgjjmaaDoorPrintW
import Derived.BigQuiet
import Derived.Deep.QuietTactic
import Derived.IntWalk
namespace Go.Proofs.YtdmkjchmcgjjmaaDoor
open Go Go.RowKit

theorem fldS_step {fs : List ByteArray} {k : Nat} (h : k < fs.length) : fldS (fs.drop k) = (59 :: fs[k].data.toList) ++ fldS (fs.drop (k + 1)) := by
  rw [drop_cons h]
  rfl

set_option maxRecDepth 100000 in
set_option maxHeartbeats 4000000 in
theorem refPrint_any (A : Option Addr) (n c : Nat) (X : List RZ) (w : World) (hr : Rds w w.heap.size 4 A n (zCells X)) (hx : ∀ x ∈ X, ZOk w w.heap.size x) (hl : (printS (X.map RZ.rc)).length ≤ 1000000) :
    Calls Tryd.prog 24 #[.slice A n c] w (Quiet w (.string (printB (X.map RZ.rc)))) := by
  have hnn := hr.2.1
  obtain rfl := hr.rz_len
  obtain ⟨T, hT⟩ : ∃ T, T = printS (X.map RZ.rc) := ⟨_, rfl⟩
  have HPB := hide (show printB (X.map RZ.rc) = ⟨T.toArray⟩ by rw [hT]; rfl)
  rw [← hT] at hl
  have HL := hide hl
  clear hl
  generalize printB (X.map RZ.rc) = pb at *
  go_enter Tryd.func24, Tryd.ntmps24
  go_wp2_with fail
  go_loopg [3, 4] X.length (fun g s3 s4 wx => ∃ (k : Nat) (out : List UInt8), g = X.length - k ∧ k ≤ X.length ∧ s4 = .int .i64 (k : Int) ∧ s3 = .string ⟨out.toArray⟩ ∧ out ++ printS ((X.drop k).map RZ.rc) = T ∧ ∃ q, wx = w.drewN q)
  case atStart => exact ⟨0, [], rfl, Nat.zero_le _, rfl, rfl, hT.symm, 0, rfl⟩
  case round =>
    obtain ⟨k, out, rfl, hk, rfl, rfl, ho, hq⟩ := hrel
    have HO := hide ho
    have hr2 : Rds wr w.heap.size 4 A X.length (zCells X) := by obtain ⟨q, e⟩ := hq; rw [e]; exact hr
    have HX2 := hide (show ∀ x ∈ X, ZOk wr w.heap.size x by obtain ⟨q, e⟩ := hq; rw [e]; exact hx)
    have HQ := hide (fun q' => (show ∃ q, wr.drewN q' = w.drewN q from by obtain ⟨q, e⟩ := hq; exact ⟨q + q', by rw [e, World.drewN_drewN]⟩))
    have HQ0 := hide hq
    clear ho hq
    by_cases hlt : k < X.length
    · obtain ⟨bb, o, rfl, hbl, c0, c1, c2, c3⟩ := hr2.rz hlt
      have hxk := HX2.out X[k] (List.getElem_mem hlt)
      have HO1 := hide (show out ++ (numS X[k].a X[k].b ++ (fldS X[k].fs ++ ([10] ++ printS ((X.drop (k + 1)).map RZ.rc)))) = T by
        rw [← HO.out, drop_cons hlt, List.map_cons]
        simp [printS, recS, RZ.rc])
      clear HO
      have HLT := hide hlt
      have hlI : (k : Int) < (X.length : Int) := by omega
      unfold ZOk at hxk
      generalize X[k] = x at *
      obtain ⟨line, a, b, fs, A', c'⟩ := x
      dsimp only at hxk c0 c1 c2 c3 HO1
      obtain ⟨hfs, ⟨ha1, ha2⟩, ⟨hb1, hb2⟩⟩ := hxk
      obtain ⟨rest, HREST⟩ : ∃ rest, Hid (rest = printS ((X.drop (k + 1)).map RZ.rc)) := ⟨_, rfl⟩
      rw [← HREST.out] at HO1
      have hca := fun W => hex_any a W ha1 ha2
      have hcb := fun W => hex_any b W hb1 hb2
      have hsa := codeS_len a
      have hsb := codeS_len b
      have hol : out.length ≤ 1000000 := by
        have h := HL.out
        rw [← HO1.out, List.length_append] at h
        omega
      have HFS := hide hfs
      clear hfs hlt hr hr2 hx hT
      go_wp2_with fail
      refine (hca wr).mono ?_
      rintro e _ ⟨rfl, rfl⟩
      by_cases hab : b = a
      · have q1 : (b != a) = false := by simpa using hab
        have HO2 := hide (show (out ++ codeS a) ++ (fldS (fs.drop 0) ++ ([10] ++ rest)) = T by
          rw [← HO1.out, List.drop_zero]
          unfold numS
          rw [if_pos hab, List.append_assoc])
        clear hab hca hcb HO1
        go_wp2_with fail
        go_quiet (fail)
        have HQW := hide (HQ.out nq)
        have c0w : (wr.drewN nq).cell? ⟨bb, o + k * 4 + 1, none⟩ = some (.int .i64 a) := c1
        have c2w : (wr.drewN nq).cell? ⟨bb, o + k * 4 + 2, none⟩ = some (.int .i64 b) := c2
        have c3w : (wr.drewN nq).cell? ⟨bb, o + k * 4 + 3, none⟩ = some (.slice A' fs.length c') := c3
        have HFSW := hide (show Rds (wr.drewN nq) w.heap.size 1 A' fs.length (strCells fs) from HFS.out)
        clear HFS HQ HQ0 c0 c1 c2 c3 HX2
        generalize wr.drewN nq = wo at *
        have HFS := HFSW
        clear HFSW
        go_wp2_with fail
        go_loopg [3, 5] fs.length (fun g s3 s5 W => ∃ (j : Nat) (out' : List UInt8), g = fs.length - j ∧ j ≤ fs.length ∧ s5 = .int .i64 (j : Int) ∧ s3 = .string ⟨out'.toArray⟩ ∧ out' ++ (fldS (fs.drop j) ++ ([10] ++ rest)) = T ∧ W = wo)
        case atStart => exact ⟨0, _, rfl, Nat.zero_le _, rfl, by rw [bytes_append], HO2.out, rfl⟩
        case round =>
          obtain ⟨j, out', rfl, hj, rfl, rfl, ho', rfl⟩ := hrel
          have HO' := hide ho'
          clear ho'
          have hol' : out'.length ≤ 1000000 := by
            have h := HL.out
            rw [← HO'.out, List.length_append] at h
            omega
          by_cases hjl : j < fs.length
          · have g1 : (j : Int) < (fs.length : Int) := by omega
            have hjn : (j : Int) + 1 ≤ 9223372036854775807 := by have := HFS.out.2.1; omega
            obtain ⟨b2, o2, rfl, hb2, ct⟩ := HFS.out.str hjl
            have HO3 := hide (show (out' ++ (59 :: fs[j].data.toList)) ++ (fldS (fs.drop (j + 1)) ++ ([10] ++ rest)) = T by
              rw [← HO'.out, fldS_step hjl]
              simp)
            have HJL := hide hjl
            have hts : (fs[j]).size ≤ 1000000 := by
              have h := HL.out
              rw [← HO3.out, List.length_append, List.length_append, List.length_cons] at h
              have : fs[j].data.toList.length = fs[j].size := rfl
              omega
            generalize fs[j] = tt at *
            clear hjl
            go_wp2_with fail
            go_roundg (fs.length - (j + 1))
            case measure => have := HJL.out; omega
            case rel =>
              refine ⟨j + 1, _, rfl, HJL.out, by simp, ?_, HO3.out, rfl⟩
              have e : tt = ⟨tt.data.toList.toArray⟩ := rfl
              show Value.string (((⟨out'.toArray⟩ : ByteArray) ++ ⟨[59].toArray⟩) ++ tt) = _
              rw [e, bytes_append, bytes_append]
              simp
          · obtain rfl : j = fs.length := by omega
            have g1 : ¬ (fs.length : Int) < (fs.length : Int) := by omega
            have HO3 := hide (show (out' ++ [10]) ++ printS ((X.drop (k + 1)).map RZ.rc) = T by
              rw [← HO'.out, ← HREST.out, List.drop_length]
              simp [fldS])
            clear hjl
            go_wp2_with fail
            go_roundg (X.length - (k + 1))
            case measure => have := HLT.out; omega
            case rel =>
              refine ⟨k + 1, _, rfl, HLT.out, by simp, ?_, HO3.out, HQW.out⟩
              show Value.string ((⟨out'.toArray⟩ : ByteArray) ++ ⟨[10].toArray⟩) = _
              rw [bytes_append]
      · have q1 : (b != a) = true := by simpa using hab
        have HO2 := hide (show (((out ++ codeS a) ++ [46, 46]) ++ codeS b) ++ (fldS (fs.drop 0) ++ ([10] ++ rest)) = T by
          rw [← HO1.out, List.drop_zero]
          unfold numS
          rw [if_neg hab]
          simp)
        clear hab hca HO1
        go_wp2_with fail
        go_quiet (fail)
        have HQW := hide (HQ.out nq)
        have c0w : (wr.drewN nq).cell? ⟨bb, o + k * 4 + 1, none⟩ = some (.int .i64 a) := c1
        have c2w : (wr.drewN nq).cell? ⟨bb, o + k * 4 + 2, none⟩ = some (.int .i64 b) := c2
        have c3w : (wr.drewN nq).cell? ⟨bb, o + k * 4 + 3, none⟩ = some (.slice A' fs.length c') := c3
        have HFSW := hide (show Rds (wr.drewN nq) w.heap.size 1 A' fs.length (strCells fs) from HFS.out)
        clear HFS HQ HQ0 c0 c1 c2 c3 HX2
        generalize wr.drewN nq = wo at *
        have HFS := HFSW
        clear HFSW
        go_wp2_with fail
        refine (hcb wo).mono ?_
        rintro e _ ⟨rfl, rfl⟩
        clear hcb
        go_wp2_with fail
        go_loopg [3, 5] fs.length (fun g s3 s5 W => ∃ (j : Nat) (out' : List UInt8), g = fs.length - j ∧ j ≤ fs.length ∧ s5 = .int .i64 (j : Int) ∧ s3 = .string ⟨out'.toArray⟩ ∧ out' ++ (fldS (fs.drop j) ++ ([10] ++ rest)) = T ∧ W = wo)
        case atStart => exact ⟨0, _, rfl, Nat.zero_le _, rfl, by rw [show (⟨#[46, 46]⟩ : ByteArray) = ⟨[46, 46].toArray⟩ from rfl, bytes_append, bytes_append, bytes_append], HO2.out, rfl⟩
        case round =>
          obtain ⟨j, out', rfl, hj, rfl, rfl, ho', rfl⟩ := hrel
          have HO' := hide ho'
          clear ho'
          have hol' : out'.length ≤ 1000000 := by
            have h := HL.out
            rw [← HO'.out, List.length_append] at h
            omega
          by_cases hjl : j < fs.length
          · have g1 : (j : Int) < (fs.length : Int) := by omega
            have hjn : (j : Int) + 1 ≤ 9223372036854775807 := by have := HFS.out.2.1; omega
            obtain ⟨b2, o2, rfl, hb2, ct⟩ := HFS.out.str hjl
            have HO3 := hide (show (out' ++ (59 :: fs[j].data.toList)) ++ (fldS (fs.drop (j + 1)) ++ ([10] ++ rest)) = T by
              rw [← HO'.out, fldS_step hjl]
              simp)
            have HJL := hide hjl
            have hts : (fs[j]).size ≤ 1000000 := by
              have h := HL.out
              rw [← HO3.out, List.length_append, List.length_append, List.length_cons] at h
              have : fs[j].data.toList.length = fs[j].size := rfl
              omega
            generalize fs[j] = tt at *
            clear hjl
            go_wp2_with fail
            go_roundg (fs.length - (j + 1))
            case measure => have := HJL.out; omega
            case rel =>
              refine ⟨j + 1, _, rfl, HJL.out, by simp, ?_, HO3.out, rfl⟩
              have e : tt = ⟨tt.data.toList.toArray⟩ := rfl
              show Value.string (((⟨out'.toArray⟩ : ByteArray) ++ ⟨[59].toArray⟩) ++ tt) = _
              rw [e, bytes_append, bytes_append]
              simp
          · obtain rfl : j = fs.length := by omega
            have g1 : ¬ (fs.length : Int) < (fs.length : Int) := by omega
            have HO3 := hide (show (out' ++ [10]) ++ printS ((X.drop (k + 1)).map RZ.rc) = T by
              rw [← HO'.out, ← HREST.out, List.drop_length]
              simp [fldS])
            clear hjl
            go_wp2_with fail
            go_roundg (X.length - (k + 1))
            case measure => have := HLT.out; omega
            case rel =>
              refine ⟨k + 1, _, rfl, HLT.out, by simp, ?_, HO3.out, HQW.out⟩
              show Value.string ((⟨out'.toArray⟩ : ByteArray) ++ ⟨[10].toArray⟩) = _
              rw [bytes_append]
    · have HF := hide (show out = T by
        rw [← HO.out, List.drop_of_length_le (by omega)]
        simp [printS])
      have g1 : ¬ (k : Int) < (X.length : Int) := by omega
      clear hlt
      go_wp2_with fail
      go_ret
      exact ⟨by rw [HPB.out, ← HF.out]; rfl, HQ0.out⟩
end Go.Proofs.YtdmkjchmcgjjmaaDoor
