/- The reference's texts and Same. Conditions: the slices read as texts, as records. -/
import Derived.Test.YtdmkjchmcgjjmaaDoorSame
namespace Go.Proofs.YtdmkjchmcgjjmaaDoor
open Go Go.RowKit

set_option maxHeartbeats 800000 in
theorem texts_any (A A' : Option Addr) (n c n' c' B : Nat) (l m : List ByteArray) (w : World) (hr : Rds w B 1 A n (strCells l)) (hr' : Rds w B 1 A' n' (strCells m)) :
    Calls Tryd.prog 37 #[.slice A n c, .slice A' n' c'] w (Quiet w (.bool (decide (l = m)))) := by
  have hl := hr.str_len
  have hl' := hr'.str_len
  have hm := hr.2.1
  subst hl; subst hl'
  by_cases hlen : l.length = m.length
  · have hne : (((l.length : Nat) : Int) != (m.length : Int)) = false := by simp [hlen]
    have HL := hide hlen
    clear hlen
    go_enter Tryd.func37, Tryd.ntmps37
    go_wp2
    go_loopw [5] (fun i wr => ∃ (k : Nat), k ≤ l.length ∧ i = .int .i64 k ∧ decide (l = m) = decide (l.drop k = m.drop k) ∧ ∃ q, wr = w.drewN q) (fun i _ => l.length - (intOf i).toNat)
    case atStart => exact ⟨0, Nat.zero_le _, rfl, rfl, 0, rfl⟩
    case round =>
      obtain ⟨k, hk, rfl, hg, q, rfl⟩ := hrel
      have HG := hide hg
      clear hg
      by_cases hlt : k < l.length
      · have hlt' : k < m.length := by have := HL.out; omega
        obtain ⟨b, o, rfl, hbl, c0⟩ := hr.str hlt
        obtain ⟨b', o', rfl, hbl', c0'⟩ := hr'.str hlt'
        have HD := hide (dec_drop HG.out (drop_cons hlt) (drop_cons hlt'))
        generalize l[k] = x at c0  HD
        generalize m[k] = y at c0'  HD
        have hlI : (k : Int) < (l.length : Int) := by omega
        have hlI' : (k : Int) < (m.length : Int) := by omega
        by_cases hxy : x = y
        · have HE := hide (HD.out.1 hxy)
          clear HD
          subst hxy
          go_wp2
          go_quiet (fail)
          go_wp2
          go_roundw
          case rel => exact ⟨k + 1, by omega, by go_num, HE.out, _, rfl⟩
          case measure => simp [intOf]; omega
        · have HE := hide (HD.out.2 hxy)
          clear HD
          have hx' : (x.toList == y.toList) = false := by
            rw [beq_eq_false_iff_ne]
            intro e
            exact hxy (data_inj (by rw [← ByteArray.toList_eq, ← ByteArray.toList_eq] at *; exact e))
          clear hxy
          all_goals go_wp2
          all_goals go_quiet (fail)
          all_goals go_wp2
          all_goals go_ret
          all_goals exact ⟨ret_bool HE.out.symm, _, World.drewN_drewN _ _ _⟩
      · obtain rfl : k = l.length := by omega
        have HD := hide (dec_end HG.out rfl HL.out)
        go_wp2
        go_ret
        exact ⟨ret_bool HD.out.symm, _, rfl⟩
  · have hne : (((l.length : Nat) : Int) != (m.length : Int)) = true := by simp; omega
    have hlm : decide (l = m) = false := by simp; intro e; exact hlen (by rw [e])
    have HL := hide hlm
    clear hlm
    go_enter Tryd.func37, Tryd.ntmps37
    go_wp2
    go_ret
    exact ⟨ret_bool HL.out.symm, 0, rfl⟩

set_option maxRecDepth 100000 in
set_option maxHeartbeats 4000000 in
theorem refSame_any (A A' : Option Addr) (n c n' c' : Nat) (X Y : List RZ) (w : World) (hr : Rds w w.heap.size 4 A n (zCells X)) (hr' : Rds w w.heap.size 4 A' n' (zCells Y)) (hf : Zflds w w.heap.size X) (hf' : Zflds w w.heap.size Y) :
    Calls Tryd.prog 21 #[.slice A n c, .slice A' n' c'] w (Quiet w (.bool (decide (X.map RZ.rc = Y.map RZ.rc)))) := by
  have hnn := hr.2.1
  have hnn' := hr'.2.1
  obtain rfl := hr.rz_len
  obtain rfl := hr'.rz_len
  by_cases hlen : X.length = Y.length
  · have hne : (((X.length : Nat) : Int) != (Y.length : Int)) = false := by simp [hlen]
    have HL := hide hlen
    clear hlen
    go_enter Tryd.func21, Tryd.ntmps21
    go_wp2_with fail
    go_loopw [5] (fun i wr => ∃ (k : Nat), k ≤ X.length ∧ i = .int .i64 k ∧ decide (X.map RZ.rc = Y.map RZ.rc) = decide ((X.map RZ.rc).drop k = (Y.map RZ.rc).drop k) ∧ ∃ q, wr = w.drewN q) (fun i _ => X.length - (intOf i).toNat)
    case atStart => exact ⟨0, Nat.zero_le _, rfl, rfl, 0, rfl⟩
    case round =>
      obtain ⟨k, hk, rfl, hg, hq⟩ := hrel
      have HG := hide hg
      have hr2 : Rds wr w.heap.size 4 A X.length (zCells X) := by obtain ⟨q, e⟩ := hq; rw [e]; exact hr
      have hr2' : Rds wr w.heap.size 4 A' Y.length (zCells Y) := by obtain ⟨q, e⟩ := hq; rw [e]; exact hr'
      have hf2 : Zflds wr w.heap.size X := by obtain ⟨q, e⟩ := hq; rw [e]; exact hf
      have hf2' : Zflds wr w.heap.size Y := by obtain ⟨q, e⟩ := hq; rw [e]; exact hf'
      have HQ := hide (fun q' => (show ∃ q, wr.drewN q' = w.drewN q from by obtain ⟨q, e⟩ := hq; exact ⟨q + q', by rw [e, World.drewN_drewN]⟩))
      have HQ0 := hide hq
      clear hg hq
      by_cases hlt : k < X.length
      · have hlt' : k < Y.length := by have := HL.out; omega
        obtain ⟨b, o, rfl, hbl, c0, c1, c2, c3⟩ := hr2.rz hlt
        obtain ⟨b', o', rfl, hbl', c0', c1', c2', c3'⟩ := hr2'.rz hlt'
        have HF := hide (hf2 _ (List.getElem_mem hlt))
        have HF' := hide (hf2' _ (List.getElem_mem hlt'))
        have HD := hide (dec_drop HG.out (drop_cons (show k < (X.map RZ.rc).length by rw [List.length_map]; exact hlt)) (drop_cons (show k < (Y.map RZ.rc).length by rw [List.length_map]; exact hlt')))
        rw [List.getElem_map, List.getElem_map] at HD
        have hlI : (k : Int) < (X.length : Int) := by omega
        have hlI' : (k : Int) < (Y.length : Int) := by omega
        have HLT := hide hlt
        generalize X[k] = x at *
        generalize Y[k] = y at *
        obtain ⟨l, a, bb, fs, A, cc⟩ := x
        obtain ⟨l', a', bb', fs', A', cc'⟩ := y
        dsimp only [RZ.rc] at c0 c1 c2 c3 c0' c1' c2' c3' HF HF' HD
        clear hlt hlt' hr hr' hf hf' hr2 hr2' hf2 hf2'
        by_cases h1 : l = l'
        · subst h1
          by_cases h2 : a = a'
          · subst h2
            by_cases h3 : bb = bb'
            · subst h3
              by_cases h4 : fs = fs'
              · have HE := hide (HD.out.1 (by rw [h4]))
                have htx := fun (q : Nat) => texts_any A A' fs.length cc fs'.length cc' w.heap.size fs fs' (wr.drewN q) HF.out HF'.out
                rw [decide_eq_true h4] at htx
                clear h4 HD
                have HTX := hide htx
                clear htx
                go_wp2_with fail
                go_quiet ((go_at_call 37; refine Calls.quiet_of (HTX.out _)))
                go_wp2_with fail
                go_roundw
                case rel => exact ⟨k + 1, by have := HLT.out; omega, by go_num, HE.out, HQ.out _⟩
                case measure => have := HLT.out; simp [intOf]; omega
              · have HE := hide (HD.out.2 (by intro e; injection e with _ e; injection e with _ e; injection e with _ e; exact h4 e))
                have htx := fun (q : Nat) => texts_any A A' fs.length cc fs'.length cc' w.heap.size fs fs' (wr.drewN q) HF.out HF'.out
                rw [decide_eq_false h4] at htx
                clear h4 HD
                have HTX := hide htx
                clear htx
                go_wp2_with fail
                go_quiet ((go_at_call 37; refine Calls.quiet_of (HTX.out _)))
                go_wp2_with fail
                go_ret
                exact ⟨ret_bool HE.out.symm, HQ.out _⟩
            · have HE := hide (HD.out.2 (by intro e; injection e with _ e; injection e with _ e; injection e with e _; exact h3 e))
              have hx : (bb != bb') = true := by simpa using h3
              clear h3 HD
              go_wp2_with fail
              go_quiet (fail)
              go_wp2_with fail
              go_ret
              exact ⟨ret_bool HE.out.symm, HQ.out _⟩
          · have HE := hide (HD.out.2 (by intro e; injection e with _ e; injection e with e _; exact h2 e))
            have hx : (a != a') = true := by simpa using h2
            clear h2 HD
            go_wp2_with fail
            go_quiet (fail)
            go_wp2_with fail
            go_ret
            exact ⟨ret_bool HE.out.symm, HQ.out _⟩
        · have HE := hide (HD.out.2 (by intro e; injection e with e _; exact h1 e))
          have hx : (l != l') = true := by simpa using h1
          clear h1 HD
          go_wp2_with fail
          go_quiet (fail)
          go_wp2_with fail
          go_ret
          exact ⟨ret_bool HE.out.symm, HQ.out _⟩
      · obtain rfl : k = X.length := by omega
        have HD := hide (dec_end HG.out (by rw [List.length_map]) (by rw [List.length_map]; exact HL.out))
        go_wp2_with fail
        go_ret
        exact ⟨ret_bool HD.out.symm, HQ0.out⟩
  · have hne : (((X.length : Nat) : Int) != (Y.length : Int)) = true := by simp; omega
    have hlm : decide (X.map RZ.rc = Y.map RZ.rc) = false := by
      apply decide_eq_false
      intro e
      have := congrArg List.length e
      rw [List.length_map, List.length_map] at this
      exact hlen this
    rw [hlm]
    clear hlm hlen
    go_enter Tryd.func21, Tryd.ntmps21
    go_wp2_with fail
    go_ret
    exact ⟨rfl, 0, rfl⟩
end Go.Proofs.YtdmkjchmcgjjmaaDoor
