/- The reference's functions on tries: Right, Value, Same. Conditions: the tries' slices read as lists. -/
import Derived.Test.YtibndkkbmgbogaaDoorProg
import Derived.Test.YtibndkkbmgbogaaDoorBase
import Derived.Test.YtibndkkbmgbogaaDoorEq
import Derived.Test.YtibndkkbmgbogaaDoorRight
import Derived.Test.YtibndkkbmgbogaaDoorValue
import Derived.BigQuiet
import Derived.Deep.QuietTactic
namespace Go.Proofs.YtibndkkbmgbogaaDoor
open Go Go.RowKit

theorem any_step {α : Type} {p : α → Bool} {b : Bool} {l r : List α} {x : α} (h : b = (l.any p)) (hd : l = x :: r) (hx : p x = false) : b = r.any p := by
  rw [h, hd, List.any_cons, hx, Bool.false_or]
theorem any_hit {α : Type} {p : α → Bool} {b : Bool} {l r : List α} {x : α} (h : b = (l.any p)) (hd : l = x :: r) (hx : p x = true) : b = true := by
  rw [h, hd, List.any_cons, hx, Bool.true_or]

set_option maxRecDepth 100000 in
set_option maxHeartbeats 2000000 in
theorem refRight_any (A A' : Option Addr) (n c n' c' : Nat) (T : Tr) (w : World) (ht : TrAt w w.heap.size A n A' n' T) :
    Calls Tryd.prog 26 #[.agg #[.slice A n c, .slice A' n' c']] w fun e w' => e = .returned (.bool T.rightB) ∧ Below w.heap.size w w' := by
  have hR := hide (right_eq T)
  have hb0 : Below w.heap.size w (w.alloc (.cells #[.slice A n c, .slice A' n' c'] 27)) := (Below.refl _ _).alloc (Nat.le_refl _) _
  obtain rfl := ht.ix.int_len
  obtain rfl := ht.bl.len
  have hm := ht.ix.2.1
  have hm' := ht.bl.max
  by_cases h : T.ix.length = 4352
  · have h1 : ((T.ix.length : Int) != 4352) = false := by simp; omega
    have hd : decide (T.ix.length = 4352) = true := by simp; omega
    have HD := hide hd
    clear h hd
    go_enter Tryd.func26, Tryd.ntmps26
    go_wp2_with fail
    go_loopw [3] (fun i wr => ∃ (k : Nat), k ≤ T.ix.length ∧ i = .int .i64 k ∧ (T.ix.any (badIn T.bl.length)) = ((T.ix.drop k).any (badIn T.bl.length)) ∧ ∃ q, wr = (w.alloc (.cells #[.slice A T.ix.length c, .slice A' T.bl.length c'] 27)).drewN q) (fun i _ => T.ix.length - (intOf i).toNat)
    case atStart => exact ⟨0, Nat.zero_le _, rfl, rfl, 0, rfl⟩
    case round =>
      obtain ⟨k, hk, rfl, hg, q, rfl⟩ := hrel
      have HG := hide hg
      clear hg
      by_cases hlt : k < T.ix.length
      · obtain ⟨b, o, rfl, hbl, c0⟩ := ht.ix.int hlt
        have HDR := hide (drop_cons hlt)
        generalize T.ix[k] = v at c0 HDR
        by_cases hv0 : v < 0
        · have HX := hide (any_hit HG.out HDR.out (show badIn T.bl.length v = true by simp [badIn]; omega))
          go_wp2_with fail
          go_quiet (fail)
          go_wp2
          go_ret
          exact ⟨ret_bool (by rw [hR.out, HX.out]; simp), below_drewN (below_drewN hb0 _) _⟩
        · have hd0 : decide (v < 0) = false := decide_eq_false hv0
          by_cases hv1 : (T.bl.length : Int) ≤ v
          · have HX := hide (any_hit HG.out HDR.out (show badIn T.bl.length v = true by simp [badIn]; omega))
            go_wp2_with fail
            go_quiet (fail)
            go_wp2
            go_ret
            exact ⟨ret_bool (by rw [hR.out, HX.out]; simp), below_drewN (below_drewN hb0 _) _⟩
          · have HX := hide (any_step HG.out HDR.out (show badIn T.bl.length v = false by simp [badIn]; omega))
            go_wp2_with fail
            go_quiet (fail)
            go_wp2
            go_roundw
            case rel => exact ⟨k + 1, by omega, by go_num, HX.out, _, rfl⟩
            case measure => simp [intOf]; omega
      · obtain rfl : k = T.ix.length := by omega
        have hany : T.ix.any (badIn T.bl.length) = false := by rw [HG.out]; simp
        have HR := hide (show T.rightB = !(T.bl.any badBlock) by rw [hR.out, hany, HD.out]; simp)
        clear hany HG
        go_wp2_with fail
        go_loopw [4] (fun i wr => ∃ (k : Nat), k ≤ T.bl.length ∧ i = .int .i64 k ∧ (T.bl.any badBlock) = ((T.bl.drop k).any badBlock) ∧ ∃ q, wr = (w.alloc (.cells #[.slice A T.ix.length c, .slice A' T.bl.length c'] 27)).drewN q) (fun i _ => T.bl.length - (intOf i).toNat)
        case atStart => exact ⟨0, Nat.zero_le _, rfl, rfl, _, rfl⟩
        case round =>
          obtain ⟨k, hk, rfl, hg, q, rfl⟩ := hrel
          have HG := hide hg
          clear hg
          by_cases hlt : k < T.bl.length
          · obtain ⟨b, o, A2, n2, c2, rfl, hbl, c0, hrow⟩ := ht.bl.row hlt
            have HDR := hide (drop_cons hlt)
            generalize T.bl[k] = x at hrow HDR
            obtain rfl := hrow.int_len
            by_cases h256 : x.length = 256
            · have hx1 : ((x.length : Int) != 256) = false := by simp; omega
              have hx256 : 256 ≤ x.length := by omega
              have HBB := hide (show badBlock x = x.any badVal by
                unfold badBlock blockB
                rw [show (x.all valB) = !(x.any badVal) by rw [List.all_eq_not_any_not]; rfl]
                simp [h256])
              have HL := hide h256
              clear h256
              go_wp2_with fail
              go_loopw [5] (fun i wr => ∃ (j : Nat), j ≤ 256 ∧ i = .int .i64 j ∧ (x.any badVal) = ((x.drop j).any badVal) ∧ ∃ q, wr = (w.alloc (.cells #[.slice A T.ix.length c, .slice (some ⟨b, o, none⟩) T.bl.length c'] 27)).drewN q) (fun i _ => 256 - (intOf i).toNat)
              case atStart => exact ⟨0, Nat.zero_le _, rfl, rfl, _, rfl⟩
              case round =>
                obtain ⟨j, hj, rfl, hg, q, rfl⟩ := hrel
                have HGJ := hide hg
                clear hg
                by_cases hjlt : j < 256
                · have hjl : j < x.length := by omega
                  obtain ⟨b2, o2, rfl, hbl2, c1⟩ := hrow.int hjl
                  have HDJ := hide (drop_cons hjl)
                  generalize x[j] = v at c1 HDJ
                  by_cases hv0 : v < 0
                  · have HX := hide (any_hit HGJ.out HDJ.out (show badVal v = true by simp [badVal, valB]; omega))
                    have HY := hide (any_hit HG.out HDR.out (by rw [HBB.out, HX.out]))
                    go_wp2_with fail
                    try go_quiet (fail)
                    try go_wp2
                    go_ret
                    exact ⟨ret_bool (by rw [HR.out, HY.out]; rfl), by first | exact below_drewN hb0 _ | exact below_drewN (below_drewN hb0 _) _⟩
                  · have hd0 : decide (v < 0) = false := decide_eq_false hv0
                    by_cases hv1 : 31 < v
                    · have HX := hide (any_hit HGJ.out HDJ.out (show badVal v = true by simp [badVal, valB]; omega))
                      have HY := hide (any_hit HG.out HDR.out (by rw [HBB.out, HX.out]))
                      go_wp2_with fail
                      try go_quiet (fail)
                      try go_wp2
                      go_ret
                      exact ⟨ret_bool (by rw [HR.out, HY.out]; rfl), by first | exact below_drewN hb0 _ | exact below_drewN (below_drewN hb0 _) _⟩
                    · have HX := hide (any_step HGJ.out HDJ.out (show badVal v = false by simp [badVal, valB]; omega))
                      go_wp2_with fail
                      try go_quiet (fail)
                      try go_wp2
                      go_roundw
                      case rel => exact ⟨j + 1, by omega, by go_num, HX.out, _, rfl⟩
                      case measure => simp [intOf]; omega
                · obtain rfl : j = 256 := by omega
                  have hx0 : x.any badVal = false := by rw [HGJ.out, List.drop_of_length_le (by rw [HL.out]; exact Nat.le_refl _)]; rfl
                  have HX := hide (any_step HG.out HDR.out (by rw [HBB.out, hx0]))
                  clear hx0
                  go_wp2_with fail
                  go_roundw
                  case rel => exact ⟨k + 1, by omega, by go_num, HX.out, _, rfl⟩
                  case measure => simp [intOf]; omega
            · have hx1 : ((x.length : Int) != 256) = true := by simp; omega
              have HX := hide (any_hit HG.out HDR.out (show badBlock x = true by unfold badBlock blockB; simp [h256]))
              clear h256
              go_wp2_with fail
              go_ret
              exact ⟨ret_bool (by rw [HR.out, HX.out]; rfl), by first | exact below_drewN hb0 _ | exact below_drewN (below_drewN hb0 _) _⟩
          · obtain rfl : k = T.bl.length := by omega
            have hx0 : T.bl.any badBlock = false := by rw [HG.out]; simp
            have HX := hide hx0
            clear hx0
            go_wp2_with fail
            go_ret
            exact ⟨ret_bool (by rw [HR.out, HX.out]; rfl), by first | exact below_drewN hb0 _ | exact below_drewN (below_drewN hb0 _) _⟩
  · have h1 : ((T.ix.length : Int) != 4352) = true := by simp; omega
    have hd : T.rightB = false := by rw [hR.out]; simp [h]
    have HD := hide hd
    clear h hd
    go_enter Tryd.func26, Tryd.ntmps26
    go_wp2
    go_ret
    exact ⟨ret_bool HD.out.symm, hb0⟩

set_option maxHeartbeats 800000 in
theorem refValue_any (A A' : Option Addr) (n c n' c' : Nat) (T : Tr) (r : Int) (w : World) (ht : TrAt w w.heap.size A n A' n' T) :
    Calls Tryd.prog 27 #[.agg #[.slice A n c, .slice A' n' c'], .int .i64 r] w fun e w' => e = .returned (.int .i64 (T.value r)) ∧ Below w.heap.size w w' := by
  have hW := ht.alloc (Nat.le_refl _) (.cells #[.slice A n c, .slice A' n' c'] 27)
  have hb0 : Below w.heap.size w (w.alloc (.cells #[.slice A n c, .slice A' n' c'] 27)) := (Below.refl _ _).alloc (Nat.le_refl _) _
  by_cases h0 : r < 0
  · have hv := hide (show T.value r = 0 by unfold Tr.value; rw [if_neg (by omega)])
    go_enter Tryd.func27, Tryd.ntmps27
    go_wp2
    go_ret
    exact ⟨ret_i64 hv.out.symm, hb0⟩
  · by_cases h1 : 1114111 < r
    · have hv := hide (show T.value r = 0 by unfold Tr.value; rw [if_neg (by omega)])
      go_enter Tryd.func27, Tryd.ntmps27
      go_wp2
      go_ret
      exact ⟨ret_i64 hv.out.symm, hb0⟩
    · cases hR : T.rightB
      · have hv := hide (show T.value r = 0 by unfold Tr.value; rw [if_neg (by simp [hR])])
        go_enter Tryd.func27, Tryd.ntmps27
        go_wp2_with (go_at_call 26; refine (refRight_any _ _ _ _ _ _ T _ hW).mono ?_; rintro e w' ⟨rfl, hb1⟩)
        go_ret
        exact ⟨ret_i64 hv.out.symm, hb0.trans (hb1.mono (by simp))⟩
      · obtain ⟨m, rfl⟩ := Int.eq_ofNat_of_zero_le (by omega : 0 ≤ r)
        obtain ⟨hl, hi⟩ := Tr.right_ix hR
        obtain ⟨k, hk, hkl⟩ := hi (m / 256) (by omega)
        obtain ⟨hl2, _⟩ := Tr.right_bl hR k hkl
        obtain ⟨b, o, rfl, hbl, c0⟩ := ht.ix.int (k := m / 256) (by omega)
        obtain ⟨b', o', A2, n2, c2, rfl, hbl', c1, hrow⟩ := ht.bl.row hkl
        have hlen := hrow.int_len
        obtain ⟨b2, o2, rfl, hbl2, c3⟩ := hrow.int (k := m % 256) (by omega)
        have hv := hide (show T.value (m : Int) = T.bl[k][m % 256] by
          unfold Tr.value Tr.at_
          rw [if_pos ⟨by omega, by omega, hR⟩, Int.toNat_natCast, getD_get (by omega : m / 256 < T.ix.length), hk, Int.toNat_natCast, getD_get hkl, getD_get (by omega)])
        rw [hk] at c0
        generalize T.bl[k][m % 256] = v at c3 hv
        obtain rfl := ht.ix.int_len
        obtain rfl := ht.bl.len
        have hr : T.ix.length = 4352 := hl
        have hn2 : n2 = 256 := by omega
        have hle1 : m / 256 < T.ix.length := by omega
        have hle2 : m % 256 < n2 := by omega
        clear hl hi hk hl2 hlen hr hn2
        go_enter Tryd.func27, Tryd.ntmps27
        go_wp2_with (go_at_call 26; refine (refRight_any _ _ _ _ _ _ T _ hW).mono ?_; rintro e w1 ⟨rfl, hb1⟩; obtain ⟨hc1, hf1⟩ := bcell hb1)
        go_quiet (fail)
        go_wp2
        go_ret
        exact ⟨ret_i64 hv.out.symm, below_drewN (hb0.trans (hb1.mono (by simp))) _⟩

set_option maxRecDepth 100000 in
set_option maxHeartbeats 1000000 in
theorem refSame_any (A A' B B' : Option Addr) (n c n' c' m d m' d' : Nat) (T U : Tr) (w : World) (ht : TrAt w w.heap.size A n A' n' T) (hu : TrAt w w.heap.size B m B' m' U) :
    Calls Tryd.prog 29 #[.agg #[.slice A n c, .slice A' n' c'], .agg #[.slice B m d, .slice B' m' d']] w fun e w' => e = .returned (.bool (decide (T = U))) ∧ Below w.heap.size w w' := by
  have ht1 := (ht.alloc (Nat.le_refl _) (.cells #[.slice A n c, .slice A' n' c'] 27)).alloc (Nat.le_refl _) (.cells #[.slice B m d, .slice B' m' d'] 27)
  have hu1 := (hu.alloc (Nat.le_refl _) (.cells #[.slice A n c, .slice A' n' c'] 27)).alloc (Nat.le_refl _) (.cells #[.slice B m d, .slice B' m' d'] 27)
  have hb := ((Below.refl w.heap.size w).alloc (Nat.le_refl _) (.cells #[.slice A n c, .slice A' n' c'] 27)).alloc (by simp) (.cells #[.slice B m d, .slice B' m' d'] 27)
  obtain ⟨T1, T2⟩ := T
  obtain ⟨U1, U2⟩ := U
  have hln := ht.bl.len
  have hln' := hu.bl.len
  have hmx := ht.bl.max
  dsimp only at hln hln'
  subst hln; subst hln'
  by_cases h1 : T1 = U1
  · have HD1 := hide (decide_eq_true h1)
    have HE := hide (show decide ((⟨T1, T2⟩ : Tr) = ⟨U1, U2⟩) = decide (T2 = U2) by simp [h1])
    clear h1
    by_cases h2 : T2.length = U2.length
    · have hne : (((T2.length : Nat) : Int) != (U2.length : Int)) = false := by simp [h2]
      have HL := hide h2
      clear h2
      go_enter Tryd.func29, Tryd.ntmps29
      go_wp2_with fail
      refine (ints_any A B n c m d T1 U1 _ ht1.ix hu1.ix).mono ?_
      rintro e w1 ⟨rfl, q, rfl⟩
      rw [HD1.out]
      go_wp2_with fail
      go_loopw [5] (fun i wr => ∃ (k : Nat), k ≤ T2.length ∧ i = .int .i64 k ∧ decide (T2 = U2) = decide (T2.drop k = U2.drop k) ∧ ∃ q, wr = ((w.alloc (.cells #[.slice A n c, .slice A' T2.length c'] 27)).alloc (.cells #[.slice B m d, .slice B' U2.length d'] 27)).drewN q) (fun i _ => T2.length - (intOf i).toNat)
      case atStart => exact ⟨0, Nat.zero_le _, rfl, rfl, _, rfl⟩
      case round =>
        obtain ⟨k, hk, rfl, hg, q, rfl⟩ := hrel
        have HG := hide hg
        clear hg
        by_cases hlt : k < T2.length
        · have hlt' : k < U2.length := by have := HL.out; omega
          obtain ⟨b, o, A2, n2, c2, rfl, hbl, c0, hrow⟩ := ht.bl.row hlt
          obtain ⟨b', o', A2', n2', c2', rfl, hbl', c0', hrow'⟩ := hu.bl.row hlt'
          have hrow1 := (hrow.alloc (Nat.le_refl _) (.cells #[.slice A n c, .slice (some ⟨b, o, none⟩) T2.length c'] 27)).alloc (Nat.le_refl _) (.cells #[.slice B m d, .slice (some ⟨b', o', none⟩) U2.length d'] 27)
          have hrow1' := (hrow'.alloc (Nat.le_refl _) (.cells #[.slice A n c, .slice (some ⟨b, o, none⟩) T2.length c'] 27)).alloc (Nat.le_refl _) (.cells #[.slice B m d, .slice (some ⟨b', o', none⟩) U2.length d'] 27)
          have HDQ := hide (dec_drop HG.out (drop_cons hlt) (drop_cons hlt'))
          generalize T2[k] = x at hrow hrow1 HDQ
          generalize U2[k] = y at hrow' hrow1' HDQ
          have hI : ∀ q', Calls Tryd.prog 58 #[.slice A2 n2 c2, .slice A2' n2' c2'] (((w.alloc (.cells #[.slice A n c, .slice (some ⟨b, o, none⟩) T2.length c'] 27)).alloc (.cells #[.slice B m d, .slice (some ⟨b', o', none⟩) U2.length d'] 27)).drewN (q + q')) (fun e w' => e = .returned (.bool (decide (x = y))) ∧ ∃ q2, w' = ((w.alloc (.cells #[.slice A n c, .slice (some ⟨b, o, none⟩) T2.length c'] 27)).alloc (.cells #[.slice B m d, .slice (some ⟨b', o', none⟩) U2.length d'] 27)).drewN (q + q2)) := fun q' =>
            (ints_any A2 A2' n2 c2 n2' c2' x y _ (hrow1.drewN (q + q')) (hrow1'.drewN (q + q'))).mono fun e w' ⟨h1, q2, h2⟩ => ⟨h1, q' + q2, by rw [h2, World.drewN_drewN, Nat.add_assoc]⟩
          clear hrow hrow' hrow1 hrow1'
          by_cases hxy : x = y
          · have HE2 := hide (HDQ.out.1 hxy)
            rw [decide_eq_true hxy] at hI
            have HI := hide hI
            clear hxy HDQ hI
            go_wp2_with fail
            go_quiet ((go_at_call 58; exact HI.out _))
            go_wp2
            go_roundw
            case rel => exact ⟨k + 1, by omega, by go_num, HE2.out, _, rfl⟩
            case measure => simp [intOf]; omega
          · have HE2 := hide (HDQ.out.2 hxy)
            rw [decide_eq_false hxy] at hI
            have HI := hide hI
            clear hxy HDQ hI
            go_wp2_with fail
            go_quiet ((go_at_call 58; exact HI.out _))
            go_wp2
            go_ret
            exact ⟨ret_bool (by rw [HE.out, HE2.out]), below_drewN (below_drewN hb _) _⟩
        · obtain rfl : k = T2.length := by omega
          have HD := hide (dec_end HG.out rfl HL.out)
          go_wp2
          go_ret
          exact ⟨ret_bool (by rw [HE.out, HD.out]), below_drewN hb _⟩
    · have hne : (((T2.length : Nat) : Int) != (U2.length : Int)) = true := by simp; omega
      have hlm : decide (T2 = U2) = false := by simp; intro e; exact h2 (by rw [e])
      have HL := hide hlm
      clear hlm h2
      go_enter Tryd.func29, Tryd.ntmps29
      go_wp2_with fail
      refine (ints_any A B n c m d T1 U1 _ ht1.ix hu1.ix).mono ?_
      rintro e w1 ⟨rfl, q, rfl⟩
      rw [HD1.out]
      go_wp2
      go_ret
      exact ⟨ret_bool (by rw [HE.out, HL.out]), below_drewN hb _⟩
  · have HD1 := hide (decide_eq_false h1)
    have HE := hide (show decide ((⟨T1, T2⟩ : Tr) = ⟨U1, U2⟩) = false by simp [h1])
    clear h1
    go_enter Tryd.func29, Tryd.ntmps29
    go_wp2_with fail
    refine (ints_any A B n c m d T1 U1 _ ht1.ix hu1.ix).mono ?_
    rintro e w1 ⟨rfl, q, rfl⟩
    rw [HD1.out]
    go_wp2
    go_ret
    exact ⟨ret_bool HE.out.symm, below_drewN hb _⟩
end Go.Proofs.YtibndkkbmgbogaaDoor
