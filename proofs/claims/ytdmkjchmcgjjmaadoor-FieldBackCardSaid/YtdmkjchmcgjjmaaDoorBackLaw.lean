/- The walk of the law FieldBack. Conditions: the packages' variables hold what they hold. -/
import Derived.Test.YtdmkjchmcgjjmaaDoorJoins
import Derived.Test.YtdmkjchmcgjjmaaDoorBackL
namespace Go.Proofs.YtdmkjchmcgjjmaaDoor
open Go Go.RowKit

def lineX (X Y : List RX) : List RX := List.zipWith (fun x y => { y with line := x.line }) X Y
def mixM (X Y : List RX) (k : Nat) : List RX := (lineX X Y).take k ++ Y.drop k
theorem lineX_len {X Y : List RX} (h : Y.length = X.length) : (lineX X Y).length = Y.length := by
  unfold lineX
  rw [List.length_zipWith]
  omega
theorem lineX_get {X Y : List RX} {k : Nat} (h : k < (lineX X Y).length) (hx : k < X.length) (hy : k < Y.length) : (lineX X Y)[k] = { Y[k] with line := X[k].line } := by
  show (List.zipWith _ X Y)[k] = _
  exact List.getElem_zipWith
theorem mixM_len {X Y : List RX} (h : Y.length = X.length) (k : Nat) : (mixM X Y k).length = Y.length := by
  unfold mixM
  rw [List.length_append, List.length_take, List.length_drop, lineX_len h]
  omega
theorem mixM_get {X Y : List RX} (h : Y.length = X.length) {k : Nat} (hk : k < Y.length) : (mixM X Y k)[k]'(by rw [mixM_len h]; exact hk) = Y[k] := by
  have hl : ((lineX X Y).take k).length = k := by rw [List.length_take, lineX_len h]; omega
  unfold mixM
  rw [List.getElem_append_right (by omega)]
  simp only [hl, List.getElem_drop]
  congr 1
  omega
theorem mixM_step {X Y : List RX} (h : Y.length = X.length) {k : Nat} (hk : k < Y.length) : (mixM X Y k).set k { (mixM X Y k)[k]'(by rw [mixM_len h]; exact hk) with line := (X[k]'(by omega)).line } = mixM X Y (k + 1) := by
  have hl : ((lineX X Y).take k).length = k := by rw [List.length_take, lineX_len h]; omega
  have hkx : k < (lineX X Y).length := by rw [lineX_len h]; exact hk
  rw [mixM_get h hk]
  unfold mixM
  rw [List.take_succ_eq_append_getElem hkx, List.append_assoc, List.set_append_right, drop_cons hk, hl, Nat.sub_self, List.set_cons_zero]
  · rw [lineX_get hkx (by omega) hk]
    rfl
  · rw [hl]
    exact Nat.le_refl _
theorem mixM_zero (X Y : List RX) : mixM X Y 0 = Y := by
  unfold mixM
  simp
theorem mixM_all {X Y : List RX} (h : Y.map RX.rc = renum 0 (X.map RX.rc)) : (mixM X Y Y.length).map RX.rc = X.map RX.rc := by
  have hl : Y.length = X.length := by
    have := congrArg List.length h
    rwa [List.length_map, renum_len, List.length_map] at this
  unfold mixM
  rw [List.drop_length, List.append_nil, List.take_of_length_le (by rw [lineX_len hl]; exact Nat.le_refl _)]
  apply List.ext_getElem
  · rw [List.length_map, List.length_map, lineX_len hl]
    exact hl
  · intro i h1 h2
    rw [List.length_map] at h2
    have h3 : (Y.map RX.rc)[i]? = some (0 + i + 1, (X.map RX.rc)[i].2) := by rw [h]; exact renum_get _ _ _ (by rw [List.length_map]; exact h2)
    rw [List.getElem?_eq_getElem (by rw [List.length_map]; omega), List.getElem_map, List.getElem_map] at h3
    injection h3 with h3
    rw [List.getElem_map, List.getElem_map]
    unfold lineX
    rw [List.getElem_zipWith]
    have h4 := congrArg Prod.snd h3
    unfold RX.rc at h4 ⊢
    exact Prod.ext rfl h4
theorem renum_line {X Y : List RX} (h : Y.map RX.rc = renum 0 (X.map RX.rc)) {k : Nat} (hk : k < Y.length) : Y[k].line = k + 1 := by
  have hl : Y.length = X.length := by
    have := congrArg List.length h
    rwa [List.length_map, renum_len, List.length_map] at this
  have h3 : (Y.map RX.rc)[k]? = some (0 + k + 1, ((X.map RX.rc)[k]'(by rw [List.length_map]; omega)).2) := by rw [h]; exact renum_get _ _ _ (by rw [List.length_map]; omega)
  rw [List.getElem?_eq_getElem (by rw [List.length_map]; omega), List.getElem_map] at h3
  injection h3 with h3
  have h4 := congrArg Prod.fst h3
  unfold RX.rc at h4
  dsimp only at h4
  omega
theorem rows_rise {X : List RX} (h : ((X.map RX.rc).map (·.1)).Pairwise (· < ·)) {j : Nat} (hj : j + 1 < X.length) : X[j].line < X[j + 1].line := by
  rw [List.map_map] at h
  have := List.pairwise_iff_getElem.1 h j (j + 1) (by rw [List.length_map]; omega) (by rw [List.length_map]; exact hj) (by omega)
  rw [List.getElem_map, List.getElem_map] at this
  exact this

set_option maxRecDepth 100000 in
set_option maxHeartbeats 4000000 in
theorem back_any (s0 : ByteArray) (B : Nat) (m : Int) (w : World) (hE : FEnv w B m) (hB : B ≤ w.heap.size) : Calls Tryd.prog 7 #[.string s0] w (Freed w (.bool true)) := by
  have hsh := shown_any B m w hE hB
  go_enter Tryd.func7, Tryd.ntmps7
  go_wp2_with fail
  refine hsh.mono ?_
  rintro e w1 ⟨rfl, b1⟩
  clear hsh
  have HE1 := hide (hE.below (b1.mono hB))
  have hB1 := Nat.le_trans hB b1.size
  clear hE
  go_wp2_with fail
  refine (cut_law s0 w1).mono ?_
  rintro e _ ⟨s, rfl, hs, rfl⟩
  have hp1 := Parse_any s B m w1 HE1.out hB1 (by omega)
  go_wp2_with fail
  refine hp1.mono ?_
  rintro e w2 ⟨X, v, rfl, hX, h2, hf2, b2⟩
  clear hp1
  have c2 := b1.trans (b2.mono b1.size)
  have HE2 := hide (HE1.out.below (b2.mono hB1))
  have hB2 := Nat.le_trans hB1 b2.size
  have HX := hide hX
  have RX2 := hide (RowR.mk h2 hf2)
  have C2 := hide c2
  have HFL := hide (file_few hs)
  have FB := hide (fun h => file_back hs h)
  have FE := hide (fun h => file_err hs h)
  have LX := hide (show ∀ k, v.ownBlock = some k → k < w2.heap.size from fun k e => (h2.lt k e).2)
  have S12 := hide (show w.heap.size ≤ w1.heap.size ∧ w1.heap.size ≤ w2.heap.size from ⟨b1.size, b2.size⟩)
  clear hX h2 hf2 c2
  generalize fileB s = S at *
  obtain ⟨S0, S1, S2⟩ := S
  dsimp only at HX HFL FB FE ⊢
  obtain ⟨A, k2, rfl, hk2⟩ := RX2.out.form
  by_cases hS : S2 = 0
  · subst hS
    obtain ⟨hpz, hfb, hrise⟩ := FB.out rfl
    have HPZ := hide hpz
    have HFB := hide hfb
    have HRISE := hide hrise
    have hxn : X.length ≤ 101 := by have := HFL.out.2.1; rw [← HX.out, List.length_map] at this; exact this
    have HXN := hide hxn
    clear FB HFL FE hpz hfb hrise
    have hpr := Print_any A X.length k2 (X.map RX.z) w2 (RX2.out.rds (by omega)) (fun x hx => ⟨RX2.out.flds x hx, by
      obtain ⟨y, hy, rfl⟩ := List.mem_map.1 hx
      have h1 := (RX2.out.fld y hy).2.2.2.2.1
      have h2 := (RX2.out.fld y hy).2.2.2.2.2
      show (-9223372036854775808 ≤ (y.a : Int) ∧ (y.a : Int) ≤ 9223372036854775807) ∧ (-9223372036854775808 ≤ (y.b : Int) ∧ (y.b : Int) ≤ 9223372036854775807)
      have : (2 : Nat) ^ 24 = 16777216 := by decide
      omega⟩) (by rw [z_rcs, HX.out]; exact Nat.le_trans HPZ.out (by decide))
    rw [z_rcs, HX.out] at hpr
    clear hxn
    go_wp2_with fail
    refine hpr.mono ?_
    rintro e w3 ⟨rfl, b3⟩
    clear hpr
    have HE3 := hide (HE2.out.below (b3.mono hB2))
    have hB3 := Nat.le_trans hB2 b3.size
    have RX3 := hide (RX2.out.below b3)
    have C3 := hide (C2.out.trans (b3.mono C2.out.size))
    have hp2 := Parse_any (printB (S0.map Rc.z)) B m w3 HE3.out hB3 (by unfold printB; rw [size_mk]; exact HPZ.out)
    rw [HFB.out] at hp2
    clear HFB HPZ RX2 C2
    generalize printB (S0.map Rc.z) = pb at *
    go_wp2_with fail
    refine hp2.mono ?_
    rintro e w4 ⟨Y, v4, rfl, hY, h4, hf4, b4⟩
    clear hp2
    have C4 := hide (C3.out.trans (b4.mono C3.out.size))
    have RX4 := hide (RX3.out.below b4)
    have RY4 := hide (RowR.mk h4 hf4)
    have LX3 := hide (show ∀ k, (Value.slice A X.length k2).ownBlock = some k → k < w3.heap.size from fun k e => Nat.lt_of_lt_of_le (LX.out k e) b3.size)
    have SZ3 := hide (show w.heap.size ≤ w3.heap.size from C3.out.size)
    dsimp only at hY
    rw [← HX.out] at hY
    have HY := hide hY
    have hl : Y.length = X.length := by
      have := congrArg List.length hY
      rwa [List.length_map, renum_len, List.length_map] at this
    obtain ⟨A4, k4, rfl, hk4⟩ := RY4.out.form
    have HL := hide hl
    have q1 : ((Y.length : Int) != (X.length : Int)) = false := by rw [hl]; simp
    clear hY h4 hf4 hl C3 RX3
    dsimp only
    go_wp2_with fail
    go_loopg [10] Y.length (fun g s10 W => ∃ (k : Nat), g = Y.length - k ∧ k ≤ Y.length ∧ s10 = .int .i64 (k : Int) ∧ RowR W w1.heap.size (.slice A X.length k2) X ∧ RowR W w3.heap.size (.slice A4 Y.length k4) (mixM X Y k) ∧ Below w.heap.size w W)
    case atStart => exact ⟨0, rfl, Nat.zero_le _, rfl, RX4.out, by rw [mixM_zero]; exact RY4.out, C4.out⟩
    case round =>
      obtain ⟨k, rfl, hk, rfl, rx, ry, hb⟩ := hrel
      have RX5 := hide rx
      have RY5 := hide ry
      have C5 := hide hb
      clear rx ry hb
      by_cases hlt : k < Y.length
      · have hkx : k < X.length := by have := HL.out; omega
        obtain ⟨g, k2', e⟩ := own_some RX5.out.row (by omega)
        injection e with e1 e2 e3
        subst e1
        subst e3
        obtain ⟨g', k4', e⟩ := own_some RY5.out.row (by rw [mixM_len HL.out]; omega)
        rw [mixM_len HL.out] at e
        injection e with e1 e2 e3
        subst e1
        subst e3
        have ry := RY5.out
        rw [← mixM_len HL.out k] at ry
        have hkt : k < (mixM X Y k).length := by rw [mixM_len HL.out]; exact hlt
        have d0 := ry.line hkt
        have d1 := ry.frozen (4 * k)
        have hset := ry.setLine hkt X[k].line
        rw [mixM_get HL.out hlt, renum_line HY.out hlt] at d0
        rw [mixM_step HL.out hlt] at hset
        have x0 := RX5.out.line hkx
        rw [Nat.mul_comm] at d0 d1 hset x0
        rw [mixM_len HL.out] at hset
        have HSET := hide hset
        have hlt' : (k : Int) < (Y.length : Int) := by omega
        have hltx : (k : Int) < (X.length : Int) := by omega
        have q5 : (Y.length : Int) ≤ 101 := by have := HXN.out; have := HL.out; omega
        have HLT := hide hlt
        have HOX := hide (RX5.out.other RY5.out.row hset.2 (apart_lt (b := w3.heap.size) LX3.out (fun k e => by cases e; exact (RY5.out.row.lt g' rfl).1)))
        have HOW := hide (RY5.out.row.lt g' rfl).1
        have hcast : ((k + 1 : Nat) : Int) = (k : Int) + 1 := by omega
        rw [hcast] at d0
        have q2 : (((k : Int) + 1) != ((k : Int) + 1)) = false := by simp
        have d5 : IntKind.i64.wrap ((k : Int) + 1) = (k : Int) + 1 := by rw [IntWalk.i64_in _ (by omega)]
        have FIN : Hid (∀ W q, W = (wr.setCell ⟨g', k * 4, none⟩ (.int .i64 (X[k].line : Int))).drewN q → ∃ (k' : Nat), Y.length - (k + 1) = Y.length - k' ∧ k' ≤ Y.length ∧ (Value.int .i64 ((k : Int) + 1)) = .int .i64 (k' : Int) ∧ RowR W w1.heap.size (.slice (some ⟨g, 0, none⟩) X.length k2) X ∧ RowR W w3.heap.size (.slice (some ⟨g', 0, none⟩) Y.length k4) (mixM X Y k') ∧ Below w.heap.size w W) := fun W q hW => by
          subst hW
          refine ⟨k + 1, rfl, HLT.out, by simp, HOX.out.below (drewN_below _ _ q), HSET.out.1.below (drewN_below _ _ q), below_drewN ?_ q⟩
          exact C5.out.grown HSET.out.2 C5.out.size (fun k e => by cases e; exact Nat.le_trans SZ3.out HOW.out)
        by_cases hk0 : k = 0
        · have r1 : decide (0 < k) = false := decide_eq_false (by omega)
          clear hset ry hlt hk0 hcast
          generalize X[k].line = ln at *
          go_wp2_with fail
          go_quiet (fail)
          go_wp2_with fail
          go_roundg (Y.length - (k + 1))
          case measure => have := HLT.out; omega
          case rel => exact FIN.out _ _ rfl
        · have r1 : decide (0 < k) = true := decide_eq_true (by omega)
          have hj1 : k - 1 < X.length := by omega
          have y0 := RX5.out.line hj1
          have hrs : X[k - 1].line < X[k].line := by
            have := rows_rise (X := X) (by rw [HX.out]; exact HRISE.out) (j := k - 1) (by omega)
            have e : k - 1 + 1 = k := by omega
            simpa [e] using this
          rw [Nat.mul_comm] at y0
          have hle : decide (X[k].line ≤ X[k - 1].line) = false := decide_eq_false (by omega)
          generalize X[k - 1].line = lj at *
          generalize X[k].line = ln at *
          obtain ⟨j, hj⟩ : ∃ j, j = k - 1 := ⟨_, rfl⟩
          have d6 : IntKind.i64.wrap ((k : Int) - 1) = (j : Int) := by rw [IntWalk.i64_in _ (by omega)]; omega
          have hjx : (j : Int) < (X.length : Int) := by omega
          rw [← hj] at y0
          clear hset ry hlt hcast hrs hj
          go_wp2_with fail
          go_quiet (fail)
          go_wp2_with fail
          go_roundg (Y.length - (k + 1))
          case measure => have := HLT.out; omega
          case rel => exact FIN.out _ _ rfl
      · obtain rfl : k = Y.length := by omega
        have hsm := same_any A A4 X.length k2 Y.length k4 (X.map RX.z) ((mixM X Y Y.length).map RX.z) wr (RX5.out.rds (by have := HXN.out; omega)) (by
          have := RY5.out.rds (by rw [mixM_len HL.out]; have := HXN.out; have := HL.out; omega)
          rwa [mixM_len HL.out] at this) RX5.out.flds RY5.out.flds
        rw [z_rcs, z_rcs, mixM_all HY.out, decide_eq_true rfl] at hsm
        clear hlt hk
        go_wp2_with fail
        refine hsm.mono ?_
        rintro e w7 ⟨rfl, b7⟩
        have C7 := hide (C5.out.trans (b7.mono C5.out.size))
        clear hsm
        go_wp2_with fail
        go_ret
        exact ⟨rfl, C7.out⟩
  · have hX0 : X.length = 0 := by
      have h1 := FE.out hS
      have h2 := HX.out
      rw [h1] at h2
      have := congrArg List.length h2
      simpa using this
    have q1 : (S2 != 0) = true := by simpa using hS
    have q2 : ((X.length : Int) == 0) = true := by rw [hX0]; rfl
    clear hS FE FB HFL HX RX2 hX0
    go_wp2_with fail
    go_ret
    exact ⟨rfl, C2.out⟩
end Go.Proofs.YtdmkjchmcgjjmaaDoor
