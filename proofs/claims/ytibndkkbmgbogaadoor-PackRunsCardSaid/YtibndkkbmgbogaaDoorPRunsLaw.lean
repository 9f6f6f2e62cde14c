/- The walk of the law PackRuns. Conditions: the packages' variables hold what they hold; the slice reads as the list, and lies within its capacity. -/
import Derived.Test.YtibndkkbmgbogaaDoorPShown
import Derived.Test.YtibndkkbmgbogaaDoorPRunsR
import Derived.Test.YtibndkkbmgbogaaDoorTable
import Derived.IntWalk
import Derived.BigQuiet
import Derived.Deep.QuietTactic
import Derived.Outline
namespace Go.Proofs.YtibndkkbmgbogaaDoor
open Go Go.RowKit

def offR (r : List (Int × Int)) (i : Nat) : Nat := (unruns (r.take i)).length
theorem unruns_app (a b : List (Int × Int)) : unruns (a ++ b) = unruns a ++ unruns b := by simp [unruns]
theorem offR_step {r : List (Int × Int)} {i : Nat} (hi : i < r.length) : offR r (i + 1) = offR r i + r[i].1.toNat := by
  unfold offR
  rw [List.take_succ_eq_append_getElem hi, unruns_app, List.length_append]
  simp [unruns]
theorem runs_split {r : List (Int × Int)} {i : Nat} (hi : i < r.length) : unruns r = unruns (r.take i) ++ (List.replicate r[i].1.toNat r[i].2 ++ unruns (r.drop (i + 1))) := by
  conv => lhs; rw [← List.take_append_drop i r, unruns_app, List.drop_eq_getElem_cons hi, unruns_cons]
/-- what a round of the law finds -/
structure RunAt (L : List Int) (r : List (Int × Int)) (i M : Nat) (x : Int) : Prop where
  pos : 1 ≤ M
  le : offR r i + M ≤ L.length
  step : offR r (i + 1) = offR r i + M
  cell : ∀ k, k < M → L[offR r i + k]? = some x
theorem run_at (L : List Int) {i : Nat} (hi : i < (runsOf L).length) : (runsOf L)[i].1 = (((runsOf L)[i].1.toNat : Nat) : Int) ∧ RunAt L (runsOf L) i (runsOf L)[i].1.toNat (runsOf L)[i].2 := by
  have hp := runsOf_pos L _ (List.getElem_mem hi)
  have hs := runs_split hi
  rw [unruns_runsOf] at hs
  have hl : L.length = offR (runsOf L) i + ((runsOf L)[i].1.toNat + (unruns ((runsOf L).drop (i + 1))).length) := by
    conv => lhs; rw [hs]
    simp [offR]
  refine ⟨by omega, ⟨by omega, by omega, offR_step hi, fun k hk => ?_⟩⟩
  have ho : offR (runsOf L) i = (unruns ((runsOf L).take i)).length := rfl
  rw [ho]
  generalize (runsOf L)[i].1.toNat = M at *
  generalize (runsOf L)[i].2 = x at *
  generalize unruns ((runsOf L).take i) = a at *
  generalize unruns ((runsOf L).drop (i + 1)) = b at *
  rw [hs]
  rw [List.getElem?_append_right (Nat.le_add_right _ _), Nat.add_sub_cancel_left, List.getElem?_append_left (by simpa using hk), List.getElem?_replicate, if_pos hk]
theorem off_end (L : List Int) : offR (runsOf L) (runsOf L).length = L.length := by
  unfold offR
  rw [List.take_length, unruns_runsOf]

set_option maxRecDepth 100000 in
set_option maxHeartbeats 1000000 in
theorem packRuns_any (A : Option Addr) (n c : Nat) (l : List Int) (B : Nat) (z : Value) (w : World) (hE : PEnv w B z) (hB : B ≤ w.heap.size) (hc : n ≤ c) (hr : Rds w w.heap.size 1 A n (intCells l)) :
    Calls Tryd.prog 10 #[.slice A n c] w (Freed w (.bool true)) := by
  have h0 := packShown_any B z w hE hB
  have hrN := hr.int_take 300
  have hmx := hr.2.1
  obtain ⟨L, hL⟩ : ∃ L, L = l.take 300 := ⟨_, rfl⟩
  rw [← hL] at hrN
  have hlen : L.length = min n 300 := by
    have := hrN.1
    rw [intCells_length] at this
    omega
  have hA : 0 < n → ∃ b o, A = some ⟨b, o, none⟩ := fun h => by obtain ⟨b, o, e, _⟩ := hr.2.2 h; exact ⟨b, o, e⟩
  clear hL hr hE hB
  have HS := hide h0
  have HR := hide hrN
  clear h0 hrN
  go_enter Tryd.func10, Tryd.ntmps10
  go_wp2_with fail
  refine HS.out.mono ?_
  rintro e w1 ⟨rfl, hb1⟩
  have hr1 := hide ((HR.out.below hb1).more hb1.size)
  clear HR HS
  have hbw := hide hb1
  clear hb1
  rcases Nat.lt_or_ge 300 n with hn | hn
  · have e : min n 300 = 300 := by omega
    obtain ⟨b, o, rfl⟩ := hA (by omega)
    rw [e] at hlen hr1
    go_wp2_with fail
    refine (packRunsFn_any _ _ _ L w1 hr1.out (by omega)).mono ?_
    rintro e w2 ⟨A2, n2, c2, rfl, hr2, _, hb2⟩
    have hb02 := hide (hbw.out.trans (hb2.mono hbw.out.size))
    have hL2 := (hr1.out.below hb2).more hb2.size
    have hR := fun i hi => @run_at L i hi
    have hAlt := runsOf_alt L
    have hEnd := off_end L
    have h00 : offR (runsOf L) 0 = 0 := rfl
    have hrlen := runsOf_len L
    generalize runsOf L = r at *
    have hrl := hr2.run_len
    subst hrl
    have HAlt := hide hAlt
    have HEnd := hide hEnd
    have HR := hide hR
    clear hAlt hEnd hR hb2 hbw hr1
    go_wp2_with fail
    go_loopw [5, 6] (fun at_ i wr => ∃ (k : Nat), k ≤ r.length ∧ i = .int .i64 k ∧ at_ = .int .i64 (offR r k : Nat) ∧ ∃ q, wr = w2.drewN q) (fun _ i _ => r.length - (intOf i).toNat)
    case atStart => exact ⟨0, Nat.zero_le _, rfl, rfl, 0, rfl⟩
    case round =>
      obtain ⟨k, hk, rfl, rfl, q, rfl⟩ := hrel
      by_cases hlt : k < r.length
      · obtain ⟨b2, o2, rfl, hbl2, c0, c1⟩ := hr2.run hlt
        obtain ⟨m1, m2⟩ := HR.out k hlt
        rw [m1] at c0
        have hle := m2.le
        have hpos := m2.pos
        have hst := m2.step
        have HC := hide m2.cell
        have hx : ∀ y, 1 ≤ k → r[k - 1]? = some y → (r[k].2 == y.2) = false := fun y h1 hy => by
          have := HAlt.out (k - 1) y r[k] hy (by rw [show k - 1 + 1 = k by omega]; exact List.getElem?_eq_getElem hlt)
          exact beq_eq_false_iff_ne.2 (fun e => this e.symm)
        have hprev : ∀ h1 : 1 ≤ k, w2.cell? ⟨b2, o2 + (k - 1) * 2 + 1, none⟩ = some (.int .i64 (r[k - 1]'(by omega)).2) := fun h1 => by
          obtain ⟨b3, o3, e3, _, _, q1⟩ := hr2.run (k := k - 1) (by omega)
          injection e3 with e3
          injection e3 with e4 e5 e6
          subst e4 e5
          exact q1
        generalize r[k].1.toNat = M at *
        generalize r[k].2 = x at *
        clear m1 m2
        generalize offR r k = p at *
        have d1 : decide ((M : Int) < 1) = false := decide_eq_false (by omega)
        have d2 : decide ((300 : Int) - (p : Int) < (M : Int)) = false := decide_eq_false (by omega)
        have HLT := hide hlt
        rcases Nat.eq_zero_or_pos k with h0 | h0
        · have d4 := hide (show decide (0 < k) = false from decide_eq_false (by omega))
          have H0 := hide h0
          clear hx hprev h0
          go_wp2_with fail
          refine wp_region_quiet_lit (by kernel_rfl) (by kernel_rfl) ?_
          iterate 22 (go_big_quiet_step (fail))
          rw [d4.out]
          repeat (go_big_quiet_step (fail))
          refine wpQuiet_nil ?_
          intro _ hw'
          obtain ⟨nq, hw''⟩ := hw'
          subst hw''
          clear d1 d2 d4
          go_wp2_with fail
          go_loopw [7] (fun v wr => ∃ (j : Nat), j ≤ M ∧ v = .int .i64 j ∧ ∃ q', wr = w2.drewN q') (fun v _ => M - (intOf v).toNat)
          case atStart => exact ⟨0, Nat.zero_le _, rfl, _, World.drewN_drewN _ _ _⟩
          case round =>
            obtain ⟨jj, hjj, rfl, q2, rfl⟩ := hrel
            by_cases hjM : jj < M
            · obtain ⟨t, ht⟩ : ∃ t, t = p + jj := ⟨_, rfl⟩
              have htl : t < L.length := by omega
              obtain ⟨b5, o5, e5, _, ct⟩ := hL2.int htl
              injection e5 with e5
              injection e5 with e6 e7 e8
              subst e6 e7
              have hcx := HC.out jj hjM
              rw [← ht, List.getElem?_eq_getElem htl] at hcx
              rw [Option.some.inj hcx] at ct
              clear hcx e8
              have e1 : (p : Int) + (jj : Int) = (t : Int) := by omega
              have htn : t < 300 := by omega
              have hxx : (x != x) = false := by simp
              have HT := hide ht
              clear ht htl
              go_wp2_with fail
              go_quiet (fail)
              go_wp2
              go_roundw
              case rel => exact ⟨jj + 1, by omega, by go_num, _, rfl⟩
              case measure => simp [intOf]; omega
            · obtain rfl : jj = M := by omega
              go_wp2
              go_roundw
              case rel => exact ⟨k + 1, by have := HLT.out; omega, by go_num, by rw [hst]; go_num, _, rfl⟩
              case measure => have := HLT.out; simp [intOf]; omega
        · obtain ⟨j, hj⟩ : ∃ j, j = k - 1 := ⟨k - 1, rfl⟩
          have hjl : j < r.length := by omega
          have hx1 := hx (r[j]) (by omega) (by rw [← hj]; exact List.getElem?_eq_getElem hjl)
          have hp1 := hprev (by omega)
          simp only [← hj] at hp1
          clear hx hprev
          generalize (r[j]).2 = y at *
          have d4 : decide (0 < k) = true := decide_eq_true (by omega)
          have d5 : IntKind.i64.wrap ((k : Int) - 1) = (j : Int) := by rw [IntWalk.i64_in _ (by omega)]; omega
          have HJ := hide hj
          clear hj
          go_wp2_with fail
          go_quiet (fail)
          clear hx1 hp1 d1 d2 d4 d5
          go_wp2_with fail
          go_loopw [7] (fun v wr => ∃ (j : Nat), j ≤ M ∧ v = .int .i64 j ∧ ∃ q', wr = w2.drewN q') (fun v _ => M - (intOf v).toNat)
          case atStart => exact ⟨0, Nat.zero_le _, rfl, _, World.drewN_drewN _ _ _⟩
          case round =>
            obtain ⟨jj, hjj, rfl, q2, rfl⟩ := hrel
            by_cases hjM : jj < M
            · obtain ⟨t, ht⟩ : ∃ t, t = p + jj := ⟨_, rfl⟩
              have htl : t < L.length := by omega
              obtain ⟨b5, o5, e5, _, ct⟩ := hL2.int htl
              injection e5 with e5
              injection e5 with e6 e7 e8
              subst e6 e7
              have hcx := HC.out jj hjM
              rw [← ht, List.getElem?_eq_getElem htl] at hcx
              rw [Option.some.inj hcx] at ct
              clear hcx e8
              have e1 : (p : Int) + (jj : Int) = (t : Int) := by omega
              have htn : t < 300 := by omega
              have hxx : (x != x) = false := by simp
              have HT := hide ht
              clear ht htl
              go_wp2_with fail
              go_quiet (fail)
              go_wp2
              go_roundw
              case rel => exact ⟨jj + 1, by omega, by go_num, _, rfl⟩
              case measure => simp [intOf]; omega
            · obtain rfl : jj = M := by omega
              go_wp2
              go_roundw
              case rel => exact ⟨k + 1, by have := HLT.out; omega, by go_num, by rw [hst]; go_num, _, rfl⟩
              case measure => have := HLT.out; simp [intOf]; omega
      · obtain rfl : k = r.length := by omega
        have d1 : (((offR r r.length : Nat) : Int) == 300) = true := by rw [HEnd.out, hlen]; rfl
        go_wp2
        go_ret
        exact ⟨rfl, below_drewN hb02.out _⟩
  · have e : min n 300 = n := by omega
    rw [e] at hlen hr1
    go_wp2_with fail
    refine (packRunsFn_any _ _ _ L w1 hr1.out (by omega)).mono ?_
    rintro e w2 ⟨A2, n2, c2, rfl, hr2, _, hb2⟩
    have hb02 := hide (hbw.out.trans (hb2.mono hbw.out.size))
    have hL2 := (hr1.out.below hb2).more hb2.size
    have hR := fun i hi => @run_at L i hi
    have hAlt := runsOf_alt L
    have hEnd := off_end L
    have h00 : offR (runsOf L) 0 = 0 := rfl
    have hrlen := runsOf_len L
    generalize runsOf L = r at *
    have hrl := hr2.run_len
    subst hrl
    have HAlt := hide hAlt
    have HEnd := hide hEnd
    have HR := hide hR
    clear hAlt hEnd hR hb2 hbw hr1
    go_wp2_with fail
    go_loopw [5, 6] (fun at_ i wr => ∃ (k : Nat), k ≤ r.length ∧ i = .int .i64 k ∧ at_ = .int .i64 (offR r k : Nat) ∧ ∃ q, wr = w2.drewN q) (fun _ i _ => r.length - (intOf i).toNat)
    case atStart => exact ⟨0, Nat.zero_le _, rfl, rfl, 0, rfl⟩
    case round =>
      obtain ⟨k, hk, rfl, rfl, q, rfl⟩ := hrel
      by_cases hlt : k < r.length
      · obtain ⟨b2, o2, rfl, hbl2, c0, c1⟩ := hr2.run hlt
        obtain ⟨b, o, rfl⟩ := hA (by omega)
        obtain ⟨m1, m2⟩ := HR.out k hlt
        rw [m1] at c0
        have hle := m2.le
        have hpos := m2.pos
        have hst := m2.step
        have HC := hide m2.cell
        have hx : ∀ y, 1 ≤ k → r[k - 1]? = some y → (r[k].2 == y.2) = false := fun y h1 hy => by
          have := HAlt.out (k - 1) y r[k] hy (by rw [show k - 1 + 1 = k by omega]; exact List.getElem?_eq_getElem hlt)
          exact beq_eq_false_iff_ne.2 (fun e => this e.symm)
        have hprev : ∀ h1 : 1 ≤ k, w2.cell? ⟨b2, o2 + (k - 1) * 2 + 1, none⟩ = some (.int .i64 (r[k - 1]'(by omega)).2) := fun h1 => by
          obtain ⟨b3, o3, e3, _, _, q1⟩ := hr2.run (k := k - 1) (by omega)
          injection e3 with e3
          injection e3 with e4 e5 e6
          subst e4 e5
          exact q1
        generalize r[k].1.toNat = M at *
        generalize r[k].2 = x at *
        clear m1 m2
        generalize offR r k = p at *
        have d1 : decide ((M : Int) < 1) = false := decide_eq_false (by omega)
        have d2 : decide ((n : Int) - (p : Int) < (M : Int)) = false := decide_eq_false (by omega)
        have HLT := hide hlt
        rcases Nat.eq_zero_or_pos k with h0 | h0
        · have d4 := hide (show decide (0 < k) = false from decide_eq_false (by omega))
          have H0 := hide h0
          clear hx hprev h0
          go_wp2_with fail
          refine wp_region_quiet_lit (by kernel_rfl) (by kernel_rfl) ?_
          iterate 22 (go_big_quiet_step (fail))
          rw [d4.out]
          repeat (go_big_quiet_step (fail))
          refine wpQuiet_nil ?_
          intro _ hw'
          obtain ⟨nq, hw''⟩ := hw'
          subst hw''
          clear d1 d2 d4
          go_wp2_with fail
          go_loopw [7] (fun v wr => ∃ (j : Nat), j ≤ M ∧ v = .int .i64 j ∧ ∃ q', wr = w2.drewN q') (fun v _ => M - (intOf v).toNat)
          case atStart => exact ⟨0, Nat.zero_le _, rfl, _, World.drewN_drewN _ _ _⟩
          case round =>
            obtain ⟨jj, hjj, rfl, q2, rfl⟩ := hrel
            by_cases hjM : jj < M
            · obtain ⟨t, ht⟩ : ∃ t, t = p + jj := ⟨_, rfl⟩
              have htl : t < L.length := by omega
              obtain ⟨b5, o5, e5, _, ct⟩ := hL2.int htl
              injection e5 with e5
              injection e5 with e6 e7 e8
              subst e6 e7
              have hcx := HC.out jj hjM
              rw [← ht, List.getElem?_eq_getElem htl] at hcx
              rw [Option.some.inj hcx] at ct
              clear hcx e8
              have e1 : (p : Int) + (jj : Int) = (t : Int) := by omega
              have htn : t < n := by omega
              have hxx : (x != x) = false := by simp
              have HT := hide ht
              clear ht htl
              go_wp2_with fail
              go_quiet (fail)
              go_wp2
              go_roundw
              case rel => exact ⟨jj + 1, by omega, by go_num, _, rfl⟩
              case measure => simp [intOf]; omega
            · obtain rfl : jj = M := by omega
              go_wp2
              go_roundw
              case rel => exact ⟨k + 1, by have := HLT.out; omega, by go_num, by rw [hst]; go_num, _, rfl⟩
              case measure => have := HLT.out; simp [intOf]; omega
        · obtain ⟨j, hj⟩ : ∃ j, j = k - 1 := ⟨k - 1, rfl⟩
          have hjl : j < r.length := by omega
          have hx1 := hx (r[j]) (by omega) (by rw [← hj]; exact List.getElem?_eq_getElem hjl)
          have hp1 := hprev (by omega)
          simp only [← hj] at hp1
          clear hx hprev
          generalize (r[j]).2 = y at *
          have d4 : decide (0 < k) = true := decide_eq_true (by omega)
          have d5 : IntKind.i64.wrap ((k : Int) - 1) = (j : Int) := by rw [IntWalk.i64_in _ (by omega)]; omega
          have HJ := hide hj
          clear hj
          go_wp2_with fail
          go_quiet (fail)
          clear hx1 hp1 d1 d2 d4 d5
          go_wp2_with fail
          go_loopw [7] (fun v wr => ∃ (j : Nat), j ≤ M ∧ v = .int .i64 j ∧ ∃ q', wr = w2.drewN q') (fun v _ => M - (intOf v).toNat)
          case atStart => exact ⟨0, Nat.zero_le _, rfl, _, World.drewN_drewN _ _ _⟩
          case round =>
            obtain ⟨jj, hjj, rfl, q2, rfl⟩ := hrel
            by_cases hjM : jj < M
            · obtain ⟨t, ht⟩ : ∃ t, t = p + jj := ⟨_, rfl⟩
              have htl : t < L.length := by omega
              obtain ⟨b5, o5, e5, _, ct⟩ := hL2.int htl
              injection e5 with e5
              injection e5 with e6 e7 e8
              subst e6 e7
              have hcx := HC.out jj hjM
              rw [← ht, List.getElem?_eq_getElem htl] at hcx
              rw [Option.some.inj hcx] at ct
              clear hcx e8
              have e1 : (p : Int) + (jj : Int) = (t : Int) := by omega
              have htn : t < n := by omega
              have hxx : (x != x) = false := by simp
              have HT := hide ht
              clear ht htl
              go_wp2_with fail
              go_quiet (fail)
              go_wp2
              go_roundw
              case rel => exact ⟨jj + 1, by omega, by go_num, _, rfl⟩
              case measure => simp [intOf]; omega
            · obtain rfl : jj = M := by omega
              go_wp2
              go_roundw
              case rel => exact ⟨k + 1, by have := HLT.out; omega, by go_num, by rw [hst]; go_num, _, rfl⟩
              case measure => have := HLT.out; simp [intOf]; omega
      · obtain rfl : k = r.length := by omega
        have d1 : (((offR r r.length : Nat) : Int) == (n : Int)) = true := by rw [HEnd.out, hlen]; simp
        go_wp2
        go_ret
        exact ⟨rfl, below_drewN hb02.out _⟩
end Go.Proofs.YtibndkkbmgbogaaDoor
