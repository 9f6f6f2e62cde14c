/- The program's pack.runs: the iterator over numbers' runs, for a body that knows what each run is like. Conditions: the slice reads as the list. -/
import Derived.RangeFuncBox
import Derived.RangeFuncLeaves
import Derived.RangeFuncWrites
import Derived.Shelf.Abstract
import Derived.WalkKit
import Derived.OwnWalkIn
import Derived.TacticsInMore
import Derived.LoopNIn
import Derived.LoopIn
import Derived.Sort.CutIn
import Derived.WalkMore
import Derived.ControlIn
import Derived.BigQuiet
import Derived.Deep.QuietTactic
import Derived.Outline
import Derived.Test.YtibndkkbmgbogaaDoorProg
import Derived.Test.YtibndkkbmgbogaaDoorBase
import Derived.Test.YtibndkkbmgbogaaDoorIter
import Derived.Test.YtibndkkbmgbogaaDoorPSum
import Derived.Test.YtibndkkbmgbogaaDoorPCollect
namespace Go.Proofs.YtibndkkbmgbogaaDoor
open Go Go.RowKit

/-- every run is of one or more numbers, and of one of them -/
theorem runsOf_mem (l : List Int) : ∀ x ∈ runsOf l, 1 ≤ x.1 ∧ x.1 ≤ l.length ∧ x.2 ∈ l := by
  intro x hx
  refine ⟨runsOf_pos l x hx, ?_⟩
  have hu := unruns_runsOf l
  obtain ⟨r1, r2, e⟩ := List.append_of_mem hx
  have hp := runsOf_pos l x hx
  rw [e] at hu
  have hsplit : unruns (r1 ++ x :: r2) = unruns r1 ++ (List.replicate x.1.toNat x.2 ++ unruns r2) := by simp [unruns]
  rw [hsplit] at hu
  constructor
  · have h2 := congrArg List.length hu
    simp only [List.length_append, List.length_replicate] at h2
    omega
  · rw [← hu]
    obtain ⟨k, hk⟩ : ∃ k, x.1.toNat = k + 1 := ⟨x.1.toNat - 1, by omega⟩
    rw [hk, List.replicate_succ]
    simp

set_option maxRecDepth 100000 in
set_option maxHeartbeats 2000000 in
theorem runsS_in (P : Int × Int → Prop) (n : Nat) (hn : 1 ≤ n) (l : List Int) (hP : ∀ x ∈ runsOf l, P x) (lp Bs n₀ : Nat) (A : Option Addr) (len cap : Nat) (w0 W : World) (hr : Rds w0 n₀ 1 A len (intCells l)) (hb0 : Below n₀ w0 W)
    (J Jx : List {x : Int × Int // P x} → World → Prop) (hA : ∀ s W1 W2, J s W1 → W1.grownBy W2 none → J s W2)
    (hY : ∀ pre x W, J pre W → pre.length < l.length → YieldAt Fence.wide (n - 1) Tryd.prog lp (runEnc x.1) W fun e W' =>
      (e = .returned (.bool true) ∧ J (pre ++ [x]) W' ∧ KRows n₀ Bs W W') ∨ (e = .returned (.bool false) ∧ Jx (pre ++ [x]) W'))
    (hBs : W.cell? ⟨Bs, 0, none⟩ = some (.slice A len cap)) (h0 : J [] W) :
    CallsIn Fence.wide n Tryd.prog 82 #[.func (.yield lp) #[] #[], .pointer (some ⟨Bs, 0, none⟩)] W fun e W' => (∃ v, e = .returned v) ∧
      ((∃ ys, ys.map Subtype.val = runsOf l ∧ J ys W') ∨ (∃ pre, True ∧ Jx pre W')) := by
  have hl := hr.int_len
  subst hl
  have hm := hr.2.1
  have hro : Fence.wide.round = none := rfl
  refine callsIn_of_wp Tryd.func82 rfl trivial ?_ hro
  simp only [Tryd.ntmps82, List.size_toArray, List.length_cons, List.length_nil, Nat.reduceAdd, Nat.reduceSub, Array.replicate_succ, Array.replicate_zero, List.push_toArray, List.append_toArray, List.nil_append, List.cons_append]
  refine wpIn_wide.2 (wp_scope_straight (wpIn_wide (n := n).1 ?_))
  gi_wp2
  refine wpIn_label ?_
  gi_wp2
  gi_loopw [3] (fun i wr => ∃ (k : Nat) (pre : List {x : Int × Int // P x}), k ≤ l.length ∧ i = .int .i64 k ∧ pre.map Subtype.val ++ runsOf (l.drop k) = runsOf l ∧ J pre wr ∧ KRows n₀ Bs W wr) (fun i _ => l.length - (intOf i).toNat)
  case atStart => exact ⟨0, [], by omega, rfl, by simp, h0, KRows.refl _ _ _⟩
  case round =>
    obtain ⟨k, pre, hk, rfl, hp, hJ, hW⟩ := hrel
    have hBs' : wr.cell? ⟨Bs, 0, none⟩ = some (.slice A l.length cap) := hW.2 _ hBs
    have HP := hide hp
    clear hp
    by_cases hlt : k < l.length
    · obtain ⟨wo, rfl⟩ : ∃ wo : World, wo = wr := ⟨_, rfl⟩
      have hrd := hr.below (hb0.trans hW.1)
      have HR := hide hrd
      clear hrd
      obtain ⟨b, o, rfl, hbl, ck⟩ := HR.out.int hlt
      gi_wp2
      gi_loopw [4] (fun s wr => ∃ (j : Nat), k < j ∧ j ≤ l.length ∧ s = .int .i64 j ∧ (∀ i (hi : i < l.length), k ≤ i → i < j → l[i] = l[k]) ∧ ∃ q, wr = wo.drewN q) (fun s _ => l.length - (intOf s).toNat)
      case atStart => exact ⟨k + 1, by omega, by omega, by go_num, fun i hi h1 h2 => by congr 1; omega, 0, rfl⟩
      case round =>
        obtain ⟨j, hkj, hj, rfl, hs, q, rfl⟩ := hrel
        have HS := hide hs
        clear hs
        by_cases hjl : j < l.length
        · obtain ⟨b', o', e', hbl', cj⟩ := HR.out.int hjl
          injection e' with e'
          injection e' with e1 e2
          subst e1 e2
          by_cases heq : l[j] = l[k]
          · have hbe : (l[j] == l[k]) = true := by simpa using heq
            have HE := hide heq
            clear heq
            gi_wp2
            refine wpIn_wide.2 ?_
            go_quiet (fail)
            gi_wp2
            go_roundw
            case rel =>
              refine ⟨j + 1, by omega, by omega, by go_num, fun i hi h1 h2 => ?_, _, rfl⟩
              by_cases hij : i < j
              · exact HS.out i hi h1 hij
              · obtain rfl : i = j := by omega
                exact HE.out
            case measure => simp [intOf]; omega
          · have hbe : (l[j] == l[k]) = false := by simpa using heq
            have HU := hide (run_upto hlt hkj hj HS.out (.inr ⟨hjl, heq⟩))
            clear heq
            gi_wp2
            refine wpIn_wide.2 ?_
            go_quiet (fail)
            obtain ⟨wn, hwn⟩ : ∃ wn : World, wn = wo.drewN (q + nq) := ⟨_, rfl⟩
            have hgn : wo.grownBy wn none := by rw [hwn]; exact ⟨rfl, rfl, rfl, Nat.le_refl _, fun _ _ _ => rfl⟩
            have hBn : wn.cell? ⟨Bs, 0, none⟩ = some (.slice (some ⟨b, o, none⟩) l.length cap) := by rw [hwn]; exact hBs'
            have hcn : wn.cell? ⟨b, o + k, none⟩ = some (.int .i64 l[k]) := by rw [hwn]; exact ck
            have hkn : KRows n₀ Bs wo wn := ⟨by rw [hwn]; exact below_drewN (Below.refl _ _) _, fun v hv => by rw [hwn]; exact hv⟩
            have hpl : pre.length < l.length := by
              have h1 := runsOf_len l
              rw [← HP.out, HU.out] at h1
              simp at h1
              omega
            have hJn := hA _ _ _ hJ hgn
            obtain ⟨fn, tmps, assign, body, hy, hRy⟩ := hY pre ⟨((j : Int) - (k : Int), l[k]), hP _ (by rw [← HP.out, HU.out]; simp)⟩ wn hJn hpl
            dsimp only [runEnc, runV] at hy
            rw [World.drewN_drewN, ← hwn]
            clear hwn
            gi_wp2
            refine hRy.mono ?_
            rintro e W3 (⟨rfl, hJ3, hk3⟩ | ⟨rfl, hJx3⟩)
            · gi_wp2
              go_roundw
              case rel => exact ⟨j, _, by omega, rfl, by rw [List.map_append, List.append_assoc]; exact Eq.trans (congrArg (fun z => pre.map Subtype.val ++ z) HU.out.symm) HP.out, hJ3, hW.trans (hkn.trans hk3)⟩
              case measure => simp [intOf]; omega
            · gi_wp2
              simp only [Exit.noGoto_normal]
              go_end0
              exact ⟨⟨_, rfl⟩, .inr ⟨_, trivial, hJx3⟩⟩
        · obtain rfl : j = l.length := by omega
          have HU := hide (run_upto hlt hkj hj HS.out (.inl rfl))
          have hdj : decide ((l.length : Int) < (l.length : Int)) = false := by simp
          gi_wp2
          refine wpIn_wide.2 ?_
          go_quiet (fail)
          obtain ⟨wn, hwn⟩ : ∃ wn : World, wn = wo.drewN (q + nq) := ⟨_, rfl⟩
          have hgn : wo.grownBy wn none := by rw [hwn]; exact ⟨rfl, rfl, rfl, Nat.le_refl _, fun _ _ _ => rfl⟩
          have hBn : wn.cell? ⟨Bs, 0, none⟩ = some (.slice (some ⟨b, o, none⟩) l.length cap) := by rw [hwn]; exact hBs'
          have hcn : wn.cell? ⟨b, o + k, none⟩ = some (.int .i64 l[k]) := by rw [hwn]; exact ck
          have hkn : KRows n₀ Bs wo wn := ⟨by rw [hwn]; exact below_drewN (Below.refl _ _) _, fun v hv => by rw [hwn]; exact hv⟩
          have hpl : pre.length < l.length := by
            have h1 := runsOf_len l
            rw [← HP.out, HU.out] at h1
            simp at h1
            omega
          have hJn := hA _ _ _ hJ hgn
          obtain ⟨fn, tmps, assign, body, hy, hRy⟩ := hY pre ⟨((l.length : Int) - (k : Int), l[k]), hP _ (by rw [← HP.out, HU.out]; simp)⟩ wn hJn hpl
          dsimp only [runEnc, runV] at hy
          rw [World.drewN_drewN, ← hwn]
          clear hwn
          gi_wp2
          refine hRy.mono ?_
          rintro e W3 (⟨rfl, hJ3, hk3⟩ | ⟨rfl, hJx3⟩)
          · gi_wp2
            go_roundw
            case rel => exact ⟨l.length, _, by omega, rfl, by rw [List.map_append, List.append_assoc]; exact Eq.trans (congrArg (fun z => pre.map Subtype.val ++ z) HU.out.symm) HP.out, hJ3, hW.trans (hkn.trans hk3)⟩
            case measure => simp [intOf]; omega
          · gi_wp2
            simp only [Exit.noGoto_normal]
            go_end0
            exact ⟨⟨_, rfl⟩, .inr ⟨_, trivial, hJx3⟩⟩
    · obtain rfl : k = l.length := by omega
      gi_wp2
      simp only [Exit.noGoto_normal]
      go_end0
      refine ⟨⟨_, rfl⟩, .inl ⟨pre, ?_, hJ⟩⟩
      rw [← HP.out, List.drop_length]
      simp [runsOf]

theorem runs_stopsS (P : Int × Int → Prop) (n : Nat) (hn : 1 ≤ n) (l : List Int) (hP : ∀ x ∈ runsOf l, P x) (Bs n₀ : Nat) (A : Option Addr) (len cap : Nat) (w0 w : World) (hr : Rds w0 n₀ 1 A len (intCells l)) (hb0 : Below n₀ w0 w) (hn₀ : n₀ ≤ w.heap.size)
    (hBs : w.cell? ⟨Bs, 0, none⟩ = some (.slice A len cap)) (hBl : Bs < w.heap.size) :
    SeqStopsK (α := {x : Int × Int // P x}) Fence.wide n Tryd.prog 82 #[.pointer (some ⟨Bs, 0, none⟩)] (fun x => runEnc x.1) (KRows n₀ Bs) (fun ys => ys.map Subtype.val = runsOf l) (fun _ => True) l.length w :=
  fun lp J Jx W hW hA _ hY h0 => runsS_in P n hn l hP lp Bs n₀ A len cap w0 W hr (hb0.trans (hW.mono hn₀)) J Jx (fun s W1 W2 h hg => hA s W1 W2 none h hg (fun r e => by cases e)) hY ((hW.cell (p := ⟨Bs, 0, none⟩) hBl).trans hBs) h0
end Go.Proofs.YtibndkkbmgbogaaDoor
