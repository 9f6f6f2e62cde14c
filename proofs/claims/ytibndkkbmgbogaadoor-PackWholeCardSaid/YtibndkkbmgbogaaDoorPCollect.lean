/- The program's pack.runs: the iterator over numbers' runs. Conditions: the slice reads as the list. -/
import Derived.RangeFuncBox
import Derived.RangeFuncLeaves
import Derived.RangeFuncWrites
import Derived.Shelf.Abstract
import Derived.WalkKit
import Derived.OwnWalkIn
import Derived.TacticsInMore
import Derived.LoopNIn
import Derived.LoopIn
import Derived.Sort.CutIn
import Derived.WalkMore
import Derived.ControlIn
import Derived.BigQuiet
import Derived.Deep.QuietTactic
import Derived.Outline
import Derived.Test.YtibndkkbmgbogaaDoorProg
import Derived.Test.YtibndkkbmgbogaaDoorBase
import Derived.Test.YtibndkkbmgbogaaDoorIter
import Derived.Test.YtibndkkbmgbogaaDoorPSum
import Derived.RangeFuncCalls
import Derived.RangeFuncNested
import Derived.Shelf.RegionOpen
import Derived.Test.YtibndkkbmgbogaaDoorClone
import Derived.Test.YtibndkkbmgbogaaDoorAdd
import Derived.Test.YtibndkkbmgbogaaDoorBuild
namespace Go.Proofs.YtibndkkbmgbogaaDoor
open Go Go.RowKit

/-- a run as it is handed over -/
def runV (x : Int × Int) : Value := .agg #[.int .i64 x.1, .int .i64 x.2]
def runEnc (x : Int × Int) : Array Value := #[runV x]

/-- how far the run goes that begins at k: up to the first place from j on that holds another number -/
theorem run_upto {l : List Int} {k j : Nat} (hk : k < l.length) (hkj : k < j) (hj : j ≤ l.length) (hs : ∀ i (hi : i < l.length), k ≤ i → i < j → l[i] = l[k]) (he : j = l.length ∨ ∃ h : j < l.length, l[j] ≠ l[k]) :
    runsOf (l.drop k) = ((j : Int) - (k : Int), l[k]) :: runsOf (l.drop j) := by
  have hsplit : l.drop k = List.replicate ((j - k - 1) + 1) l[k] ++ l.drop j := by
    apply List.ext_getElem
    · simp; omega
    · intro i h1 h2
      rw [List.getElem_drop]
      simp at h1
      by_cases hi : i < j - k
      · rw [List.getElem_append_left (by simp; omega), List.getElem_replicate]
        exact hs (k + i) (by omega) (by omega) (by omega)
      · rw [List.getElem_append_right (by simp; omega), List.getElem_drop]
        congr 1
        simp
        omega
  rw [hsplit, runsOf_run]
  · congr 2
    omega
  · rcases he with e | ⟨h, e⟩
    · rw [List.drop_of_length_le (by omega)]
      simp
    · rw [drop_cons h]
      simp only [List.head?_cons, ne_eq, Option.some.injEq]
      exact e

theorem runs_in (F : Fence) (n : Nat) (hf : F.fn 65) (hro : F.round = none) (a : Option Addr) (len cap : Nat) (w : World) :
    CallsIn F n Tryd.prog 65 #[.slice a len cap] w fun e w' => e = .returned (.func (.func 82) #[] #[.pointer (some ⟨w.heap.size, 0, none⟩)]) ∧ w' = w.alloc (.cells #[.slice a len cap] 24) := by
  refine callsIn_of_wp Tryd.func65 rfl hf ?_ hro
  simp only [Tryd.ntmps65, List.size_toArray, List.length_cons, List.length_nil, Nat.reduceAdd, Nat.reduceSub, Array.replicate_succ, Array.replicate_zero, List.push_toArray, List.append_toArray, List.nil_append, List.cons_append]
  gi_wp2
  go_ret
  exact ⟨rfl, rfl⟩

attribute [local go_sem] Oper.semAt_some

set_option maxRecDepth 100000 in
set_option maxHeartbeats 2000000 in
theorem runs1_in (n : Nat) (hn : 1 ≤ n) (l : List Int) (lp Bs n₀ : Nat) (A : Option Addr) (len cap : Nat) (w0 W : World) (hr : Rds w0 n₀ 1 A len (intCells l)) (hb0 : Below n₀ w0 W)
    (J Jx : List (Int × Int) → World → Prop) (hA : ∀ s W1 W2, J s W1 → W1.grownBy W2 none → J s W2)
    (hY : ∀ pre x W, J pre W → pre.length < l.length → YieldAt Fence.wide (n - 1) Tryd.prog lp (runEnc x) W fun e W' =>
      (e = .returned (.bool true) ∧ J (pre ++ [x]) W' ∧ KRows n₀ Bs W W') ∨ (e = .returned (.bool false) ∧ Jx (pre ++ [x]) W'))
    (hBs : W.cell? ⟨Bs, 0, none⟩ = some (.slice A len cap)) (h0 : J [] W) :
    CallsIn Fence.wide n Tryd.prog 82 #[.func (.yield lp) #[] #[], .pointer (some ⟨Bs, 0, none⟩)] W fun e W' => (∃ v, e = .returned v) ∧
      ((∃ ys, ys = runsOf l ∧ J ys W') ∨ (∃ pre, True ∧ Jx pre W')) := by
  have hl := hr.int_len
  subst hl
  have hm := hr.2.1
  have hro : Fence.wide.round = none := rfl
  refine callsIn_of_wp Tryd.func82 rfl trivial ?_ hro
  simp only [Tryd.ntmps82, List.size_toArray, List.length_cons, List.length_nil, Nat.reduceAdd, Nat.reduceSub, Array.replicate_succ, Array.replicate_zero, List.push_toArray, List.append_toArray, List.nil_append, List.cons_append]
  refine wpIn_wide.2 (wp_scope_straight (wpIn_wide (n := n).1 ?_))
  gi_wp2
  refine wpIn_label ?_
  gi_wp2
  gi_loopw [3] (fun i wr => ∃ (k : Nat) (pre : List (Int × Int)), k ≤ l.length ∧ i = .int .i64 k ∧ pre ++ runsOf (l.drop k) = runsOf l ∧ J pre wr ∧ KRows n₀ Bs W wr) (fun i _ => l.length - (intOf i).toNat)
  case atStart => exact ⟨0, [], by omega, rfl, by simp, h0, KRows.refl _ _ _⟩
  case round =>
    obtain ⟨k, pre, hk, rfl, hp, hJ, hW⟩ := hrel
    have hBs' : wr.cell? ⟨Bs, 0, none⟩ = some (.slice A l.length cap) := hW.2 _ hBs
    have HP := hide hp
    clear hp
    by_cases hlt : k < l.length
    · obtain ⟨wo, rfl⟩ : ∃ wo : World, wo = wr := ⟨_, rfl⟩
      have hrd := hr.below (hb0.trans hW.1)
      have HR := hide hrd
      clear hrd
      obtain ⟨b, o, rfl, hbl, ck⟩ := HR.out.int hlt
      gi_wp2
      gi_loopw [4] (fun s wr => ∃ (j : Nat), k < j ∧ j ≤ l.length ∧ s = .int .i64 j ∧ (∀ i (hi : i < l.length), k ≤ i → i < j → l[i] = l[k]) ∧ ∃ q, wr = wo.drewN q) (fun s _ => l.length - (intOf s).toNat)
      case atStart => exact ⟨k + 1, by omega, by omega, by go_num, fun i hi h1 h2 => by congr 1; omega, 0, rfl⟩
      case round =>
        obtain ⟨j, hkj, hj, rfl, hs, q, rfl⟩ := hrel
        have HS := hide hs
        clear hs
        by_cases hjl : j < l.length
        · obtain ⟨b', o', e', hbl', cj⟩ := HR.out.int hjl
          injection e' with e'
          injection e' with e1 e2
          subst e1 e2
          by_cases heq : l[j] = l[k]
          · have hbe : (l[j] == l[k]) = true := by simpa using heq
            have HE := hide heq
            clear heq
            gi_wp2
            refine wpIn_wide.2 ?_
            go_quiet (fail)
            gi_wp2
            go_roundw
            case rel =>
              refine ⟨j + 1, by omega, by omega, by go_num, fun i hi h1 h2 => ?_, _, rfl⟩
              by_cases hij : i < j
              · exact HS.out i hi h1 hij
              · obtain rfl : i = j := by omega
                exact HE.out
            case measure => simp [intOf]; omega
          · have hbe : (l[j] == l[k]) = false := by simpa using heq
            have HU := hide (run_upto hlt hkj hj HS.out (.inr ⟨hjl, heq⟩))
            clear heq
            gi_wp2
            refine wpIn_wide.2 ?_
            go_quiet (fail)
            obtain ⟨wn, hwn⟩ : ∃ wn : World, wn = wo.drewN (q + nq) := ⟨_, rfl⟩
            have hgn : wo.grownBy wn none := by rw [hwn]; exact ⟨rfl, rfl, rfl, Nat.le_refl _, fun _ _ _ => rfl⟩
            have hBn : wn.cell? ⟨Bs, 0, none⟩ = some (.slice (some ⟨b, o, none⟩) l.length cap) := by rw [hwn]; exact hBs'
            have hcn : wn.cell? ⟨b, o + k, none⟩ = some (.int .i64 l[k]) := by rw [hwn]; exact ck
            have hkn : KRows n₀ Bs wo wn := ⟨by rw [hwn]; exact below_drewN (Below.refl _ _) _, fun v hv => by rw [hwn]; exact hv⟩
            have hpl : pre.length < l.length := by
              have h1 := runsOf_len l
              rw [← HP.out, HU.out] at h1
              simp at h1
              omega
            have hJn := hA _ _ _ hJ hgn
            obtain ⟨fn, tmps, assign, body, hy, hRy⟩ := hY pre ((j : Int) - (k : Int), l[k]) wn hJn hpl
            dsimp only [runEnc, runV] at hy
            rw [World.drewN_drewN, ← hwn]
            clear hwn
            gi_wp2
            refine hRy.mono ?_
            rintro e W3 (⟨rfl, hJ3, hk3⟩ | ⟨rfl, hJx3⟩)
            · gi_wp2
              go_roundw
              case rel => exact ⟨j, _, by omega, rfl, by rw [List.append_assoc, ← HP.out, HU.out]; rfl, hJ3, hW.trans (hkn.trans hk3)⟩
              case measure => simp [intOf]; omega
            · gi_wp2
              simp only [Exit.noGoto_normal]
              go_end0
              exact ⟨⟨_, rfl⟩, .inr ⟨_, trivial, hJx3⟩⟩
        · obtain rfl : j = l.length := by omega
          have HU := hide (run_upto hlt hkj hj HS.out (.inl rfl))
          have hdj : decide ((l.length : Int) < (l.length : Int)) = false := by simp
          gi_wp2
          refine wpIn_wide.2 ?_
          go_quiet (fail)
          obtain ⟨wn, hwn⟩ : ∃ wn : World, wn = wo.drewN (q + nq) := ⟨_, rfl⟩
          have hgn : wo.grownBy wn none := by rw [hwn]; exact ⟨rfl, rfl, rfl, Nat.le_refl _, fun _ _ _ => rfl⟩
          have hBn : wn.cell? ⟨Bs, 0, none⟩ = some (.slice (some ⟨b, o, none⟩) l.length cap) := by rw [hwn]; exact hBs'
          have hcn : wn.cell? ⟨b, o + k, none⟩ = some (.int .i64 l[k]) := by rw [hwn]; exact ck
          have hkn : KRows n₀ Bs wo wn := ⟨by rw [hwn]; exact below_drewN (Below.refl _ _) _, fun v hv => by rw [hwn]; exact hv⟩
          have hpl : pre.length < l.length := by
            have h1 := runsOf_len l
            rw [← HP.out, HU.out] at h1
            simp at h1
            omega
          have hJn := hA _ _ _ hJ hgn
          obtain ⟨fn, tmps, assign, body, hy, hRy⟩ := hY pre ((l.length : Int) - (k : Int), l[k]) wn hJn hpl
          dsimp only [runEnc, runV] at hy
          rw [World.drewN_drewN, ← hwn]
          clear hwn
          gi_wp2
          refine hRy.mono ?_
          rintro e W3 (⟨rfl, hJ3, hk3⟩ | ⟨rfl, hJx3⟩)
          · gi_wp2
            go_roundw
            case rel => exact ⟨l.length, _, by omega, rfl, by rw [List.append_assoc, ← HP.out, HU.out]; rfl, hJ3, hW.trans (hkn.trans hk3)⟩
            case measure => simp [intOf]; omega
          · gi_wp2
            simp only [Exit.noGoto_normal]
            go_end0
            exact ⟨⟨_, rfl⟩, .inr ⟨_, trivial, hJx3⟩⟩
    · obtain rfl : k = l.length := by omega
      gi_wp2
      simp only [Exit.noGoto_normal]
      go_end0
      refine ⟨⟨_, rfl⟩, .inl ⟨pre, ?_, hJ⟩⟩
      rw [← HP.out, List.drop_length]
      simp [runsOf]

theorem runs_stops (n : Nat) (hn : 1 ≤ n) (l : List Int) (Bs n₀ : Nat) (A : Option Addr) (len cap : Nat) (w0 w : World) (hr : Rds w0 n₀ 1 A len (intCells l)) (hb0 : Below n₀ w0 w) (hn₀ : n₀ ≤ w.heap.size)
    (hBs : w.cell? ⟨Bs, 0, none⟩ = some (.slice A len cap)) (hBl : Bs < w.heap.size) :
    SeqStopsK Fence.wide n Tryd.prog 82 #[.pointer (some ⟨Bs, 0, none⟩)] runEnc (KRows n₀ Bs) (fun ys => ys = runsOf l) (fun _ => True) l.length w :=
  fun lp J Jx W hW hA _ hY h0 => runs1_in n hn l lp Bs n₀ A len cap w0 W hr (hb0.trans (hW.mono hn₀)) J Jx (fun s W1 W2 h hg => hA s W1 W2 none h hg (fun r e => by cases e)) hY ((hW.cell (p := ⟨Bs, 0, none⟩) hBl).trans hBs) h0
end Go.Proofs.YtibndkkbmgbogaaDoor

/- slices.Collect over the iterator of runs; the program's pack.Runs. Conditions: the slice reads as the list. -/
namespace Go.Proofs.YtibndkkbmgbogaaDoor
open Go Go.RowKit

attribute [local go_sem] Oper.semAt_some

def runCells (r : List (Int × Int)) : List Value := r.flatMap fun p => [.int .i64 p.1, .int .i64 p.2]
theorem runCells_snoc (r : List (Int × Int)) (x : Int × Int) : runCells (r ++ [x]) = runCells r ++ [.int .i64 x.1, .int .i64 x.2] := by simp [runCells]
theorem runCells_length (r : List (Int × Int)) : (runCells r).length = r.length * 2 := by
  induction r with
  | nil => rfl
  | cons x r ih =>
    have e : runCells (x :: r) = [.int .i64 x.1, .int .i64 x.2] ++ runCells r := rfl
    rw [e, List.length_append, ih, List.length_cons]
    simp
    omega
theorem infoRun : (Tryd.prog.info? 53).map (fun i => (i.zero, i.size, i.bytes)) = some (some (.agg #[.int .i64 0, .int .i64 0]), 2, 16) := by kernel_rfl

theorem KeepsFrom.of_cells {B : Nat} {W W' : World} {row : Option Nat} (hg : W.grownBy W' row) (hrow : ∀ j, row = some j → ∃ cs t fr, W.heap[j]? = some (.cells cs t fr)) : KeepsFrom B W W' :=
  ⟨hg.size, fun k o _ hk ho => (hg.block k (Array.getElem?_eq_some_iff.1 hk).1 (fun e => by
    obtain ⟨cs, t, fr, hc⟩ := hrow k e.symm
    rw [hk] at hc
    injection hc with hc
    subst hc
    cases ho)).trans hk⟩
theorem KRows.of_below {n₀ Bs : Nat} {W W' : World} (h : Below n₀ W W') (hB : Bs < n₀) : KRows n₀ Bs W W' := ⟨h, fun _ hv => (h.cell (p := ⟨Bs, 0, none⟩) hB).trans hv⟩

/-- Runs are handed back; what lay is as it was. -/
def OutR (w : World) (r : List (Int × Int)) (e : Ending) (w' : World) : Prop :=
  ∃ A n c, e = .returned (.slice A n c) ∧ Rds w' w'.heap.size 2 A n (runCells r) ∧ n ≤ c ∧ Below w.heap.size w w'

set_option maxRecDepth 100000 in
set_option maxHeartbeats 2000000 in
theorem appendSeq_any (A : Option Addr) (len cap Bs : Nat) (l : List Int) (w : World) (hr : Rds w w.heap.size 1 A len (intCells l)) (hBs : w.cell? ⟨Bs, 0, none⟩ = some (.slice A len cap)) (hBl : Bs < w.heap.size) (hlen : len ≤ 1000000) :
    Calls Tryd.prog 81 #[.slice none 0 0, .func (.func 82) #[] #[.pointer (some ⟨Bs, 0, none⟩)]] w (OutR w (runsOf l)) := by
  obtain ⟨i0, hi, hz0, hz1, hz2⟩ := info_parts infoRun
  have hro : Fence.wide.round = none := rfl
  have h1 : 1 ≤ 10 := by omega
  have hll := hr.int_len
  refine (callsIn_wide (n := 10)).1 ?_
  refine callsIn_of_wp_marks Tryd.func81 rfl trivial ?_ rfl
  simp only [Tryd.ntmps81, List.size_toArray, List.length_cons, List.length_nil, Nat.reduceAdd, Nat.reduceSub, Array.replicate_succ, Array.replicate_zero, List.push_toArray, List.append_toArray, List.nil_append, List.cons_append]
  gi_wp2
  obtain ⟨W0, hW0⟩ : ∃ W0 : World, W0 = w.alloc (.cells #[.slice none 0 0] 51) := ⟨_, rfl⟩
  have hb0 : Below w.heap.size w W0 := by rw [hW0]; exact (Below.refl _ _).alloc (Nat.le_refl _) _
  have k0 : Blk W0 w.heap.size 51 #[.slice none 0 0] := by rw [hW0]; exact Blk.new _ _ _
  have hs0 : w.heap.size + 1 ≤ W0.heap.size := by rw [hW0]; simp
  rw [← hW0]
  clear hW0
  refine wpIn_rangeFunc_ownH hro h1 (gf := 82) (lb := #[.pointer (some ⟨Bs, 0, none⟩)]) rfl trivial (enters_of Tryd.func82 (by kernel_rfl) rfl)
    (runs_stops 9 (by omega) l Bs w.heap.size A len cap w W0 hr hb0 (by omega) ((hb0.cell (p := ⟨Bs, 0, none⟩) hBl).trans hBs) (by omega)) KRows.trans (KRows.put (by omega)) (Below.refl _ _) (fun _ => rfl)
    (fun pre W => ∃ vs, W.ownsRow W0.heap.size 53 2 vs pre.length (runCells pre) ∧ Blk W w.heap.size 51 #[vs] ∧ Below w.heap.size w W ∧ W0.heap.size ≤ W.heap.size)
    (fun _ _ _ => False)
    (fun s X Y row hs hg hrw => by
      obtain ⟨vs, q1, q2, q3, q4⟩ := hs
      refine ⟨vs, q1.kept hg ?_, q2.grown hg (fun e => by have := (hrw _ e.symm).1; omega), q3.grown hg q3.size (fun k e => by have := (hrw k e).1; omega), Nat.le_trans q4 hg.size⟩
      cases hv : vs.ownBlock with
      | none => exact .inl rfl
      | some k =>
        right
        intro e
        obtain ⟨cs, t, fr, hc⟩ := own_cells q1 hv
        obtain ⟨_, o, ho', hoc⟩ := hrw k e.symm
        rw [hc] at ho'
        injection ho' with ho'
        subst ho'
        cases hoc)
    (fun _ _ _ _ _ hs _ _ => hs)
    ⟨_, World.ownsRow_nil _ _ _ _, k0, hb0, Nat.le_refl _⟩
    (fun x a' W => ∃ b, W0.heap.size ≤ b ∧ Blk W b 53 #[.int .i64 x.1, .int .i64 x.2] ∧ a' = { tmps := #[.slice none 0 0, .func (.func 82) #[] #[.pointer (some ⟨Bs, 0, none⟩)], .pointer (some ⟨w.heap.size, 0, none⟩), undef, .slice none 0 0, .pointer (some ⟨b, 0, none⟩), .func (.func 82) #[] #[.pointer (some ⟨Bs, 0, none⟩)], runV x, undef, undef, undef, undef, undef], defers := [] })
    (fun x a' s X Y row hs hg hrw => by
      obtain ⟨b, q1, q2, q3⟩ := hs
      refine ⟨b, q1, q2.grown hg (fun e => ?_), q3⟩
      obtain ⟨_, o, ho', hoc⟩ := hrw b e.symm
      unfold Blk at q2
      rw [q2] at ho'
      injection ho' with ho'
      subst ho'
      cases hoc)
    ?assign ?body ?done ?stop
  case assign =>
    rintro lp pre ⟨x1, x2⟩ W K ⟨vs, q1, q2, q3, q4⟩ hK
    dsimp only [runEnc, runV]
    gi_wp2
    have hg := World.grownBy_alloc W (.cells #[.int .i64 x1, .int .i64 x2] 53) none
    exact hK _ _ (KeepsFrom.of_grownBy hg (by simp)) ⟨(Below.refl _ _).alloc q3.size _, fun v hv => (World.cell?_alloc_lt _ _ _ (World.block_lt_of_cell? _ _ hv)).trans hv⟩
      ⟨vs, q1.alloc _, q2.alloc _, q3.alloc q3.size _, by simp; omega⟩ ⟨W.heap.size, q4, Blk.new _ _ _, rfl⟩
  case body =>
    rintro lp pre ⟨x1, x2⟩ a' W hlp hrec ⟨vs, q1, q2, q3, q4⟩ ⟨b, hb, kb, rfl⟩ hlt
    dsimp only [runV]
    have c0 := q2.cell 0
    have d0 := kb.cell 0
    have d1 := kb.cell 1
    have cl := q2.lt
    have dl := kb.lt
    simp only [List.getElem?_toArray, List.getElem?_cons_zero, List.getElem?_cons_succ] at c0 d0 d1
    have hne := own_ne (q1.alloc (.cells #[.int .i64 x1, .int .i64 x2] 53)) (q2.alloc _) (by decide)
    have HN := hide (show ∀ j' u, [Value.int .i64 x1, Value.int .i64 x2][j']? = some u → (W.alloc (.cells #[.int .i64 x1, .int .i64 x2] 53)).cell? ((⟨W.heap.size, 0, none⟩ : Addr).add j') = some u from World.news_of_block (cs := #[.int .i64 x1, .int .i64 x2]) (t := 53) (fr := (0, 0)) (heap_alloc_new W _))
    have HQ := hide q1
    have hltl : pre.length < l.length := hlt
    clear q1 hlt
    gi_wp2_with (gi_at_builtin; go_must (refine wpListIn_append_own _ rfl (.tmp 8) (.tmp 10) 51 rfl W0.heap.size 53 i0 _ 2 16 Tryd.underlying51 hi hz0 hz1 hz2 rfl (by decide) vs pre.length (runCells pre) rfl (HQ.out.alloc _) ⟨W.heap.size, 0, none⟩ 1 1 [.int .i64 x1, .int .i64 x2] rfl rfl HN.out (by intro u hu; simp at hu; rcases hu with rfl | rfl <;> rfl) (by unfold maxLen; omega) (by omega) (by simp; omega) ?_); intro v' w1 hown1 hgrow1 _; obtain ⟨g', cap', rfl⟩ := own_some hown1 (by omega); have HO := hide hown1; have HG := hide hgrow1; have k1 := (q2.alloc (.cells #[.int .i64 x1, .int .i64 x2] 53)).grown hgrow1 hne; have e0 := k1.cell 0; have ef := k1.frozen 0; have el := k1.lt; clear hown1 hgrow1; simp only [List.getElem?_toArray, List.getElem?_cons_zero] at e0)
    have hga := World.grownBy_alloc W (.cells #[.int .i64 x1, .int .i64 x2] 53) none
    have hgs := grownBy_setCell w1 w.heap.size 0 (.slice (some ⟨g', 0, none⟩) (pre.length + 1) cap')
    have hbW : Below w.heap.size W (w1.setCell ⟨w.heap.size, 0, none⟩ (.slice (some ⟨g', 0, none⟩) (pre.length + 1) cap')) :=
      (((Below.refl _ _).alloc q3.size _).grown HG.out (by simp; have := q3.size; omega) (fun k e => by have := (HQ.out.lt k e).1; omega)).grown hgs (by have := HG.out.size; simp at this; have := q3.size; omega) (fun k e => by cases e; exact Nat.le_refl _)
    refine ⟨(KeepsFrom.of_cells hga (by simp)).trans ((KeepsFrom.of_cells HG.out (fun j e => own_cells (HQ.out.alloc _) e)).trans (KeepsFrom.of_cells hgs (fun j e => by cases e; exact ⟨_, _, _, k1⟩))),
      KRows.of_below hbW hBl, .slice (some ⟨g', 0, none⟩) (pre.length + 1) cap', ?_, k1.set_ 0 _, q3.trans hbW, by have := HG.out.size; simp at this ⊢; omega⟩
    rw [List.length_append, runCells_snoc]
    exact HO.out.kept hgs (.inr (fun e => own_ne HO.out k1 (by decide) e.symm))
  case done =>
    rintro D ys W hD rfl ⟨vs, q1, q2, q3, q4⟩ hK
    have c0 := q2.cell 0
    have cl := q2.lt
    simp only [List.getElem?_toArray, List.getElem?_cons_zero] at c0
    have hrl := runsOf_len l
    gi_wp2
    refine ⟨by simp, .inl ⟨_, _, rfl, run_takeDeferred hK, ?_⟩⟩
    refine ⟨vs, by simp [results, Tryd.results81, go_sem], ?_⟩
    have HG3 := grownBy_putObj' W D (.deferred none)
    have q5 := q1.kept HG3 (by
      cases hv : vs.ownBlock with
      | none => exact .inl rfl
      | some k =>
        right
        intro e
        injection e with e
        obtain ⟨cs, t, fr, hc⟩ := own_cells q1 hv
        rw [e, hK] at hc
        cases hc)
    obtain ⟨A', c', e1, e2, e3⟩ := own_rds q5 (Nat.le_refl _) (by omega)
    refine ⟨A', _, c', by rw [e1], e3, e2, q3.grown HG3 q3.size (fun k e => by cases e; omega)⟩
  case stop =>
    rintro D c pre W _ _ h _
    exact h.elim

theorem collect_any (A : Option Addr) (len cap Bs : Nat) (l : List Int) (w : World) (hr : Rds w w.heap.size 1 A len (intCells l)) (hBs : w.cell? ⟨Bs, 0, none⟩ = some (.slice A len cap)) (hBl : Bs < w.heap.size) (hlen : len ≤ 1000000) :
    Calls Tryd.prog 64 #[.func (.func 82) #[] #[.pointer (some ⟨Bs, 0, none⟩)]] w (OutR w (runsOf l)) := by
  go_enter Tryd.func64, Tryd.ntmps64
  go_wp2_with fail
  refine (appendSeq_any A len cap Bs l w hr hBs hBl hlen).mono ?_
  rintro e w1 ⟨A', n', c', rfl, h1, h2, h3⟩
  go_wp2
  go_ret
  exact ⟨A', n', c', rfl, h1, h2, h3⟩

theorem packRunsFn_any (A : Option Addr) (len cap : Nat) (l : List Int) (w : World) (hr : Rds w w.heap.size 1 A len (intCells l)) (hlen : len ≤ 1000000) :
    Calls Tryd.prog 37 #[.slice A len cap] w (OutR w (runsOf l)) := by
  go_enter Tryd.func37, Tryd.ntmps37
  go_wp2_with fail
  refine ((callsIn_wide (n := 10)).1 (runs_in Fence.wide 10 trivial rfl A len cap w)).mono ?_
  rintro e w1 ⟨rfl, rfl⟩
  go_wp2_with fail
  have hb := (Below.refl w.heap.size w).alloc (Nat.le_refl _) (.cells #[.slice A len cap] 24)
  refine (collect_any A len cap w.heap.size l _ (hr.alloc (Nat.le_refl _) _) (cell_new_c w (.slice A len cap) 24).1 (by simp) hlen).mono ?_
  rintro e w2 ⟨A', n', c', rfl, h1, h2, h3⟩
  go_wp2
  go_ret
  exact ⟨A', n', c', rfl, h1, h2, hb.trans (h3.mono hb.size)⟩
end Go.Proofs.YtibndkkbmgbogaaDoor
