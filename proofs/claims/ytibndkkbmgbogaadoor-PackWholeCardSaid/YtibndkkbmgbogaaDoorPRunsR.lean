/- The reference's Runs, and the law's comparison of runs. Conditions: the slices read as the lists. -/
import Derived.Test.YtibndkkbmgbogaaDoorProg
import Derived.Test.YtibndkkbmgbogaaDoorBase
import Derived.Test.YtibndkkbmgbogaaDoorEq
import Derived.Test.YtibndkkbmgbogaaDoorRegion
import Derived.Test.YtibndkkbmgbogaaDoorPCollect
import Derived.Test.YtibndkkbmgbogaaDoorArrKey
import Derived.Deep.AppendLies
import Derived.BigQuiet
import Derived.Deep.QuietTactic
import Derived.OwnWalk
import Derived.Outline
namespace Go.Proofs.YtibndkkbmgbogaaDoor
open Go Go.RowKit

theorem runCells_get (r : List (Int × Int)) : ∀ k (h : k < r.length), (runCells r)[k * 2]? = some (.int .i64 r[k].1) ∧ (runCells r)[k * 2 + 1]? = some (.int .i64 r[k].2) := by
  induction r with
  | nil => intro k h; cases h
  | cons x r ih =>
    intro k h
    have e : runCells (x :: r) = [.int .i64 x.1, .int .i64 x.2] ++ runCells r := rfl
    cases k with
    | zero => exact ⟨rfl, rfl⟩
    | succ k =>
      have h' : k < r.length := by simpa using h
      rw [e, List.getElem?_append_right (by simp; omega), List.getElem?_append_right (by simp; omega)]
      have := ih k h'
      simp only [List.length_cons, List.length_nil, List.getElem_cons_succ]
      rw [show (k + 1) * 2 - (0 + 1 + 1) = k * 2 by omega, show (k + 1) * 2 + 1 - (0 + 1 + 1) = k * 2 + 1 by omega]
      exact this
theorem Rds.run_len {w : World} {B n : Nat} {A : Option Addr} {r : List (Int × Int)} (h : Rds w B 2 A n (runCells r)) : r.length = n := by
  have hl := h.1
  rw [runCells_length] at hl
  omega
theorem Rds.run {w : World} {B n : Nat} {A : Option Addr} {r : List (Int × Int)} (h : Rds w B 2 A n (runCells r)) {k : Nat} (hk : k < r.length) :
    ∃ b o, A = some ⟨b, o, none⟩ ∧ b < B ∧ w.cell? ⟨b, o + k * 2, none⟩ = some (.int .i64 r[k].1) ∧ w.cell? ⟨b, o + k * 2 + 1, none⟩ = some (.int .i64 r[k].2) := by
  have hl := h.run_len
  obtain ⟨b, o, e, hb, hc⟩ := h.2.2 (by omega)
  obtain ⟨h0, h1⟩ := runCells_get r k hk
  exact ⟨b, o, e, hb, hc _ _ h0, by rw [Nat.add_assoc]; exact hc _ _ h1⟩

theorem run_eq_run (x0 x1 y0 y1 : Int) (w : World) : (Op.equal 53 (.agg #[.int .i64 x0, .int .i64 x1]) (.agg #[.int .i64 y0, .int .i64 y1])).run Tryd.prog w = .ok (decide (x0 = y0 ∧ x1 = y1)) w := by
  obtain ⟨i0, hi, hz0, hz1, hz2⟩ := info_parts info3
  have h := run_eq_arr (P := Tryd.prog) (k := 53) (e := 3) (n := 2) Tryd.underlying53 Tryd.underlying3 hi (by kernel_rfl) (by kernel_rfl) [x0, x1] [y0, y1] rfl rfl w
  have e : decide ([x0, x1] = [y0, y1]) = decide (x0 = y0 ∧ x1 = y1) := by simp
  rw [e] at h
  exact h
theorem run_neq_run (x0 x1 y0 y1 : Int) (w : World) : (binOp .neq 53 (.agg #[.int .i64 x0, .int .i64 x1]) (.agg #[.int .i64 y0, .int .i64 y1])).run Tryd.prog w = .ok (.bool (!decide (x0 = y0 ∧ x1 = y1))) w := by
  simp only [binOp, Sem.run_bind, run_eq_run, Result.andThen_ok, Sem.run_pure]
theorem run_eql_run (x0 x1 y0 y1 : Int) (w : World) : (binOp .eql 53 (.agg #[.int .i64 x0, .int .i64 x1]) (.agg #[.int .i64 y0, .int .i64 y1])).run Tryd.prog w = .ok (.bool (decide (x0 = y0 ∧ x1 = y1))) w := by
  simp only [binOp, Sem.run_bind, run_eq_run, Result.andThen_ok, Sem.run_pure]

set_option maxHeartbeats 800000 in
theorem lawRuns_any (A A' : Option Addr) (n c n' c' : Nat) (l m : List (Int × Int)) (w : World) (hr : Rds w w.heap.size 2 A n (runCells l)) (hr' : Rds w w.heap.size 2 A' n' (runCells m)) :
    Calls Tryd.prog 41 #[.slice A n c, .slice A' n' c'] w (Quiet w (.bool (decide (l = m)))) := by
  have hl := hr.run_len
  have hl' := hr'.run_len
  have hm := hr.2.1
  subst hl; subst hl'
  by_cases hlen : l.length = m.length
  · have hne : (((l.length : Nat) : Int) != (m.length : Int)) = false := by simp [hlen]
    have HL := hide hlen
    clear hlen
    go_enter Tryd.func41, Tryd.ntmps41
    go_wp2
    go_loopw [5] (fun i wr => ∃ (k : Nat), k ≤ l.length ∧ i = .int .i64 k ∧ decide (l = m) = decide (l.drop k = m.drop k) ∧ ∃ q, wr = w.drewN q) (fun i _ => l.length - (intOf i).toNat)
    case atStart => exact ⟨0, Nat.zero_le _, rfl, rfl, 0, rfl⟩
    case round =>
      obtain ⟨k, hk, rfl, hg, q, rfl⟩ := hrel
      have HG := hide hg
      clear hg
      by_cases hlt : k < l.length
      · have hlt' : k < m.length := by have := HL.out; omega
        obtain ⟨b, o, rfl, hbl, c0, c1⟩ := hr.run hlt
        obtain ⟨b', o', rfl, hbl', c0', c1'⟩ := hr'.run hlt'
        have HD := hide (dec_drop HG.out (drop_cons hlt) (drop_cons hlt'))
        generalize l[k] = x at c0 c1 HD
        generalize m[k] = y at c0' c1' HD
        by_cases hxy : x = y
        · have HE := hide (HD.out.1 hxy)
          clear HD
          subst hxy
          have hnq : ∀ w, (binOp .neq 53 (.agg #[.int .i64 x.1, .int .i64 x.2]) (.agg #[.int .i64 x.1, .int .i64 x.2])).run Tryd.prog w = .ok (.bool false) w := fun w => by rw [run_neq_run]; simp
          go_wp2
          go_quiet (fail)
          clear hnq
          go_wp2
          go_roundw
          case rel => exact ⟨k + 1, by omega, by go_num, HE.out, _, rfl⟩
          case measure => simp [intOf]; omega
        · have HE := hide (HD.out.2 hxy)
          clear HD
          have hnq : ∀ w, (binOp .neq 53 (.agg #[.int .i64 x.1, .int .i64 x.2]) (.agg #[.int .i64 y.1, .int .i64 y.2])).run Tryd.prog w = .ok (.bool true) w := fun w => by
            rw [run_neq_run]
            have : ¬ (x.1 = y.1 ∧ x.2 = y.2) := fun h => hxy (Prod.ext h.1 h.2)
            simp [this]
          clear hxy
          go_wp2
          go_quiet (fail)
          clear hnq
          go_wp2
          go_ret
          exact ⟨ret_bool HE.out.symm, _, World.drewN_drewN _ _ _⟩
      · obtain rfl : k = l.length := by omega
        have HD := hide (dec_end HG.out rfl HL.out)
        go_wp2
        go_ret
        exact ⟨ret_bool HD.out.symm, _, rfl⟩
  · have hne : (((l.length : Nat) : Int) != (m.length : Int)) = true := by simp; omega
    have hlm : decide (l = m) = false := by simp; intro e; exact hlen (by rw [e])
    have HL := hide hlm
    clear hlm
    go_enter Tryd.func41, Tryd.ntmps41
    go_wp2
    go_ret
    exact ⟨ret_bool HL.out.symm, 0, rfl⟩

theorem lastRun_get {r : List (Int × Int)} {q : Nat} (hq : r.length = q + 1) : r.getLast? = some (r[q]'(by omega)) := by
  rw [List.getLast?_eq_getElem?]
  have : r.length - 1 = q := by omega
  rw [this, List.getElem?_eq_getElem (by omega)]
theorem snocRun_hit {r : List (Int × Int)} {q : Nat} {x : Int} (hq : r.length = q + 1) (h : (r[q]'(by omega)).2 = x) : snocRun r x = r.set q ((r[q]'(by omega)).1 + 1, (r[q]'(by omega)).2) := by
  unfold snocRun
  rw [lastRun_get hq]
  simp only
  rw [if_pos h]
  apply List.ext_getElem
  · simp; omega
  · intro i h1 h2
    rw [List.getElem_set]
    by_cases hi : q = i
    · subst hi
      rw [if_pos rfl, List.getElem_append_right (by simp; omega)]
      simp
    · rw [if_neg hi]
      simp at h1 h2
      rw [List.getElem_append_left (by simp; omega), List.getElem_dropLast]
theorem snocRun_miss {r : List (Int × Int)} {x : Int} (h : ∀ p, r.getLast? = some p → p.2 ≠ x) : snocRun r x = r ++ [(1, x)] := by
  unfold snocRun
  cases hr : r.getLast? with
  | none => rw [List.getLast?_eq_none_iff] at hr; subst hr; rfl
  | some p =>
    obtain ⟨n, y⟩ := p
    simp only
    rw [if_neg (h _ hr)]
theorem snocRun_last (r : List (Int × Int)) (x : Int) : ∃ n, (snocRun r x).getLast? = some (n, x) := by
  unfold snocRun
  cases hr : r.getLast? with
  | none => exact ⟨1, rfl⟩
  | some p =>
    obtain ⟨n, y⟩ := p
    simp only
    by_cases h : y = x
    · rw [if_pos h]; exact ⟨n + 1, by simp [h]⟩
    · rw [if_neg h]; exact ⟨1, by simp⟩
/-- the last run is of the last number -/
theorem runsOf_last (l : List Int) (k : Nat) (hk : k < l.length) : ∃ n, (runsOf (l.take (k + 1))).getLast? = some (n, l[k]) := by
  rw [List.take_succ_eq_append_getElem hk, runsOf_snoc]
  exact snocRun_last _ _
theorem runCells_set {p : Int × Int} {v : Int} : ∀ {r : List (Int × Int)} {q : Nat}, r[q]? = some p → (runCells r).set (q * 2) (.int .i64 v) = runCells (r.set q (v, p.2)) := by
  intro r
  induction r with
  | nil => intro q h; cases h
  | cons x r ih =>
    intro q h
    have e : ∀ (y : Int × Int) (l : List (Int × Int)), runCells (y :: l) = [.int .i64 y.1, .int .i64 y.2] ++ runCells l := fun y l => rfl
    cases q with
    | zero => simp at h; subst h; simp [runCells]
    | succ q =>
      simp only [List.getElem?_cons_succ] at h
      have := ih h
      rw [List.set_cons_succ, e, e, ← this, List.set_append_right _ _ (by simp; omega)]
      congr 2
      simp
      omega
theorem runs_le (r : List (Int × Int)) : ∀ p ∈ r, p.1.toNat ≤ (unruns r).length := by
  induction r with
  | nil => intro p h; cases h
  | cons x r ih =>
    intro p hp
    rw [unruns_cons, List.length_append, List.length_replicate]
    rcases List.mem_cons.1 hp with rfl | hp
    · omega
    · have := ih p hp; omega
theorem two1 (a b : Int) : ∀ u ∈ [Value.int .i64 a, .int .i64 b], u.oneCell' = true := by
  intro u hu
  simp at hu
  rcases hu with rfl | rfl <;> rfl

/-- runs in memory of its own -/
def OutRO (w : World) (r : List (Int × Int)) (e : Ending) (w' : World) : Prop :=
  ∃ v, e = .returned v ∧ w'.ownsRow w.heap.size 53 2 v r.length (runCells r) ∧ Below w.heap.size w w'

set_option maxRecDepth 100000 in
set_option maxHeartbeats 2000000 in
theorem refRuns_own (A : Option Addr) (n c : Nat) (l : List Int) (w : World) (hr : Rds w w.heap.size 1 A n (intCells l)) (hl5 : n ≤ 1000000) :
    Calls Tryd.prog 42 #[.slice A n c] w (OutRO w (runsOf l)) := by
  obtain ⟨i0, hi, hz0, hz1, hz2⟩ := info_parts infoRun
  obtain rfl := hr.int_len
  have hm := hr.2.1
  go_enter Tryd.func42, Tryd.ntmps42
  go_wp2_with fail
  go_loopw [3, 4] (fun s i wr => ∃ (k : Nat) (r : List (Int × Int)), k ≤ l.length ∧ i = .int .i64 k ∧ r = runsOf (l.take k) ∧ wr.ownsRow w.heap.size 53 2 s r.length (runCells r) ∧ r.length ≤ k ∧ Below w.heap.size w wr) (fun _ i _ => l.length - (intOf i).toNat)
  case atStart => exact ⟨0, [], Nat.zero_le _, rfl, by simp [runsOf], World.ownsRow_nil _ _ _ _, Nat.le_refl _, Below.refl _ _⟩
  case round =>
    obtain ⟨k, r, hk, rfl, hre, ho, hrl, hbw⟩ := hrel
    have HO := hide ho
    have HRE := hide hre
    have hsz := hbw.size
    clear ho hre
    by_cases hlt : k < l.length
    · have hsucc : runsOf (l.take (k + 1)) = snocRun r l[k] := by rw [List.take_succ_eq_append_getElem hlt, runsOf_snoc, HRE.out]
      obtain ⟨b, o, rfl, hbl, ck⟩ := (hr.below hbw).int hlt
      have hfin : ∀ (v' : Value) (w2 : World) (r2 : List (Int × Int)), r2 = snocRun r l[k] → w2.ownsRow w.heap.size 53 2 v' r2.length (runCells r2) → r2.length ≤ k + 1 → Below w.heap.size wr w2 →
          (∃ (k_1 : Nat) (r_1 : List (Int × Int)), k_1 ≤ l.length ∧ Value.int .i64 ((k : Int) + 1) = Value.int .i64 k_1 ∧ r_1 = runsOf (l.take k_1) ∧ w2.ownsRow w.heap.size 53 2 v' r_1.length (runCells r_1) ∧ r_1.length ≤ k_1 ∧ Below w.heap.size w w2) := fun v' w2 r2 h1 h2 h3 h4 =>
        ⟨k + 1, r2, by omega, by simp, by rw [h1, hsucc], h2, h3, hbw.trans h4⟩
      have HF := hide hfin
      have HN := fun (x : Int) (W2 : World) => hide (show ∀ j' u, [Value.int .i64 1, Value.int .i64 x][j']? = some u → (W2.alloc (.cells #[.int .i64 1, .int .i64 x] 53)).cell? ((⟨W2.heap.size, 0, none⟩ : Addr).add j') = some u from World.news_of_block (cs := #[.int .i64 1, .int .i64 x]) (t := 53) (fr := (0, 0)) (heap_alloc_new W2 _))
      clear hfin hsucc
      rcases Nat.eq_zero_or_pos k with rfl | hk0
      · have hr0 : r = [] := by rw [HRE.out]; simp [runsOf]
        subst hr0
        have HS := hide (show snocRun [] l[0] = ([((1 : Int), l[0])] : List (Int × Int)) from rfl)
        generalize l[0] = x at *
        go_wp2_with fail
        go_quiet (fail)
        obtain ⟨W2, hW2⟩ : ∃ W2 : World, W2 = wr.drewN nq := ⟨_, rfl⟩
        have hb2 : Below w.heap.size wr W2 := by rw [hW2]; exact below_drewN (Below.refl _ _) _
        have hs2 := hb2.size
        have HOW := hide (show W2.ownsRow w.heap.size 53 2 u3 0 (runCells []) by rw [hW2]; exact HO.out)
        have ck2 : W2.cell? ⟨b, o, none⟩ = some (.int .i64 x) := by rw [hW2]; exact ck
        rw [← hW2]
        clear hW2 ck
        go_wp2_with (at_builtin; go_must (refine wpList_append_own_at _ rfl (.tmp 35) (.tmp 41) 51 rfl w.heap.size 53 i0 _ 2 16 Tryd.underlying51 hi hz0 hz1 hz2 rfl (by decide) u3 0 (runCells []) rfl (HOW.out.alloc _) ⟨W2.heap.size, 0, none⟩ 1 1 [.int .i64 1, .int .i64 x] rfl rfl (HN x W2).out (two1 _ _) (by unfold maxLen; omega) (by omega) (by simp; omega) ?_); intro v' w2 hown2 hgrow2 _ _; have HOWN := hide hown2; have HGR := hide hgrow2; clear hown2 hgrow2)
        go_roundw
        case rel => exact HF.out _ _ [(1, x)] HS.out.symm HOWN.out (Nat.le_refl _) (hb2.trans (((Below.refl _ _).alloc (by omega) _).grown HGR.out (by simp; omega) (fun k' e => (HOW.out.lt k' e).1)))
        case measure => simp [intOf]; omega
      · obtain ⟨j, rfl⟩ : ∃ j, k = j + 1 := ⟨k - 1, by omega⟩
        have hjl : j < l.length := by omega
        obtain ⟨b', o', e', _, cj⟩ := (hr.below hbw).int hjl
        injection e' with e'
        injection e' with e1 e2
        subst e1 e2
        obtain ⟨m, hlast⟩ := runsOf_last l j hjl
        rw [← HRE.out] at hlast
        have hrpos : 0 < r.length := by
          rcases Nat.eq_zero_or_pos r.length with h | h
          · rw [List.length_eq_zero_iff.1 h] at hlast; cases hlast
          · exact h
        obtain ⟨q, hq⟩ : ∃ q, r.length = q + 1 := ⟨r.length - 1, by omega⟩
        have hqr : q < r.length := by omega
        have hlq := lastRun_get hq
        rw [hlast] at hlq
        injection hlq with hlq
        have hlq' : r[q]'hqr = (m, l[j]) := hlq.symm
        clear hlq
        obtain ⟨g, cap, hu3⟩ := own_some HO.out hrpos
        subst hu3
        rw [hq]
        have HQ := hide hq
        have HLQ := hide hlq'
        have HLA := hide hlast
        have hqk : q + 1 ≤ j + 1 := by omega
        generalize hx : l[j + 1] = x at *
        generalize hy : l[j] = y at *
        clear hx hy hq hlq' hlast
        by_cases hxy : x = y
        · have hbe : (x == y) = true := by simpa using hxy
          obtain ⟨d0, d1⟩ := runCells_get r q hqr
          have hadd : ∀ i, (⟨g, 0, none⟩ : Addr).add i = ⟨g, i, none⟩ := fun i => by unfold Addr.add; split <;> simp_all
          have c0 := HO.out.cells (g := g) rfl _ _ d0
          rw [hadd, HLQ.out] at c0
          simp only at c0
          have hoq : wr.ownsRow w.heap.size 53 2 (.slice (some ⟨g, 0, none⟩) (q + 1) cap) (q + 1) (runCells r) := by have := HO.out; rw [HQ.out] at this; exact this
          have HOQ := hide hoq
          have cf := hoq.frozenAt (q * 2)
          have dl := (HO.out.lt g rfl).2
          have hhit : snocRun r x = r.set q (m + 1, y) := by
            have := snocRun_hit (x := x) HQ.out (by rw [HLQ.out]; exact hxy.symm)
            rw [HLQ.out] at this
            exact this
          have HH := hide hhit
          have hst := runCells_set (v := m + 1) (List.getElem?_eq_getElem hqr)
          rw [HLQ.out] at hst
          have HST := hide hst
          clear hst hhit hoq hxy d0 d1 hadd
          have hmp : 1 ≤ m := by
            have := runsOf_pos (l.take (j + 1)) (m, y) (by rw [← HRE.out]; exact List.mem_of_getLast? HLA.out)
            exact this
          have hml : m ≤ 1000000 := by
            have h1 := runs_le (runsOf (l.take (j + 1))) (m, y) (by rw [← HRE.out]; exact List.mem_of_getLast? HLA.out)
            rw [unruns_runsOf, List.length_take] at h1
            simp only at h1
            omega
          go_wp2_with fail
          go_quiet (fail)
          go_wp2_with fail
          obtain ⟨W2, hW2⟩ : ∃ W2 : World, W2 = wr.drewN nq := ⟨_, rfl⟩
          have hb2 : Below w.heap.size wr W2 := by rw [hW2]; exact below_drewN (Below.refl _ _) _
          have c2 : W2.cell? ⟨g, q * 2, none⟩ = some (.int .i64 m) := by rw [hW2]; exact c0
          have cf2 : W2.frozen? ⟨g, q * 2, none⟩ = false := by rw [hW2]; exact cf
          have HOW := hide (show W2.ownsRow w.heap.size 53 2 (.slice (some ⟨g, 0, none⟩) (q + 1) cap) (q + 1) (runCells r) by rw [hW2]; exact HOQ.out)
          rw [← hW2]
          clear hW2 ck cj c0 cf
          refine wp_region_heads (fun w' => w'.cell? ⟨g, q * 2, none⟩ = some (.int .i64 m)) 8 2 (by kernel_rfl) (by kernel_rfl) (fun _ _ d _ _ h => by cases d <;> exact h) (show W2.drew.cell? ⟨g, q * 2, none⟩ = some (.int .i64 m) from c2) ?_
          simp only [List.take_succ_cons, List.take_zero, List.drop_succ_cons, List.drop_zero]
          refine heads_step (v := .slice (some ⟨g, 0, none⟩) (q + 1) cap) rfl (fun W' hS' => by rfl) ?_
          go_frame
          refine heads_step (v := .slice (some ⟨g, 0, none⟩) (q + 1) cap) rfl (fun W' hS' => by rfl) ?_
          go_frame
          refine heads_step (v := .int .i64 ((q : Int) + 1)) rfl (fun W' hS' => by go_simp; try rfl) ?_
          go_frame
          refine heads_step (v := .int .i64 q) rfl (fun W' hS' => by go_simp; try (exact IntWalk.i64_in _ (by omega))) ?_
          go_frame
          refine heads_step (v := .pointer (some ⟨g, q * 2, none⟩)) rfl (fun W' hS' => by go_simp; try (intro hh; exact absurd hh (by omega))) ?_
          go_frame
          refine heads_step (v := .pointer (some ⟨g, q * 2, none⟩)) rfl (fun W' hS' => by go_simp; try (intro hh; exact absurd hh (by omega))) ?_
          go_frame
          refine heads_step (v := .int .i64 m) rfl (fun W' hS' => by go_simp) ?_
          go_frame
          refine heads_step (v := .int .i64 (m + 1)) rfl (fun W' hS' => by go_simp; try (exact IntWalk.i64_in _ (by omega))) ?_
          go_frame
          refine heads_nil ?_
          refine mid_step rfl (fun K hK1 => ?_)
          go_simp
          rw [if_pos (show (q : Int) < (q : Int) + 1 by omega)]
          go_simp
          refine hK1 _ _ ⟨c2, ?_⟩
          try go_frame
          refine mid_step rfl (fun K hK2 => ?_)
          go_simp
          refine hK2 _ _ ⟨c2, ?_⟩
          try go_frame
          refine mid_nil ?_
          go_wp2
          go_roundw
          case rel =>
            refine HF.out _ _ (r.set q (m + 1, y)) HH.out.symm ?_ (by rw [List.length_set, HQ.out]; omega) (hb2.trans ((below_drewN (Below.refl _ _) 1).setCell (p := ⟨g, q * 2, none⟩) (HO.out.lt g rfl).1 _))
            rw [List.length_set, HQ.out, ← HST.out]
            exact (World.ownsRow.stored (w := W2.drew) HOW.out (q * 2) _).1
          case measure => simp [intOf]; omega
        · have hbe : (x == y) = false := by simpa using hxy
          have HM := hide (snocRun_miss (r := r) (x := x) (fun p hp => by rw [HLA.out] at hp; injection hp with hp; rw [← hp]; exact fun e => hxy e.symm))
          clear hxy
          go_wp2_with fail
          go_quiet (fail)
          obtain ⟨W2, hW2⟩ : ∃ W2 : World, W2 = wr.drewN nq := ⟨_, rfl⟩
          have hb2 : Below w.heap.size wr W2 := by rw [hW2]; exact below_drewN (Below.refl _ _) _
          have hs2 := hb2.size
          have HOW := hide (show W2.ownsRow w.heap.size 53 2 (.slice (some ⟨g, 0, none⟩) (q + 1) cap) (q + 1) (runCells r) by rw [hW2]; have := HO.out; rw [HQ.out] at this; exact this)
          have ck2 : W2.cell? ⟨b, o + (j + 1), none⟩ = some (.int .i64 x) := by rw [hW2]; exact ck
          rw [← hW2]
          clear hW2 ck cj
          go_wp2_with (at_builtin; go_must (refine wpList_append_own_at _ rfl (.tmp 35) (.tmp 41) 51 rfl w.heap.size 53 i0 _ 2 16 Tryd.underlying51 hi hz0 hz1 hz2 rfl (by decide) (.slice (some ⟨g, 0, none⟩) (q + 1) cap) (q + 1) (runCells r) rfl (HOW.out.alloc _) ⟨W2.heap.size, 0, none⟩ 1 1 [.int .i64 1, .int .i64 x] rfl rfl (HN x W2).out (two1 _ _) (by unfold maxLen; omega) (by omega) (by simp; omega) ?_); intro v' w2 hown2 hgrow2 _ _; have HOWN := hide hown2; have HGR := hide hgrow2; clear hown2 hgrow2)
          go_roundw
          case rel => exact HF.out _ _ (r ++ [(1, x)]) HM.out.symm (by rw [List.length_append, runCells_snoc, HQ.out]; exact HOWN.out) (by rw [List.length_append, HQ.out]; simp; omega) (hb2.trans (((Below.refl _ _).alloc (by omega) _).grown HGR.out (by simp; omega) (fun k' e => (HOW.out.lt k' e).1)))
          case measure => simp [intOf]; omega
    · obtain rfl : k = l.length := by omega
      have hrr : r = runsOf l := by rw [HRE.out, List.take_length]
      go_wp2
      go_ret
      exact ⟨_, rfl, by rw [← hrr]; exact HO.out, hbw⟩
theorem refRuns_any (A : Option Addr) (n c : Nat) (l : List Int) (w : World) (hr : Rds w w.heap.size 1 A n (intCells l)) (hl5 : n ≤ 1000000) :
    Calls Tryd.prog 42 #[.slice A n c] w (OutR w (runsOf l)) :=
  (refRuns_own A n c l w hr hl5).mono fun e w' ⟨v, he, ho, hb⟩ => by
    obtain ⟨A5, c5, rfl, h5, h5r⟩ := own_rds ho (Nat.le_refl _) (by have := runsOf_len l; have := hr.int_len; omega)
    exact ⟨A5, _, c5, he, h5r, h5, hb⟩
end Go.Proofs.YtibndkkbmgbogaaDoor
