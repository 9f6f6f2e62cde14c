/- The walk of the law TrieRows. Conditions: the slice reads as the list, and lies within its capacity; the package's two error variables hold two different errors. -/
import Derived.Test.YtibndkkbmgbogaaDoorProg
import Derived.Test.YtibndkkbmgbogaaDoorBase
import Derived.Test.YtibndkkbmgbogaaDoorValue
import Derived.Test.YtibndkkbmgbogaaDoorBuild
import Derived.Test.YtibndkkbmgbogaaDoorLawA
import Derived.Test.YtibndkkbmgbogaaDoorShown
import Derived.Test.YtibndkkbmgbogaaDoorQuiet
namespace Go.Proofs.YtibndkkbmgbogaaDoor
open Go Go.RowKit
attribute [local irreducible] wpQuiet

theorem few_any (A : Option Addr) (n c : Nat) (w : World) (hc : n ≤ c) (hm : n ≤ 9223372036854775807) (hA : 0 < n → ∃ b o, A = some ⟨b, o, none⟩) :
    Calls Tryd.prog 16 #[.slice A n c] w fun e w' => e = .returned (.slice A (min n 20) c) ∧ w = w' := by
  go_enter Tryd.func16, Tryd.ntmps16
  by_cases h : n ≤ 20
  · have hmin : min n 20 = n := by omega
    go_wp2
    go_ret
    exact ⟨by first | rfl | (rw [hmin]; rfl), rfl⟩
  · have hmin : min n 20 = 20 := by omega
    obtain ⟨b, o, rfl⟩ := hA (by omega)
    go_wp2
    go_ret
    exact ⟨by first | rfl | (rw [hmin]; rfl), rfl⟩

theorem Rds.take {w : World} {B n : Nat} {A : Option Addr} {l : List Rg} (h : Rds w B 3 A n (rgCells l)) (k : Nat) : Rds w B 3 A (min n k) (rgCells (l.take k)) := by
  have hl := h.rg_len
  refine ⟨by rw [rgCells_length, List.length_take]; omega, by have := h.2.1; omega, fun h0 => ?_⟩
  obtain ⟨b, o, e, hb, hc⟩ := h.2.2 (by omega)
  refine ⟨b, o, e, hb, fun j u hu => hc j u ?_⟩
  have ht : ∀ (m : Nat) (q : List Rg), rgCells (q.take m) = (rgCells q).take (m * 3) := fun m q => by
    induction m generalizing q with
    | zero => simp [rgCells]
    | succ m ih => cases q with
      | nil => simp [rgCells]
      | cons x q => simp only [List.take_succ_cons]; have := ih q; rw [Nat.add_mul]; simp [rgCells, Rg.cells] at this ⊢; exact this
  rw [ht, List.getElem?_take] at hu
  split at hu
  · exact hu
  · cases hu

theorem built_pos {l : List Rg} (h : rightB l = true) : builtB l = (foldRows ⟨[], []⟩ (rowsOf l), 0) := if_pos h
theorem built_neg {l : List Rg} (h : rightB l = false) : builtB l = (⟨[], []⟩, 22) := if_neg (by rw [h]; simp)
/-- what is built of a right map: its index has 4352 numbers, the first of them 0 -/
theorem built_ix (l : List Rg) (h : rightB l = true) : (foldRows ⟨[], []⟩ (rowsOf l)).ix.length = 4352 ∧ (foldRows ⟨[], []⟩ (rowsOf l)).ix[0]? = some 0 ∧ TOk (foldRows ⟨[], []⟩ (rowsOf l)) := by
  have hv : ∀ y ∈ l, valB y.vl = true := fun y hy => oneB_val (rightGo_all l (-1) (by unfold rightB at h; simp only [Bool.and_eq_true] at h; exact h.1) y hy)
  have hb : ∀ x ∈ (rowsOf l).map (fun x => fillRow x.1 x.2), blockB x = true := fun x hx => by
    obtain ⟨q, hq, rfl⟩ := List.mem_map.1 hx
    unfold rowsOf at hq
    obtain ⟨i, _, rfl⟩ := List.mem_map.1 hq
    refine blockB_fill _ _ (fun y hy => hv y ?_)
    unfold subRow at hy
    exact List.mem_of_mem_drop (List.mem_of_mem_take hy)
  obtain ⟨i1, i2, _⟩ := addAll_ok _ hb
  rw [← foldRows_eq] at i1 i2
  refine ⟨by rw [i2, List.length_map]; unfold rowsOf; rw [List.length_map, List.length_range], ?_, i1⟩
  have keep : ∀ (q : List (Nat × List Rg)) (T : Tr), T.ix[0]? = some 0 → (foldRows T q).ix[0]? = some 0 := fun q => by
    induction q with
    | nil => intro T h; exact h
    | cons x q ih =>
      intro T h
      refine ih (T.add (fillRow x.1 x.2)) ?_
      have : 0 < T.ix.length := by
        rcases Nat.eq_zero_or_pos T.ix.length with h0 | h0
        · rw [List.length_eq_zero_iff.1 h0] at h; cases h
        · exact h0
      unfold Tr.add
      split
      · simp only; rw [List.getElem?_append_left this]; exact h
      · simp only; rw [List.getElem?_append_left this]; exact h
  have hr : ∃ r, rowsOf l = (0, subRow l 0) :: r := by
    unfold rowsOf
    exact ⟨_, by rw [show (4352 : Nat) = 4351 + 1 from rfl, List.range_succ_eq_map, List.map_cons]⟩
  obtain ⟨r, hr⟩ := hr
  rw [hr]
  exact keep r (Tr.add ⟨[], []⟩ (fillRow 0 (subRow l 0))) rfl

/-- numbers of one block say the same at the same places -/
theorem same_block (T : Tr) (a b k : Nat) (ha : a < 4352) (hb : b < 4352) (hk : k < 256) (h : T.ix.getD a 0 = T.ix.getD b 0) : T.value (256 * (a : Int) + k) = T.value (256 * (b : Int) + k) := by
  unfold Tr.value
  by_cases hR : T.rightB = true
  · rw [if_pos ⟨by omega, by omega, hR⟩, if_pos ⟨by omega, by omega, hR⟩]
    unfold Tr.at_
    have e1 : (256 * (a : Int) + (k : Int)).toNat = 256 * a + k := by omega
    have e2 : (256 * (b : Int) + (k : Int)).toNat = 256 * b + k := by omega
    rw [e1, e2]
    have d1 : (256 * a + k) / 256 = a := by omega
    have d2 : (256 * b + k) / 256 = b := by omega
    have m1 : (256 * a + k) % 256 = k := by omega
    have m2 : (256 * b + k) % 256 = k := by omega
    rw [d1, d2, m1, m2, h]
  · rw [if_neg (fun h => hR h.2.2), if_neg (fun h => hR h.2.2)]

set_option maxRecDepth 100000 in
set_option maxHeartbeats 2000000 in
theorem trieRows_any {a0 a1 : Addr} (A : Option Addr) (n c : Nat) (l : List Rg) (a b k : Int) (w : World) (hE : Errs w w.heap.size a0 a1) (hc : n ≤ c) (hr : Rds w w.heap.size 3 A n (rgCells l)) :
    Calls Tryd.prog 3 #[.slice A n c, .int .i64 a, .int .i64 b, .int .i64 k] w fun e w' => e = .returned (.bool true) ∧ Below w.heap.size w w' := by
  go_enter Tryd.func3, Tryd.ntmps3
  go_wp2_with fail
  refine (shown_any w hE).mono ?_
  rintro e w1 ⟨rfl, hb1⟩
  go_wp2_with fail
  refine (few_any A n c w1 hc hr.2.1 (fun h => by obtain ⟨b, o, e, _⟩ := hr.2.2 h; exact ⟨b, o, e⟩)).mono ?_
  rintro e _ ⟨rfl, rfl⟩
  go_wp2_with fail
  refine (build_any A (min n 20) c (l.take 20) w1 ((hE.below hb1).more hb1.size) (by omega) (((hr.below hb1).more hb1.size).take 20)).mono ?_
  rintro e w2 ⟨A1, n1, c1, A2, n2, c2, rfl, ht, hc1, hc2, hb2⟩
  have hb02 := hb1.trans (hb2.mono hb1.size)
  cases hrb : rightB (l.take 20) with
  | false =>
    rw [built_neg hrb]
    clear ht
    go_wp2
    go_ret
    exact ⟨rfl, hb02.alloc hb02.size _⟩
  | true =>
    rw [built_pos hrb] at ht ⊢
    obtain ⟨f1, f2, f3⟩ := built_ix _ hrb
    generalize foldRows ⟨[], []⟩ (rowsOf (l.take 20)) = T at *
    dsimp only at ht ⊢
    by_cases p1 : a < 0
    · clear ht f1
      go_wp2
      go_ret
      exact ⟨rfl, hb02.alloc hb02.size _⟩
    by_cases p2 : b < 0
    · clear ht f1
      go_wp2
      go_ret
      exact ⟨rfl, hb02.alloc hb02.size _⟩
    by_cases p3 : 4352 ≤ a
    · clear ht f1
      go_wp2
      go_ret
      exact ⟨rfl, hb02.alloc hb02.size _⟩
    by_cases p4 : 4352 ≤ b
    · clear ht f1
      go_wp2
      go_ret
      exact ⟨rfl, hb02.alloc hb02.size _⟩
    by_cases p5 : k < 0
    · clear ht f1
      go_wp2
      go_ret
      exact ⟨rfl, hb02.alloc hb02.size _⟩
    by_cases p6 : 256 ≤ k
    · clear ht f1
      go_wp2
      go_ret
      exact ⟨rfl, hb02.alloc hb02.size _⟩
    obtain ⟨a', rfl⟩ := Int.eq_ofNat_of_zero_le (by omega : 0 ≤ a)
    obtain ⟨b', rfl⟩ := Int.eq_ofNat_of_zero_le (by omega : 0 ≤ b)
    obtain ⟨k', rfl⟩ := Int.eq_ofNat_of_zero_le (by omega : 0 ≤ k)
    have ha' : a' < 4352 := by omega
    have hb' : b' < 4352 := by omega
    have hk' : k' < 256 := by omega
    have hn1 := ht.ix.int_len
    rw [f1] at hn1
    obtain ⟨bb, oo, rfl, hbb, hcc⟩ := ht.ix.2.2 (by omega)
    have d0 := hcc 0 (.int .i64 0) (by unfold intCells; rw [List.getElem?_map, f2]; rfl)
    have da := hcc a' (.int .i64 (T.ix.getD a' 0)) (by unfold intCells; rw [List.getElem?_map, List.getElem?_eq_getElem (by omega), getD_get (by omega)]; rfl)
    have db := hcc b' (.int .i64 (T.ix.getD b' 0)) (by unfold intCells; rw [List.getElem?_map, List.getElem?_eq_getElem (by omega), getD_get (by omega)]; rfl)
    have hsb := same_block T a' b' k' ha' hb' hk'
    have hnb : ((n1 : Int) == 4352) = true := by simp; omega
    have hla : a' < n1 := by omega
    have hlb : b' < n1 := by omega
    have hl0 : 0 < n1 := by omega
    have HT := hide ht
    have HSB := hide hsb
    have HN := hide hn1
    clear hn1 f1 f2 f3 hcc ht hsb hE hr
    rw [Nat.add_zero] at d0
    go_wp2_with fail
    rotate_left
    · exfalso
      have := HN.out
      omega
    have hb3 : Below w2.heap.size w2 (w2.alloc (.cells #[.slice (some ⟨bb, oo, none⟩) n1 c1, .slice A2 n2 c2] 27)) := (Below.refl _ _).alloc (Nat.le_refl _) _
    have hT3 := (HT.out.below hb3).more hb3.size
    have kB := Blk.new w2 27 #[.slice (some ⟨bb, oo, none⟩) n1 c1, .slice A2 n2 c2]
    have da3 := (hb3.cell (p := ⟨bb, oo + a', none⟩) hbb).trans da
    have db3 := (hb3.cell (p := ⟨bb, oo + b', none⟩) hbb).trans db
    have hbb3 := Nat.lt_of_lt_of_le hbb hb3.size
    have hb03 := hb02.trans (hb3.mono hb02.size)
    have s03 := hb03.size
    obtain ⟨w3, hw3⟩ : ∃ w3 : World, w3 = w2.alloc (.cells #[.slice (some ⟨bb, oo, none⟩) n1 c1, .slice A2 n2 c2] 27) := ⟨_, rfl⟩
    rw [← hw3] at hT3 kB da3 db3 hbb3 hb03 s03 ⊢
    clear hb3 hw3 d0 da db HT
    have hC : ∀ W', Below w3.heap.size w3 W' → W'.cell? ⟨w2.heap.size, 0, none⟩ = some (.slice (some ⟨bb, oo, none⟩) n1 c1) ∧ W'.cell? ⟨w2.heap.size, 1, none⟩ = some (.slice A2 n2 c2) ∧
        W'.cell? ⟨bb, oo + a', none⟩ = some (.int .i64 (T.ix.getD a' 0)) ∧ W'.cell? ⟨bb, oo + b', none⟩ = some (.int .i64 (T.ix.getD b' 0)) := fun W' hW' =>
      ⟨(hW'.cell (p := ⟨w2.heap.size, 0, none⟩) kB.lt).trans (kB.cell 0), (hW'.cell (p := ⟨w2.heap.size, 1, none⟩) kB.lt).trans (kB.cell 1),
        (hW'.cell (p := ⟨bb, oo + a', none⟩) hbb3).trans da3, (hW'.cell (p := ⟨bb, oo + b', none⟩) hbb3).trans db3⟩
    have HC := hide hC
    have hV : ∀ (r : Int) W', Below w3.heap.size w3 W' → Calls Tryd.prog 17 #[.agg #[.slice (some ⟨bb, oo, none⟩) n1 c1, .slice A2 n2 c2], .int .i64 r] W' fun e w' => e = .returned (.int .i64 (T.value r)) ∧ Below w3.heap.size w3 w' := fun r W' hW' =>
      (trieValue_any (some ⟨bb, oo, none⟩) A2 n1 c1 n2 c2 T r W' ((hT3.below hW').more hW'.size)).mono fun e w' ⟨he, hb⟩ => ⟨he, hW'.trans (hb.mono hW'.size)⟩
    have HV := hide hV
    clear hC hV hT3 kB da3 db3
    generalize hva : T.ix.getD a' 0 = va at *
    generalize hvb : T.ix.getD b' 0 = vb at *
    clear hva hvb
    refine wp_region_below (by kernel_rfl) (by kernel_rfl) ?_
    by_cases heq : va = vb
    · subst heq
      have hsb := HSB.out rfl
      refine q_step (v := ?_) rfl (fun W_ hW_ => ?_) ?_; rotate_left; (obtain ⟨e1, e2, e3, e4⟩ := HC.out W_ hW_; go_simp; first | rfl | exact ⟨rfl, rfl⟩); go_frame
      refine q_step (v := ?_) rfl (fun W_ hW_ => ?_) ?_; rotate_left; (obtain ⟨e1, e2, e3, e4⟩ := HC.out W_ hW_; go_simp; first | rfl | exact ⟨rfl, rfl⟩); go_frame
      refine q_step (v := ?_) rfl (fun W_ hW_ => ?_) ?_; rotate_left; (obtain ⟨e1, e2, e3, e4⟩ := HC.out W_ hW_; go_simp; first | rfl | exact ⟨rfl, rfl⟩); go_frame
      refine q_step (v := ?_) rfl (fun W_ hW_ => ?_) ?_; rotate_left; (obtain ⟨e1, e2, e3, e4⟩ := HC.out W_ hW_; go_simp; first | rfl | exact ⟨rfl, rfl⟩); go_frame
      refine q_step (v := ?_) rfl (fun W_ hW_ => ?_) ?_; rotate_left; (obtain ⟨e1, e2, e3, e4⟩ := HC.out W_ hW_; go_simp; first | rfl | exact ⟨rfl, rfl⟩); go_frame
      refine q_step (v := ?_) rfl (fun W_ hW_ => ?_) ?_; rotate_left; (obtain ⟨e1, e2, e3, e4⟩ := HC.out W_ hW_; go_simp; first | rfl | exact ⟨rfl, rfl⟩); go_frame
      refine q_step (v := ?_) rfl (fun W_ hW_ => ?_) ?_; rotate_left; (obtain ⟨e1, e2, e3, e4⟩ := HC.out W_ hW_; go_simp; first | rfl | exact ⟨rfl, rfl⟩); go_frame
      refine q_step (v := ?_) rfl (fun W_ hW_ => ?_) ?_; rotate_left; (obtain ⟨e1, e2, e3, e4⟩ := HC.out W_ hW_; go_simp; first | rfl | exact ⟨rfl, rfl⟩); go_frame
      refine q_step (v := ?_) rfl (fun W_ hW_ => ?_) ?_; rotate_left; (obtain ⟨e1, e2, e3, e4⟩ := HC.out W_ hW_; go_simp; first | rfl | exact ⟨rfl, rfl⟩); go_frame
      refine q_step (v := ?_) rfl (fun W_ hW_ => ?_) ?_; rotate_left; (obtain ⟨e1, e2, e3, e4⟩ := HC.out W_ hW_; go_simp; first | rfl | exact ⟨rfl, rfl⟩); go_frame
      refine q_step (v := ?_) rfl (fun W_ hW_ => ?_) ?_; rotate_left; (obtain ⟨e1, e2, e3, e4⟩ := HC.out W_ hW_; go_simp; first | rfl | exact ⟨rfl, rfl⟩); go_frame
      refine q_step (v := ?_) rfl (fun W_ hW_ => ?_) ?_; rotate_left; (obtain ⟨e1, e2, e3, e4⟩ := HC.out W_ hW_; go_simp; first | rfl | exact ⟨rfl, rfl⟩); go_frame
      refine q_step (v := ?_) rfl (fun W_ hW_ => ?_) ?_; rotate_left; (obtain ⟨e1, e2, e3, e4⟩ := HC.out W_ hW_; go_simp; first | rfl | exact ⟨rfl, rfl⟩); go_frame
      refine q_step (v := ?_) rfl (fun W_ hW_ => ?_) ?_; rotate_left; (obtain ⟨e1, e2, e3, e4⟩ := HC.out W_ hW_; go_simp; first | rfl | exact ⟨rfl, rfl⟩); go_frame
      refine q_step (v := ?_) rfl (fun W_ hW_ => ?_) ?_; rotate_left; (obtain ⟨e1, e2, e3, e4⟩ := HC.out W_ hW_; go_simp; first | rfl | exact ⟨rfl, rfl⟩); go_frame
      refine q_step (v := ?_) rfl (fun W_ hW_ => ?_) ?_; rotate_left; (obtain ⟨e1, e2, e3, e4⟩ := HC.out W_ hW_; go_simp; first | rfl | exact ⟨rfl, rfl⟩); go_frame
      refine q_step (v := ?_) rfl (fun W_ hW_ => ?_) ?_; rotate_left; (obtain ⟨e1, e2, e3, e4⟩ := HC.out W_ hW_; go_simp; first | rfl | exact ⟨rfl, rfl⟩); go_frame
      refine q_step (v := ?_) rfl (fun W_ hW_ => ?_) ?_; rotate_left; (obtain ⟨e1, e2, e3, e4⟩ := HC.out W_ hW_; go_simp; first | rfl | exact ⟨rfl, rfl⟩); go_frame
      refine q_step (v := ?_) rfl (fun W_ hW_ => ?_) ?_; rotate_left; (obtain ⟨e1, e2, e3, e4⟩ := HC.out W_ hW_; go_simp; first | rfl | exact ⟨rfl, rfl⟩); go_frame
      refine q_call (v := .int .i64 (T.value (256 * (a' : Int) + k'))) 17 #[.agg #[.slice (some ⟨bb, oo, none⟩) n1 c1, .slice A2 n2 c2], .int .i64 (256 * (a' : Int) + k')] rfl (fun W_ => by go_simp; rw [IntWalk.i64_in (256 * (a' : Int)) (by omega), IntWalk.i64_in _ (by omega)]) (fun W_ hW_ => HV.out _ W_ hW_) ?_
      go_frame
      refine q_step (v := ?_) rfl (fun W_ hW_ => ?_) ?_; rotate_left; (obtain ⟨e1, e2, e3, e4⟩ := HC.out W_ hW_; go_simp; first | rfl | exact ⟨rfl, rfl⟩); go_frame
      refine q_step (v := ?_) rfl (fun W_ hW_ => ?_) ?_; rotate_left; (obtain ⟨e1, e2, e3, e4⟩ := HC.out W_ hW_; go_simp; first | rfl | exact ⟨rfl, rfl⟩); go_frame
      refine q_step (v := ?_) rfl (fun W_ hW_ => ?_) ?_; rotate_left; (obtain ⟨e1, e2, e3, e4⟩ := HC.out W_ hW_; go_simp; first | rfl | exact ⟨rfl, rfl⟩); go_frame
      refine q_step (v := ?_) rfl (fun W_ hW_ => ?_) ?_; rotate_left; (obtain ⟨e1, e2, e3, e4⟩ := HC.out W_ hW_; go_simp; first | rfl | exact ⟨rfl, rfl⟩); go_frame
      refine q_step (v := ?_) rfl (fun W_ hW_ => ?_) ?_; rotate_left; (obtain ⟨e1, e2, e3, e4⟩ := HC.out W_ hW_; go_simp; first | rfl | exact ⟨rfl, rfl⟩); go_frame
      refine q_call (v := .int .i64 (T.value (256 * (b' : Int) + k'))) 17 #[.agg #[.slice (some ⟨bb, oo, none⟩) n1 c1, .slice A2 n2 c2], .int .i64 (256 * (b' : Int) + k')] rfl (fun W_ => by go_simp; rw [IntWalk.i64_in (256 * (b' : Int)) (by omega), IntWalk.i64_in _ (by omega)]) (fun W_ hW_ => HV.out _ W_ hW_) ?_
      go_frame
      rw [hsb]
      refine q_step (v := ?_) rfl (fun W_ hW_ => ?_) ?_; rotate_left; (obtain ⟨e1, e2, e3, e4⟩ := HC.out W_ hW_; go_simp; first | rfl | exact ⟨rfl, rfl⟩); go_frame
      refine q_step (v := ?_) rfl (fun W_ hW_ => ?_) ?_; rotate_left; (obtain ⟨e1, e2, e3, e4⟩ := HC.out W_ hW_; go_simp; first | rfl | exact ⟨rfl, rfl⟩); go_frame
      refine q_step (v := ?_) rfl (fun W_ hW_ => ?_) ?_; rotate_left; (obtain ⟨e1, e2, e3, e4⟩ := HC.out W_ hW_; go_simp; first | rfl | exact ⟨rfl, rfl⟩); go_frame
      refine q_step (v := ?_) rfl (fun W_ hW_ => ?_) ?_; rotate_left; (obtain ⟨e1, e2, e3, e4⟩ := HC.out W_ hW_; go_simp; first | rfl | exact ⟨rfl, rfl⟩); go_frame
      refine wpQuiet_nil (fun W' hW' => ?_)
      go_wp2_with fail
      go_ret
      exact ⟨rfl, hb03.trans (hW'.mono s03)⟩
    · clear HSB HN hnb
      refine q_step (v := ?_) rfl (fun W_ hW_ => ?_) ?_; rotate_left; (obtain ⟨e1, e2, e3, e4⟩ := HC.out W_ hW_; go_simp; first | rfl | exact ⟨rfl, rfl⟩); go_frame
      refine q_step (v := ?_) rfl (fun W_ hW_ => ?_) ?_; rotate_left; (obtain ⟨e1, e2, e3, e4⟩ := HC.out W_ hW_; go_simp; first | rfl | exact ⟨rfl, rfl⟩); go_frame
      refine q_step (v := ?_) rfl (fun W_ hW_ => ?_) ?_; rotate_left; (obtain ⟨e1, e2, e3, e4⟩ := HC.out W_ hW_; go_simp; first | rfl | exact ⟨rfl, rfl⟩); go_frame
      refine q_step (v := ?_) rfl (fun W_ hW_ => ?_) ?_; rotate_left; (obtain ⟨e1, e2, e3, e4⟩ := HC.out W_ hW_; go_simp; first | rfl | exact ⟨rfl, rfl⟩); go_frame
      refine q_step (v := ?_) rfl (fun W_ hW_ => ?_) ?_; rotate_left; (obtain ⟨e1, e2, e3, e4⟩ := HC.out W_ hW_; go_simp; first | rfl | exact ⟨rfl, rfl⟩); go_frame
      refine q_step (v := ?_) rfl (fun W_ hW_ => ?_) ?_; rotate_left; (obtain ⟨e1, e2, e3, e4⟩ := HC.out W_ hW_; go_simp; first | rfl | exact ⟨rfl, rfl⟩); go_frame
      refine q_step (v := ?_) rfl (fun W_ hW_ => ?_) ?_; rotate_left; (obtain ⟨e1, e2, e3, e4⟩ := HC.out W_ hW_; go_simp; first | rfl | exact ⟨rfl, rfl⟩); go_frame
      refine q_step (v := ?_) rfl (fun W_ hW_ => ?_) ?_; rotate_left; (obtain ⟨e1, e2, e3, e4⟩ := HC.out W_ hW_; go_simp; first | rfl | exact ⟨rfl, rfl⟩); go_frame
      refine q_step (v := ?_) rfl (fun W_ hW_ => ?_) ?_; rotate_left; (obtain ⟨e1, e2, e3, e4⟩ := HC.out W_ hW_; go_simp; first | rfl | exact ⟨rfl, rfl⟩); go_frame
      refine q_step (v := ?_) rfl (fun W_ hW_ => ?_) ?_; rotate_left; (obtain ⟨e1, e2, e3, e4⟩ := HC.out W_ hW_; go_simp; first | rfl | exact ⟨rfl, rfl⟩); go_frame
      refine q_step (v := ?_) rfl (fun W_ hW_ => ?_) ?_; rotate_left; (obtain ⟨e1, e2, e3, e4⟩ := HC.out W_ hW_; go_simp; first | rfl | exact ⟨rfl, rfl⟩); go_frame
      refine q_step (v := ?_) rfl (fun W_ hW_ => ?_) ?_; rotate_left; (obtain ⟨e1, e2, e3, e4⟩ := HC.out W_ hW_; go_simp; first | rfl | exact ⟨rfl, rfl⟩); go_frame
      refine q_step (v := .bool true) rfl (fun W_ hW_ => by go_simp) ?_
      go_frame
      refine q_step (v := .bool true) rfl (fun W_ hW_ => by go_simp) ?_
      go_frame
      refine q_skip rfl ?_
      go_frame
      refine q_skip rfl ?_
      go_frame
      refine q_skip rfl ?_
      go_frame
      refine q_skip rfl ?_
      go_frame
      refine q_skip rfl ?_
      go_frame
      refine q_skip rfl ?_
      go_frame
      refine q_skip rfl ?_
      go_frame
      refine q_skip rfl ?_
      go_frame
      refine q_skip rfl ?_
      go_frame
      refine q_skip rfl ?_
      go_frame
      refine q_skip rfl ?_
      go_frame
      refine q_skip rfl ?_
      go_frame
      refine q_skip rfl ?_
      go_frame
      refine q_step (v := ?_) rfl (fun W_ hW_ => ?_) ?_; rotate_left; (obtain ⟨e1, e2, e3, e4⟩ := HC.out W_ hW_; go_simp; first | rfl | exact ⟨rfl, rfl⟩); go_frame
      refine q_step (v := ?_) rfl (fun W_ hW_ => ?_) ?_; rotate_left; (obtain ⟨e1, e2, e3, e4⟩ := HC.out W_ hW_; go_simp; first | rfl | exact ⟨rfl, rfl⟩); go_frame
      refine q_step (v := ?_) rfl (fun W_ hW_ => ?_) ?_; rotate_left; (obtain ⟨e1, e2, e3, e4⟩ := HC.out W_ hW_; go_simp; first | rfl | exact ⟨rfl, rfl⟩); go_frame
      refine wpQuiet_nil (fun W' hW' => ?_)
      go_wp2_with fail
      go_ret
      exact ⟨rfl, hb03.trans (hW'.mono s03)⟩
end Go.Proofs.YtibndkkbmgbogaaDoor
