/- The walks of the laws TrieTwo and TrieLeast. Conditions: the slices read as the lists, and lie within their capacities; the package's two error variables hold two different errors. -/
import Derived.Test.YtibndkkbmgbogaaDoorProg
import Derived.Test.YtibndkkbmgbogaaDoorBase
import Derived.Test.YtibndkkbmgbogaaDoorBuild
import Derived.Test.YtibndkkbmgbogaaDoorRanges
import Derived.Test.YtibndkkbmgbogaaDoorLawA
import Derived.Test.YtibndkkbmgbogaaDoorLeast
import Derived.Test.YtibndkkbmgbogaaDoorShown
import Derived.Test.YtibndkkbmgbogaaDoorTrieRows
namespace Go.Proofs.YtibndkkbmgbogaaDoor
open Go Go.RowKit

/-- a trie's variable: its two slices lie in block g -/
structure TrVar (w : World) (g : Nat) (A : Option Addr) (n c : Nat) (A' : Option Addr) (n' c' : Nat) (T : Tr) : Prop where
  blk : Blk w g 27 #[.slice A n c, .slice A' n' c']
  at_ : TrAt w w.heap.size A n A' n' T
section
variable {w w' : World} {g n c n' c' : Nat} {A A' : Option Addr} {T : Tr}
theorem TrVar.lt (h : TrVar w g A n c A' n' c' T) : g < w.heap.size := h.blk.lt
theorem TrVar.below {B : Nat} (h : TrVar w g A n c A' n' c' T) (hb : Below B w w') (hB : B = w.heap.size) : TrVar w' g A n c A' n' c' T := by
  subst hB
  exact ⟨(hb.block _ h.lt).trans h.blk, (h.at_.below hb).more hb.size⟩
theorem TrVar.new (h : TrAt w w.heap.size A n A' n' T) (c c' : Nat) : TrVar (w.alloc (.cells #[.slice A n c, .slice A' n' c'] 27)) w.heap.size A n c A' n' c' T :=
  ⟨Blk.new _ _ _, h.alloc (Nat.le_refl _) _⟩
theorem TrVar.cells (h : TrVar w g A n c A' n' c' T) : w.cell? ⟨g, 0, none⟩ = some (.slice A n c) ∧ w.cell? ⟨g, 1, none⟩ = some (.slice A' n' c') := by
  have h0 := h.blk.cell 0
  have h1 := h.blk.cell 1
  simpa using ⟨h0, h1⟩
end

set_option maxRecDepth 100000 in
set_option maxHeartbeats 2000000 in
theorem trieTwo_any {a0 a1 : Addr} (A : Option Addr) (n c : Nat) (l : List Rg) (A' : Option Addr) (n' c' : Nat) (m : List Rg) (w : World) (hE : Errs w w.heap.size a0 a1) (hc : n ≤ c) (hr : Rds w w.heap.size 3 A n (rgCells l)) (hc' : n' ≤ c') (hr' : Rds w w.heap.size 3 A' n' (rgCells m)) :
    Calls Tryd.prog 4 #[.slice A n c, .slice A' n' c'] w fun e w' => e = .returned (.bool true) ∧ Below w.heap.size w w' := by
  go_enter Tryd.func4, Tryd.ntmps4
  go_wp2_with fail
  refine (shown_any w hE).mono ?_
  rintro e w1 ⟨rfl, hb1⟩
  go_wp2_with fail
  refine (few_any A n c w1 hc hr.2.1 (fun h => by obtain ⟨b, o, e, _⟩ := hr.2.2 h; exact ⟨b, o, e⟩)).mono ?_
  rintro e _ ⟨rfl, rfl⟩
  go_wp2_with fail
  refine (build_any A (min n 20) c (l.take 20) w1 ((hE.below hb1).more hb1.size) (by omega) (((hr.below hb1).more hb1.size).take 20)).mono ?_
  rintro e w2 ⟨A1, n1, c1, A2, n2, c2, rfl, ht, hc1, hc2, hb2⟩
  have hb02 := hb1.trans (hb2.mono hb1.size)
  generalize hk1 : (builtB (l.take 20)).2 = k1
  have HK1 := hide hk1
  clear hk1
  go_wp2_with fail
  have v1 := TrVar.new ht c1 c2
  obtain ⟨w3, hw3⟩ : ∃ w3 : World, w3 = w2.alloc (.cells #[.slice A1 n1 c1, .slice A2 n2 c2] 27) := ⟨_, rfl⟩
  have hb3 : Below w2.heap.size w2 w3 := by rw [hw3]; exact (Below.refl _ _).alloc (Nat.le_refl _) _
  rw [← hw3] at v1 ⊢
  clear hw3
  have hb03 := hb02.trans (hb3.mono hb02.size)
  refine (few_any A' n' c' w3 hc' hr'.2.1 (fun h => by obtain ⟨b, o, e, _⟩ := hr'.2.2 h; exact ⟨b, o, e⟩)).mono ?_
  rintro e _ ⟨rfl, rfl⟩
  go_wp2_with fail
  refine (build_any A' (min n' 20) c' (m.take 20) w3 ((hE.below hb03).more hb03.size) (by omega) (((hr'.below hb03).more hb03.size).take 20)).mono ?_
  rintro e w4 ⟨A3, n3, c3, A4, n4, c4, rfl, hu, hc3, hc4, hb4⟩
  have hb04 := hb03.trans (hb4.mono hb03.size)
  have v2 := v1.below hb4 rfl
  have HE := hide ((hE.below hb04).more hb04.size)
  clear hb1 hb2 hb3 hb4 hb02 hb03 hE hr hr' v1
  generalize hk2 : (builtB (m.take 20)).2 = k2
  have HK2 := hide hk2
  clear hk2
  cases hrl : rightB (l.take 20) with
  | false =>
    have : k1 = 22 := by rw [← HK1.out, built_neg hrl]
    subst this
    clear ht hu HK1 v2
    go_wp2
    go_ret
    exact ⟨rfl, hb04.alloc hb04.size _⟩
  | true =>
    have : k1 = 0 := by rw [← HK1.out, built_of hrl]
    subst this
    cases hrm : rightB (m.take 20) with
    | false =>
      have : k2 = 22 := by rw [← HK2.out, built_neg hrm]
      subst this
      clear ht hu HK1 HK2 v2
      go_wp2
      go_ret
      exact ⟨rfl, hb04.alloc hb04.size _⟩
    | true =>
      have : k2 = 0 := by rw [← HK2.out, built_of hrm]
      subst this
      rw [built_of hrl] at v2
      rw [built_of hrm] at hu
      dsimp only at v2 hu
      have HQ := hide (ranges_of hrl)
      have HQ' := hide (ranges_of hrm)
      have HTW := hide (two_law hrl hrm)
      clear ht HK1 HK2 hrl hrm
      generalize trOf (l.take 20) = T at *
      generalize trOf (m.take 20) = U at *
      have v3 := TrVar.new hu c3 c4
      have hb5 : Below w4.heap.size w4 (w4.alloc (.cells #[.slice A3 n3 c3, .slice A4 n4 c4] 27)) := (Below.refl _ _).alloc (Nat.le_refl _) _
      have v4 := v2.below hb5 rfl
      obtain ⟨x0, x1⟩ := v2.cells
      have xl := v2.lt
      have HV := hide (And.intro v3 v4)
      clear v3 v4 hu v2
      go_wp2_with fail
      obtain ⟨w5, hw5⟩ : ∃ w5 : World, w5 = w4.alloc (.cells #[.slice A3 n3 c3, .slice A4 n4 c4] 27) := ⟨_, rfl⟩
      rw [← hw5] at HV hb5 ⊢
      clear hw5 x0 x1 xl
      have hb05 := hb04.trans (hb5.mono hb04.size)
      refine (ranges_any A1 A2 n1 c1 n2 c2 T w5 ((HE.out.below hb5).more hb5.size) HV.out.2.at_).mono ?_
      rintro e w6 ⟨A5, n5, c5, rfl, hr5, hc5, hb6⟩
      rw [HQ.out] at hr5 ⊢
      dsimp only at hr5 ⊢
      have hb06 := hb05.trans (hb6.mono hb05.size)
      have v3 := HV.out.1.below hb6 rfl
      have v4 := HV.out.2.below hb6 rfl
      have HE6 := hide ((HE.out.below (hb5.trans (hb6.mono hb5.size))).more (Nat.le_trans hb5.size hb6.size))
      clear HV HE hb5 hb6 HQ
      obtain ⟨x0, x1⟩ := v3.cells
      have xl := v3.lt
      go_wp2_with fail
      refine (ranges_any A3 A4 n3 c3 n4 c4 U w6 HE6.out v3.at_).mono ?_
      rintro e w7 ⟨A6, n6, c6, rfl, hr6, hc6, hb7⟩
      rw [HQ'.out] at hr6 ⊢
      dsimp only at hr6 ⊢
      have hb07 := hb06.trans (hb7.mono hb06.size)
      have v5 := v3.below hb7 rfl
      have v6 := v4.below hb7 rfl
      have hr7 := (hr5.below hb7).more hb7.size
      clear v3 v4 x0 x1 xl hr5 hb7 HE6 HQ'
      obtain ⟨x0, x1⟩ := v5.cells
      obtain ⟨y0, y1⟩ := v6.cells
      have xl := v5.lt
      have yl := v6.lt
      go_wp2_with fail
      refine (sameTr_any A1 A2 A3 A4 n1 c1 n2 c2 n3 c3 n4 c4 T U w7 v6.at_ v5.at_).mono ?_
      rintro e w8 ⟨rfl, hb8⟩
      go_wp2_with fail
      refine (sameRgs_any A5 A6 n5 c5 n6 c6 _ _ w8 ((hr7.below hb8).more hb8.size) ((hr6.below hb8).more hb8.size)).mono ?_
      rintro e w9 ⟨rfl, q, rfl⟩
      rw [HTW.out]
      go_wp2
      go_ret
      exact ⟨ret_bool (by simp), below_drewN (hb07.trans (hb8.mono hb07.size)) q⟩

set_option maxRecDepth 100000 in
set_option maxHeartbeats 2000000 in
theorem trieLeast_any {a0 a1 : Addr} (A : Option Addr) (n c : Nat) (l : List Rg) (w : World) (hE : Errs w w.heap.size a0 a1) (hc : n ≤ c) (hr : Rds w w.heap.size 3 A n (rgCells l)) :
    Calls Tryd.prog 6 #[.slice A n c] w fun e w' => e = .returned (.bool true) ∧ Below w.heap.size w w' := by
  go_enter Tryd.func6, Tryd.ntmps6
  go_wp2_with fail
  refine (shown_any w hE).mono ?_
  rintro e w1 ⟨rfl, hb1⟩
  go_wp2_with fail
  refine (few_any A n c w1 hc hr.2.1 (fun h => by obtain ⟨b, o, e, _⟩ := hr.2.2 h; exact ⟨b, o, e⟩)).mono ?_
  rintro e _ ⟨rfl, rfl⟩
  go_wp2_with fail
  refine (build_any A (min n 20) c (l.take 20) w1 ((hE.below hb1).more hb1.size) (by omega) (((hr.below hb1).more hb1.size).take 20)).mono ?_
  rintro e w2 ⟨A1, n1, c1, A2, n2, c2, rfl, ht, hc1, hc2, hb2⟩
  have hb02 := hb1.trans (hb2.mono hb1.size)
  have HE := hide ((hE.below hb02).more hb02.size)
  clear hb1 hb2 hE hr
  cases hrl : rightB (l.take 20) with
  | false =>
    rw [built_neg hrl]
    clear ht
    go_wp2
    go_ret
    exact ⟨rfl, hb02.alloc hb02.size _⟩
  | true =>
    rw [built_of hrl] at ht ⊢
    dsimp only at ht ⊢
    have HQ := hide (ranges_of hrl)
    have HLS := hide (least_law hrl)
    have HAG := hide (again_law hrl)
    clear hrl
    generalize trOf (l.take 20) = T at *
    generalize rowsTo T 4352 = M at *
    have v1 := TrVar.new ht c1 c2
    have hb3 : Below w2.heap.size w2 (w2.alloc (.cells #[.slice A1 n1 c1, .slice A2 n2 c2] 27)) := (Below.refl _ _).alloc (Nat.le_refl _) _
    have HV := hide v1
    clear v1 ht
    go_wp2_with fail
    obtain ⟨w3, hw3⟩ : ∃ w3 : World, w3 = w2.alloc (.cells #[.slice A1 n1 c1, .slice A2 n2 c2] 27) := ⟨_, rfl⟩
    rw [← hw3] at HV hb3 ⊢
    clear hw3
    have hb03 := hb02.trans (hb3.mono hb02.size)
    have HE3 := hide ((HE.out.below hb3).more hb3.size)
    refine (least_any A1 A2 n1 c1 n2 c2 T w3 HE3.out HV.out.at_).mono ?_
    rintro e w4 ⟨A3, n3, c3, A4, n4, c4, rfl, hu, hc3, hc4, hb4⟩
    rw [HLS.out] at hu ⊢
    dsimp only at hu ⊢
    have hb04 := hb03.trans (hb4.mono hb03.size)
    have HE4 := hide ((HE3.out.below hb4).more hb4.size)
    have v1 := HV.out.below hb4 rfl
    have v2 := TrVar.new hu c3 c4
    have hb5 : Below w4.heap.size w4 (w4.alloc (.cells #[.slice A3 n3 c3, .slice A4 n4 c4] 27)) := (Below.refl _ _).alloc (Nat.le_refl _) _
    have v3 := v1.below hb5 rfl
    obtain ⟨x0, x1⟩ := v1.cells
    have xl := v1.lt
    have HW := hide (And.intro v2 v3)
    clear v1 v2 v3 HV hu hb3 hb4 HE HE3
    go_wp2_with fail
    obtain ⟨w5, hw5⟩ : ∃ w5 : World, w5 = w4.alloc (.cells #[.slice A3 n3 c3, .slice A4 n4 c4] 27) := ⟨_, rfl⟩
    rw [← hw5] at HW hb5 ⊢
    clear hw5 x0 x1 xl
    have hb05 := hb04.trans (hb5.mono hb04.size)
    have HE5 := hide ((HE4.out.below hb5).more hb5.size)
    refine (ranges_any A1 A2 n1 c1 n2 c2 T w5 HE5.out HW.out.2.at_).mono ?_
    rintro e w6 ⟨A5, n5, c5, rfl, hr5, hc5, hb6⟩
    rw [HQ.out] at hr5 ⊢
    dsimp only at hr5 ⊢
    have hb06 := hb05.trans (hb6.mono hb05.size)
    have HE6 := hide ((HE5.out.below hb6).more hb6.size)
    have HW6 := hide (And.intro (HW.out.1.below hb6 rfl) (HW.out.2.below hb6 rfl))
    clear HW hb5 hb6 HE4 HE5
    go_wp2_with fail
    refine (build_any A5 n5 c5 M w6 HE6.out hc5 hr5).mono ?_
    rintro e w7 ⟨A7, n7, c7, A8, n8, c8, rfl, hx, hc7, hc8, hb7⟩
    rw [built_of HAG.out.1, HAG.out.2] at hx ⊢
    dsimp only at hx ⊢
    have hb07 := hb06.trans (hb7.mono hb06.size)
    have v1 := HW6.out.1.below hb7 rfl
    have v2 := HW6.out.2.below hb7 rfl
    have v3 := TrVar.new hx c7 c8
    have hb8 : Below w7.heap.size w7 (w7.alloc (.cells #[.slice A7 n7 c7, .slice A8 n8 c8] 27)) := (Below.refl _ _).alloc (Nat.le_refl _) _
    obtain ⟨x0, x1⟩ := v1.cells
    obtain ⟨y0, y1⟩ := v2.cells
    have xl := v1.lt
    have yl := v2.lt
    have HW8 := hide (And.intro (v1.below hb8 rfl) (And.intro (v2.below hb8 rfl) v3))
    clear v1 v2 v3 HW6 hx hb7
    go_wp2_with fail
    obtain ⟨w8, hw8⟩ : ∃ w8 : World, w8 = w7.alloc (.cells #[.slice A7 n7 c7, .slice A8 n8 c8] 27) := ⟨_, rfl⟩
    rw [← hw8] at HW8 hb8 ⊢
    clear hw8 x0 x1 xl y0 y1 yl
    have hb08 := hb07.trans (hb8.mono hb07.size)
    refine (sameTr_any A1 A2 A3 A4 n1 c1 n2 c2 n3 c3 n4 c4 T T w8 HW8.out.2.1.at_ HW8.out.1.at_).mono ?_
    rintro e w9 ⟨rfl, hb9⟩
    rw [decide_eq_true (rfl : T = T)]
    have hb09 := hb08.trans (hb9.mono hb08.size)
    have v2 := HW8.out.2.1.below hb9 rfl
    have v3 := HW8.out.2.2.below hb9 rfl
    obtain ⟨x0, x1⟩ := v2.cells
    obtain ⟨y0, y1⟩ := v3.cells
    have xl := v2.lt
    have yl := v3.lt
    go_wp2_with fail
    refine (sameTr_any A1 A2 A7 A8 n1 c1 n2 c2 n7 c7 n8 c8 T T w9 v2.at_ v3.at_).mono ?_
    rintro e w10 ⟨rfl, hb10⟩
    rw [decide_eq_true (rfl : T = T)]
    go_wp2
    go_ret
    exact ⟨rfl, hb09.trans (hb10.mono hb09.size)⟩
end Go.Proofs.YtibndkkbmgbogaaDoor
