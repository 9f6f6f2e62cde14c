/- Which lists of records are the same: the program's field.Same. Conditions: the slices read as the records, their fields as texts. -/
import Derived.Test.YtdmkjchmcgjjmaaDoorPrintW
import Derived.Test.YtdmkjchmcgjjmaaDoorEq
namespace Go.Proofs.YtdmkjchmcgjjmaaDoor
open Go Go.RowKit

theorem strsEq_any (A A' : Option Addr) (n c m d B B' : Nat) (xs ys : List ByteArray) (w : World) (hr : Rds w B 1 A n (strCells xs)) (hr' : Rds w B' 1 A' m (strCells ys)) :
    Calls Tryd.prog 45 #[.slice A n c, .slice A' m d] w (Quiet w (.bool (decide (xs = ys)))) := by
  obtain rfl := hr.str_len
  obtain rfl := hr'.str_len
  by_cases hnm : xs.length = ys.length
  · by_cases h0 : xs.length = 0
    · have h1 : xs = [] := List.eq_nil_of_length_eq_zero h0
      have h2 : ys = [] := List.eq_nil_of_length_eq_zero (by omega)
      subst h1; subst h2
      refine (Tryd.slices_Equal_string_empty A A' c 0 d w (by decide)).mono ?_
      rintro e _ ⟨rfl, rfl⟩
      exact ⟨rfl, 0, rfl⟩
    · obtain ⟨b, o, rfl, _, hc⟩ := hr.2.2 (by omega)
      obtain ⟨b', o', rfl, _, hc'⟩ := hr'.2.2 (by omega)
      refine (Tryd.slices_Equal_string b o xs.length c b' o' ys.length d xs ys w (Nat.le_refl _) (Nat.le_refl _) hr.2.1 hr'.2.1 (fun j hj => hc j _ ?_) (fun j hj => hc' j _ ?_)).mono ?_
      · rw [strCells, List.getElem?_map, List.getElem?_eq_getElem hj, getD_get hj]
        rfl
      · rw [strCells, List.getElem?_map, List.getElem?_eq_getElem hj, getD_get hj]
        rfl
      · rintro e w' ⟨rfl, q, rfl⟩
        rw [List.take_length, List.take_length]
        exact ⟨rfl, q, rfl⟩
  · refine (Tryd.slices_Equal_string_lens A A' xs.length c ys.length d w hnm).mono ?_
    rintro e _ ⟨rfl, rfl⟩
    rw [decide_eq_false (fun e => hnm (by rw [e]))]
    exact ⟨rfl, 0, rfl⟩

set_option maxRecDepth 100000 in
set_option maxHeartbeats 4000000 in
theorem sameOne_any (l a b l' a' b' : Int) (fs fs' : List ByteArray) (A A' : Option Addr) (c c' B : Nat) (w : World) (hf : Rds w B 1 A fs.length (strCells fs)) (hf' : Rds w B 1 A' fs'.length (strCells fs')) (hB : B ≤ w.heap.size) :
    Calls Tryd.prog 44 #[.agg #[.int .i64 l, .int .i64 a, .int .i64 b, .slice A fs.length c], .agg #[.int .i64 l', .int .i64 a', .int .i64 b', .slice A' fs'.length c']] w (Freed w (.bool (decide (((l, a, b, fs) : Rci) = (l', a', b', fs'))))) := by
  have HB := hide (((Below.refl w.heap.size w).alloc (Nat.le_refl _) (.cells #[.int .i64 l, .int .i64 a, .int .i64 b, .slice A fs.length c] 31)).alloc (by simp) (.cells #[.int .i64 l', .int .i64 a', .int .i64 b', .slice A' fs'.length c'] 31))
  by_cases h1 : l = l'
  · subst h1
    by_cases h2 : a = a'
    · subst h2
      by_cases h3 : b = b'
      · subst h3
        have hq := fun W (hb : Below w.heap.size w W) => strsEq_any A A' fs.length c fs'.length c' w.heap.size w.heap.size fs fs' W ((hf.more hB).below hb) ((hf'.more hB).below hb)
        have hd : decide (((l, a, b, fs) : Rci) = (l, a, b, fs')) = decide (fs = fs') := by simp
        rw [hd]
        clear hd
        generalize decide (fs = fs') = d at *
        have hq2 := hq _ HB.out
        clear hq hf hf' hB
        go_enter Tryd.func44, Tryd.ntmps44
        go_wp2_with fail
        refine hq2.mono ?_
        rintro e w2 ⟨rfl, q, rfl⟩
        go_wp2_with fail
        go_ret
        exact ⟨rfl, below_drewN HB.out q⟩
      · have hd : decide (((l, a, b, fs) : Rci) = (l, a, b', fs')) = false := by simp [h3]
        rw [hd]
        have hx : (b == b') = false := by simpa using h3
        clear h3 hf hf' hB hd
        go_enter Tryd.func44, Tryd.ntmps44
        go_wp2_with fail
        go_ret
        exact ⟨rfl, HB.out⟩
    · have hd : decide (((l, a, b, fs) : Rci) = (l, a', b', fs')) = false := by simp [h2]
      rw [hd]
      have hx : (a == a') = false := by simpa using h2
      clear h2 hf hf' hB hd
      go_enter Tryd.func44, Tryd.ntmps44
      go_wp2_with fail
      go_ret
      exact ⟨rfl, HB.out⟩
  · have hd : decide (((l, a, b, fs) : Rci) = (l', a', b', fs')) = false := by simp [h1]
    rw [hd]
    have hx : (l == l') = false := by simpa using h1
    clear h1 hf hf' hB hd
    go_enter Tryd.func44, Tryd.ntmps44
    go_wp2_with fail
    go_ret
    exact ⟨rfl, HB.out⟩

/-- the records' numbers are as they are -/
def Zflds (w : World) (B : Nat) (X : List RZ) : Prop := ∀ x ∈ X, Rds w B 1 x.A x.fs.length (strCells x.fs)

set_option maxRecDepth 100000 in
set_option maxHeartbeats 4000000 in
theorem eqFunc_any (A A' : Option Addr) (n c n' c' : Nat) (X Y : List RZ) (w : World) (hr : Rds w w.heap.size 4 A n (zCells X)) (hr' : Rds w w.heap.size 4 A' n' (zCells Y)) (hf : Zflds w w.heap.size X) (hf' : Zflds w w.heap.size Y) :
    Calls Tryd.prog 43 #[.slice A n c, .slice A' n' c', .func (.func 44) #[] #[]] w (Freed w (.bool (decide (X.map RZ.rc = Y.map RZ.rc)))) := by
  have hnn := hr.2.1
  have hnn' := hr'.2.1
  obtain rfl := hr.rz_len
  obtain rfl := hr'.rz_len
  by_cases hlen : X.length = Y.length
  · have hne : (((X.length : Nat) : Int) != (Y.length : Int)) = false := by simp [hlen]
    have HL := hide hlen
    have hlenI : (X.length : Int) = (Y.length : Int) := by omega
    clear hlen
    go_enter Tryd.func43, Tryd.ntmps43
    go_wp2_with fail
    go_loopw [17] (fun i wr => ∃ (k : Nat), k ≤ X.length ∧ i = .int .i64 k ∧ decide (X.map RZ.rc = Y.map RZ.rc) = decide ((X.map RZ.rc).drop k = (Y.map RZ.rc).drop k) ∧ Below w.heap.size w wr) (fun i _ => X.length - (intOf i).toNat)
    case atStart => exact ⟨0, Nat.zero_le _, rfl, rfl, Below.refl _ _⟩
    case round =>
      obtain ⟨k, hk, rfl, hg, hb⟩ := hrel
      have HG := hide hg
      clear hg
      by_cases hlt : k < X.length
      · have hlt' : k < Y.length := by have := HL.out; omega
        obtain ⟨b, o, rfl, hbl, c0, c1, c2, c3⟩ := (hr.below hb).rz hlt
        obtain ⟨b', o', rfl, hbl', c0', c1', c2', c3'⟩ := (hr'.below hb).rz hlt'
        have HF := hide ((hf _ (List.getElem_mem hlt)).below hb)
        have HF' := hide ((hf' _ (List.getElem_mem hlt')).below hb)
        have HD := hide (dec_drop HG.out (drop_cons (show k < (X.map RZ.rc).length by rw [List.length_map]; exact hlt)) (drop_cons (show k < (Y.map RZ.rc).length by rw [List.length_map]; exact hlt')))
        rw [List.getElem_map, List.getElem_map] at HD
        generalize X[k] = x at *
        generalize Y[k] = y at *
        obtain ⟨l, a, bb, fs, A, c⟩ := x
        obtain ⟨l', a', bb', fs', A', c'⟩ := y
        dsimp only [RZ.rc] at c0 c1 c2 c3 c0' c1' c2' c3' HF HF' HD
        have hsz := hb.size
        have p1 : b < wr.heap.size := by omega
        have p2 : b' < wr.heap.size := by omega
        have HB2 := hide ((hb.alloc hsz (.cells #[.int .i64 l, .int .i64 a, .int .i64 bb, .slice A fs.length c] 31)).alloc (by simp; omega) (.cells #[.int .i64 l', .int .i64 a', .int .i64 bb', .slice A' fs'.length c'] 31))
        have HK := hide (Below.refl wr.heap.size wr |>.alloc (Nat.le_refl _) (.cells #[.int .i64 l, .int .i64 a, .int .i64 bb, .slice A fs.length c] 31) |>.alloc (by simp) (.cells #[.int .i64 l', .int .i64 a', .int .i64 bb', .slice A' fs'.length c'] 31))
        have hso := fun W (h : Below wr.heap.size wr W) => sameOne_any l a bb l' a' bb' fs fs' A A' c c' w.heap.size W (HF.out.below (h.mono hsz)) (HF'.out.below (h.mono hsz)) (Nat.le_trans hsz h.size)
        have hs1 := hso _ HK.out
        clear hso
        by_cases hxy : ((l, a, bb, fs) : Rci) = (l', a', bb', fs')
        · have HE := hide (HD.out.1 hxy)
          rw [decide_eq_true hxy] at hs1
          clear hxy HD
          go_wp2_with fail
          refine hs1.mono ?_
          rintro e w2 ⟨rfl, b2⟩
          have HB3 := hide (HB2.out.trans (b2.mono HB2.out.size))
          clear hs1
          go_wp2_with fail
          go_roundw
          case rel => exact ⟨k + 1, by omega, by go_num, HE.out, HB3.out⟩
          case measure => simp [intOf]; omega
        · have HE := hide (HD.out.2 hxy)
          rw [decide_eq_false hxy] at hs1
          clear hxy HD
          go_wp2_with fail
          refine hs1.mono ?_
          rintro e w2 ⟨rfl, b2⟩
          have HB3 := hide (HB2.out.trans (b2.mono HB2.out.size))
          clear hs1
          go_wp2_with fail
          go_ret
          exact ⟨ret_bool HE.out.symm, HB3.out⟩
      · obtain rfl : k = X.length := by omega
        have HD := hide (dec_end HG.out (by rw [List.length_map]) (by rw [List.length_map]; exact HL.out))
        go_wp2_with fail
        go_ret
        exact ⟨ret_bool HD.out.symm, hb⟩
  · have hne : (((X.length : Nat) : Int) != (Y.length : Int)) = true := by simp; omega
    have hlm : decide (X.map RZ.rc = Y.map RZ.rc) = false := by
      apply decide_eq_false
      intro e
      have := congrArg List.length e
      rw [List.length_map, List.length_map] at this
      exact hlen this
    rw [hlm]
    clear hlm hlen
    go_enter Tryd.func43, Tryd.ntmps43
    go_wp2_with fail
    go_ret
    exact ⟨rfl, Below.refl _ _⟩

theorem same_any (A A' : Option Addr) (n c n' c' : Nat) (X Y : List RZ) (w : World) (hr : Rds w w.heap.size 4 A n (zCells X)) (hr' : Rds w w.heap.size 4 A' n' (zCells Y)) (hf : Zflds w w.heap.size X) (hf' : Zflds w w.heap.size Y) :
    Calls Tryd.prog 25 #[.slice A n c, .slice A' n' c'] w (Freed w (.bool (decide (X.map RZ.rc = Y.map RZ.rc)))) := by
  have h := eqFunc_any A A' n c n' c' X Y w hr hr' hf hf'
  clear hr hr' hf hf'
  generalize decide (X.map RZ.rc = Y.map RZ.rc) = d at *
  go_enter Tryd.func25, Tryd.ntmps25
  go_wp2_with fail
  refine h.mono ?_
  rintro e w1 ⟨rfl, b1⟩
  go_wp2_with fail
  go_ret
  exact ⟨rfl, b1⟩
end Go.Proofs.YtdmkjchmcgjjmaaDoor
