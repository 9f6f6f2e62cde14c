/- The walk of the law ClassUnions. Conditions: the law's shown is true; the slices read as the lists, and lie within their capacities. -/
import Derived.Test.YtigkphjgidbppaaDoorSets
import Derived.Maps.AppendAt
import Derived.Laws.AppendOwnNone
namespace Go.Proofs.YtigkphjgidbppaaDoor
open Go Go.RowKit

theorem of_app (L M : List Int) : ofB (M ++ L) = if L.all okC = true ∧ M.all okC = true then (((orS L 0 ||| orS M 0 : Nat) : Int), 0) else (0, 70) := by
  unfold ofB
  rw [List.all_append]
  by_cases h1 : L.all okC = true
  · by_cases h2 : M.all okC = true
    · rw [if_pos (by rw [h1, h2]; rfl), if_pos ⟨h1, h2⟩, or_app, or_from L (orS M 0), Nat.or_comm]
    · rw [if_neg (by simp only [Bool.and_eq_true]; exact fun e => h2 e.1), if_neg (fun e => h2 e.2)]
  · rw [if_neg (by simp only [Bool.and_eq_true]; exact fun e => h1 e.2), if_neg (fun e => h1 e.1)]

theorem Rds.src {w : World} {B n : Nat} {ad : Addr} {xs : List Value} (h : Rds w B 1 (some ad) n xs) : ∀ j u, xs[j]? = some u → w.cell? (ad.add j) = some u := fun j u hu => by
  obtain ⟨b, o, e, _, hc⟩ := h.2.2 (by
    have h1 := h.1
    have h2 := (List.getElem?_eq_some_iff.1 hu).1
    omega)
  cases e
  have := hc j u hu
  unfold Addr.add
  split
  · rename_i h0
    subst h0
    simpa using this
  · exact this
theorem int1 (l : List Int) : ∀ u ∈ intCells l, u.oneCell' = true := fun u hu => by
  simp only [intCells, List.mem_map] at hu
  obtain ⟨x, _, rfl⟩ := hu
  rfl

set_option maxRecDepth 100000 in
set_option maxHeartbeats 4000000 in
theorem classUnions_any (A : Option Addr) (n cp : Nat) (l : List Int) (A' : Option Addr) (n' cp' : Nat) (m : List Int) (w : World) (hcp : n ≤ cp) (hz : A = none → cp = 0) (hr : Rds w w.heap.size 1 A n (intCells l)) (hcp' : n' ≤ cp') (hz' : A' = none → cp' = 0) (hr' : Rds w w.heap.size 1 A' n' (intCells m))
    (hsh : Calls Tryd.prog 10 #[] w (Freed w (.bool true))) :
    Calls Tryd.prog 5 #[.slice A n cp, .slice A' n' cp'] w (Freed w (.bool true)) := by
  obtain ⟨i0, hi, hz0, hz1, hz2⟩ := info_parts info3
  have hrN := hr.int_take 50
  have hrN' := hr'.int_take 50
  have hmx := hr.2.1
  have hmx' := hr'.2.1
  obtain ⟨L, hL⟩ : ∃ L, L = l.take 50 := ⟨_, rfl⟩
  obtain ⟨M, hM⟩ : ∃ M, M = m.take 50 := ⟨_, rfl⟩
  rw [← hL] at hrN
  rw [← hM] at hrN'
  have hA : 0 < n → ∃ b o, A = some ⟨b, o, none⟩ := fun h => by obtain ⟨b, o, e, _⟩ := hr.2.2 h; exact ⟨b, o, e⟩
  have hA' : 0 < n' → ∃ b o, A' = some ⟨b, o, none⟩ := fun h => by obtain ⟨b, o, e, _⟩ := hr'.2.2 h; exact ⟨b, o, e⟩
  have hh := fun w' (hb : Below w.heap.size w w') => And.intro ((hrN.below hb).more hb.size) ((hrN'.below hb).more hb.size)
  have HH := hide hh
  have hll := hrN.int_len
  have hll' := hrN'.int_len
  have HLL := hide hll
  have HLL' := hide hll'
  have hl50 : L.length ≤ 50 := by omega
  have hm50 : M.length ≤ 50 := by omega
  clear hL hM hr hr' hh hll hll' hrN hrN'
  go_enter Tryd.func5, Tryd.ntmps5
  go_wp2_with fail
  refine hsh.mono ?_
  rintro e w1 ⟨rfl, hb1⟩
  go_upto_region 2 with fail
  go_cut [0] from 14 to 18 (fun s0 wx => s0 = .slice A (min n 50) cp ∧ wx = w1)
  case first =>
    rcases Nat.lt_or_ge 50 n with hn | hn
    · have e : min n 50 = 50 := by omega
      obtain ⟨b, o, rfl⟩ := hA (by omega)
      go_wp2_with fail
      go_meet
      exact ⟨by rw [e], rfl⟩
    · have e : min n 50 = n := by omega
      rcases Nat.eq_zero_or_pos n with h0 | h0
      · subst h0
        go_wp2_with fail
        go_meet
        exact ⟨rfl, rfl⟩
      · obtain ⟨b, o, rfl⟩ := hA h0
        go_wp2_with fail
        go_meet
        exact ⟨by rw [e], rfl⟩
  case rest =>
    obtain ⟨rfl, rfl⟩ := hcut
    go_upto_region 3 with fail
    go_cut [1] from 19 to 23 (fun s1 wx => s1 = .slice A' (min n' 50) cp' ∧ wx = wc)
    case first =>
      rcases Nat.lt_or_ge 50 n' with hn | hn
      · have e : min n' 50 = 50 := by omega
        obtain ⟨b, o, rfl⟩ := hA' (by omega)
        go_wp2_with fail
        go_meet
        exact ⟨by rw [e], rfl⟩
      · have e : min n' 50 = n' := by omega
        rcases Nat.eq_zero_or_pos n' with h0 | h0
        · subst h0
          go_wp2_with fail
          go_meet
          exact ⟨rfl, rfl⟩
        · obtain ⟨b, o, rfl⟩ := hA' h0
          go_wp2_with fail
          go_meet
          exact ⟨by rw [e], rfl⟩
    case rest =>
      obtain ⟨rfl, rfl⟩ := hcut
      have hlen := HLL.out
      have hlen' := HLL'.out
      have hcp5 : min n 50 ≤ cp := by omega
      have hcp5' : min n' 50 ≤ cp' := by omega
      clear hA hA' hcp hcp' hmx hmx' HLL HLL'
      generalize min n 50 = N at *
      generalize min n' 50 = N' at *
      subst hlen hlen'
      have hcp := hcp5
      have hcp' := hcp5'
      clear hcp5 hcp5'
      generalize wc = W at *
      obtain ⟨hrd, hrd'⟩ := HH.out W hb1
      have HR := hide hrd
      have HR' := hide hrd'
      clear hrd hrd'
      go_upto_region 5 with fail
      go_cut [6] from 24 to 28 (fun s6 wx => ∃ A5 c5, s6 = .slice A5 (M.length + L.length) c5 ∧ Rds wx wx.heap.size 1 A5 (M.length + L.length) (intCells (M ++ L)) ∧ Below W.heap.size W wx)
      case first =>
        cases A' with
        | none =>
          obtain rfl := hz' rfl
          have hM0 : M = [] := by
            have := hcp'
            exact List.length_eq_zero_iff.1 (by omega)
          subst hM0
          cases A with
          | none =>
            obtain rfl := hz rfl
            have hL0 : L = [] := List.length_eq_zero_iff.1 (by omega)
            subst hL0
            go_wp2_with (first | (at_builtin; (refine wpList_append_own_none rfl (.tmp 24) (.tmp 25) 25 rfl W.heap.size 3 i0 1 Tryd.underlying25 hi (.slice none 0 0) 0 ([]) rfl (World.ownsRow_nil _ _ _ _) rfl ?_)) | (at_builtin; (refine wpList_append_own_none rfl (.tmp 26) (.tmp 27) 25 rfl W.heap.size 3 i0 1 Tryd.underlying25 hi (.slice none 0 0) 0 ([]) rfl (World.ownsRow_nil _ _ _ _) rfl ?_)))
            go_meet
            exact ⟨none, 0, rfl, ⟨rfl, by omega, fun h => by simp at h⟩, Below.refl _ _⟩
          | some ad =>
            go_wp2_with (first | (at_builtin; (refine wpList_append_own_none rfl (.tmp 24) (.tmp 25) 25 rfl W.heap.size 3 i0 1 Tryd.underlying25 hi (.slice none 0 0) 0 ([]) rfl (World.ownsRow_nil _ _ _ _) rfl ?_)) | (at_builtin; (refine wpList_append_own_at _ rfl (.tmp 26) (.tmp 27) 25 rfl W.heap.size 3 i0 (.int .i64 0) 1 8 Tryd.underlying25 hi hz0 hz1 hz2 rfl (by decide) (.slice none 0 0) 0 ([]) rfl (World.ownsRow_nil _ _ _ _) ad L.length _ (intCells L) rfl (by rw [intCells_length]; omega) HR.out.src (int1 _) (by unfold maxLen; omega) (by omega) (by omega) ?_); intro v2 w2 ho2 hg2 _ _; have HO2 := hide ho2; have HG2 := hide hg2; clear ho2 hg2))
            go_meet
            obtain ⟨A5, c5, e5, _, r5⟩ := own_rds HO2.out (Nat.le_refl _) (by omega)
            exact ⟨A5, c5, by rw [e5]; simp, by simpa [intCells] using r5, Below.grown (Below.refl W.heap.size W) HG2.out (Nat.le_refl _) (fun k e => by cases e)⟩
        | some ad' =>
          cases A with
          | none =>
            obtain rfl := hz rfl
            have hL0 : L = [] := List.length_eq_zero_iff.1 (by omega)
            subst hL0
            go_wp2_with (first | (at_builtin; (refine wpList_append_own_at _ rfl (.tmp 24) (.tmp 25) 25 rfl W.heap.size 3 i0 (.int .i64 0) 1 8 Tryd.underlying25 hi hz0 hz1 hz2 rfl (by decide) (.slice none 0 0) 0 ([]) rfl (World.ownsRow_nil _ _ _ _) ad' M.length _ (intCells M) rfl (by rw [intCells_length]; omega) HR'.out.src (int1 _) (by unfold maxLen; omega) (by omega) (by omega) ?_); intro v1 w1 ho1 hg1 _ _; have HO1 := hide ho1; have HG1 := hide hg1; clear ho1 hg1; have HB1 := hide (Below.grown (Below.refl W.heap.size W) HG1.out (Nat.le_refl _) (fun k e => by cases e)); have hw1s := HB1.out.size) | (at_builtin; (refine wpList_append_own_none rfl (.tmp 26) (.tmp 27) 25 rfl W.heap.size 3 i0 1 Tryd.underlying25 hi (v1) (0 + M.length) ([] ++ intCells M) rfl HO1.out rfl ?_)))
            go_meet
            obtain ⟨A5, c5, e5, _, r5⟩ := own_rds HO1.out (Nat.le_refl _) (by omega)
            exact ⟨A5, c5, by rw [e5]; simp, by simpa [intCells] using r5, HB1.out⟩
          | some ad =>
            go_wp2_with (first | (at_builtin; (refine wpList_append_own_at _ rfl (.tmp 24) (.tmp 25) 25 rfl W.heap.size 3 i0 (.int .i64 0) 1 8 Tryd.underlying25 hi hz0 hz1 hz2 rfl (by decide) (.slice none 0 0) 0 ([]) rfl (World.ownsRow_nil _ _ _ _) ad' M.length _ (intCells M) rfl (by rw [intCells_length]; omega) HR'.out.src (int1 _) (by unfold maxLen; omega) (by omega) (by omega) ?_); intro v1 w1 ho1 hg1 _ _; have HO1 := hide ho1; have HG1 := hide hg1; clear ho1 hg1; have HB1 := hide (Below.grown (Below.refl W.heap.size W) HG1.out (Nat.le_refl _) (fun k e => by cases e)); have hw1s := HB1.out.size) | (at_builtin; (refine wpList_append_own_at _ rfl (.tmp 26) (.tmp 27) 25 rfl W.heap.size 3 i0 (.int .i64 0) 1 8 Tryd.underlying25 hi hz0 hz1 hz2 rfl (by decide) (v1) (0 + M.length) ([] ++ intCells M) rfl HO1.out ad L.length _ (intCells L) rfl (by rw [intCells_length]; omega) (HR.out.below HB1.out).src (int1 _) (by unfold maxLen; omega) (by omega) (by omega) ?_); intro v2 w2 ho2 hg2 _ _; have HO2 := hide ho2; have HG2 := hide hg2; clear ho2 hg2))
            go_meet
            obtain ⟨A5, c5, e5, _, r5⟩ := own_rds HO2.out (Nat.le_refl _) (by omega)
            exact ⟨A5, c5, by rw [e5]; simp, by simpa [intCells] using r5, HB1.out.grown HG2.out hw1s (fun k e => (HO1.out.lt k e).1)⟩
      case rest =>
        obtain ⟨A5, c5, rfl, hr5, hb5⟩ := hcut
        have hbc : Below w.heap.size w wc := hb1.trans (hb5.mono hb1.size)
        obtain ⟨r1, r2⟩ := HH.out wc hbc
        have hlen5 : M.length + L.length = (M ++ L).length := by simp
        rw [hlen5] at hr5 ⊢
        have o1 := of_any A L.length cp L wc r1
        have o2 := fun q => of_any A' M.length cp' M (wc.drewN q) r2
        have o3 := fun q => of_any A5 (M ++ L).length c5 (M ++ L) (wc.drewN q) hr5
        rw [of_app] at o3
        have HOR := hide (show ∀ (h1 : L.all okC = true) (h2 : M.all okC = true), bits .or .i64 ((orS L 0 : Nat) : Int) ((orS M 0 : Nat) : Int) = ((orS L 0 ||| orS M 0 : Nat) : Int) from fun h1 h2 =>
          i64_or_nat _ _ (by have := or_lt L 0 (by decide) h1; omega) (by have := or_lt M 0 (by decide) h2; omega))
        generalize hlm : (M ++ L).length = LM at *
        clear hr5 r1 r2 hlen5 hlm
        cases h1 : L.all okC with
        | false =>
          rw [of_bad h1] at o1
          rw [if_neg (by rw [h1]; simp)] at o3
          generalize ofB M = pm at *
          obtain ⟨x2, k2⟩ := pm
          simp only at o1 o2 o3
          have O2 := hide o2
          have O3 := hide o3
          clear o2 o3 h1 HOR
          go_wp2_with fail
          refine o1.mono ?_
          rintro e _ ⟨rfl, q1, rfl⟩
          go_wp2_with fail
          refine (O2.out q1).mono ?_
          rintro e _ ⟨rfl, q2, rfl⟩
          go_wp2_with fail
          refine (O3.out (q1 + q2)).mono ?_
          rintro e _ ⟨rfl, q3, rfl⟩
          go_wp2
          go_ret
          exact ⟨rfl, below_drewN hbc _⟩
        | true =>
          cases h2 : M.all okC with
          | false =>
            rw [of_ok h1] at o1
            rw [of_bad h2] at o2
            rw [if_neg (by rw [h2]; simp)] at o3
            generalize orS L 0 = x1 at *
            simp only at o1 o2 o3
            have O2 := hide o2
            have O3 := hide o3
            clear o2 o3 h1 h2 HOR
            go_wp2_with fail
            refine o1.mono ?_
            rintro e _ ⟨rfl, q1, rfl⟩
            go_wp2_with fail
            refine (O2.out q1).mono ?_
            rintro e _ ⟨rfl, q2, rfl⟩
            go_wp2_with fail
            refine (O3.out (q1 + q2)).mono ?_
            rintro e _ ⟨rfl, q3, rfl⟩
            go_wp2
            go_ret
            exact ⟨rfl, below_drewN hbc _⟩
          | true =>
            have hor := HOR.out h1 h2
            rw [of_ok h1] at o1
            rw [of_ok h2] at o2
            rw [if_pos ⟨h1, h2⟩] at o3
            generalize orS L 0 ||| orS M 0 = x3 at *
            generalize orS L 0 = x1 at *
            generalize orS M 0 = x2 at *
            simp only at o1 o2 o3
            have O2 := hide o2
            have O3 := hide o3
            clear o2 o3 h1 h2 HOR
            go_wp2_with fail
            refine o1.mono ?_
            rintro e _ ⟨rfl, q1, rfl⟩
            go_wp2_with fail
            refine (O2.out q1).mono ?_
            rintro e _ ⟨rfl, q2, rfl⟩
            go_wp2_with fail
            refine (O3.out (q1 + q2)).mono ?_
            rintro e _ ⟨rfl, q3, rfl⟩
            go_wp2
            go_ret
            exact ⟨rfl, below_drewN hbc _⟩
end Go.Proofs.YtigkphjgidbppaaDoor
