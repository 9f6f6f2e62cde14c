/- The walk of the law PackWhole. Conditions: the packages' variables hold what they hold; the text is a text. -/
import Derived.Test.YtibndkkbmgbogaaDoorPShown
import Derived.Test.YtibndkkbmgbogaaDoorPLoadL
import Derived.Test.YtibndkkbmgbogaaDoorQuiet
import Derived.IntWalk
namespace Go.Proofs.YtibndkkbmgbogaaDoor
open Go Go.RowKit
attribute [local irreducible] wpQuiet

theorem load_sum (s : ByteArray) (h : (loadB s).2 = 0) : (sumB (s.extract 0 (s.size - 2)).data.toList % 65536 : Nat) = (s.data.getD (s.size - 2) 0).toNat * 256 + (s.data.getD (s.size - 1) 0).toNat := by
  have hg := load_good s h
  by_cases hm : s.extract 0 3 = ⟨#[86, 84, 49]⟩
  · rw [load_def s hg.2.2.2 hm] at h
    split at h
    · cases h
    · rename_i h2
      simpa using h2
  · unfold loadB at h
    rw [if_pos (Or.inr hm)] at h
    cases h

set_option maxRecDepth 100000 in
set_option maxHeartbeats 4000000 in
theorem packWhole_any (s : ByteArray) (B : Nat) (z : Value) (w : World) (hE : PEnv w B z) (hB : B ≤ w.heap.size) (hs : s.size ≤ 9223372036854775807) :
    Calls Tryd.prog 8 #[.string s] w (Freed w (.bool true)) := by
  have h0 := packShown_any B z w hE hB
  have hc1 := fun w => cut_any s w hs
  have hs' : (s.extract 0 (min s.size 600)).size ≤ 600 := by simp; omega
  clear hs
  generalize s.extract 0 (min s.size 600) = a at *
  have hl := fun w hE hB => packLoad_any a B z w hE hB (by omega)
  have hgood := load_good a
  have hnone := load_none a
  have hsum := load_sum a
  obtain ⟨⟨T, k⟩, hTk⟩ : ∃ p, p = loadB a := ⟨_, rfl⟩
  rw [← hTk] at hl hgood hnone hsum
  simp only at hgood hnone hl hsum
  have hp := fun A A' n c n' c' w ht hE hB => packPack_any A A' n c n' c' B T z w ht hE hB
  clear hTk
  have HL := hide hl
  have HE := hide hE
  have HP := hide hp
  have HG := hide hgood
  have HN := hide hnone
  have HS := hide hsum
  clear hl hE hp hgood hnone hsum
  go_enter Tryd.func8, Tryd.ntmps8
  go_wp2_with fail
  refine h0.mono ?_
  rintro e w1 ⟨rfl, hb1⟩
  clear h0
  go_wp2_with fail
  refine (hc1 w1).mono ?_
  rintro e _ ⟨rfl, rfl⟩
  clear hc1
  go_wp2_with fail
  refine (HL.out w1 (HE.out.below (hb1.mono hB)) (by have := hb1.size; omega)).mono ?_
  rintro e w2 ⟨A, n, c, A', n', c', rfl, ht, hc1, hc2, hb2⟩
  have hb02 := hb1.trans (hb2.mono hb1.size)
  clear HL hb1 hb2
  by_cases hk : k = 0
  · subst hk
    obtain ⟨hR, h300, hpk, h7⟩ := HG.out rfl
    have hsm := HS.out rfl
    clear HG HN HS
    have hpb : packedB T = (packB T, 0) := by
      unfold packedB
      rw [if_pos hR, if_pos h300]
    have ha : a = ⟨(packB T).toArray⟩ := bytes_of hpk
    have hp2 := HP.out A A' n c n' c' _ (ht.alloc (Nat.le_refl _) (.cells #[.slice A n c, .slice A' n' c'] 27))
    rw [hpb, ← ha] at hp2
    have HP2 := hide hp2
    have HR := hide hR
    clear hpb ha hpk hp2 HP hR
    have hbA : Below w2.heap.size w2 (w2.alloc (.cells #[.slice A n c, .slice A' n' c'] 27)) := (Below.refl _ _).alloc (Nat.le_refl _) _
    have kA := Blk.new w2 27 #[.slice A n c, .slice A' n' c']
    have hb03 := hb02.trans (hbA.mono hb02.size)
    go_wp2_with fail
    refine (HP2.out (HE.out.below (hb03.mono hB)) (by have := hb03.size; omega)).mono ?_
    rintro e w3 ⟨rfl, hb3⟩
    have hb04 := hb03.trans (hb3.mono hb03.size)
    have k3 := kA.below hb3 kA.lt
    have ht3 := (ht.keep (w' := w3) (fun p hp => (hbA.trans (hb3.mono (by simp))).cell hp)).more (B' := w3.heap.size) (Nat.le_trans hbA.size hb3.size)
    clear HP2 hbA kA ht hb3 hb02 hb03
    generalize w2.heap.size = g at *
    have hC : ∀ W', Below w3.heap.size w3 W' → W'.cell? ⟨g, 0, none⟩ = some (.slice A n c) ∧ W'.cell? ⟨g, 1, none⟩ = some (.slice A' n' c') := fun W' hW' => by
      have h0 := (k3.below hW' k3.lt).cell 0
      have h1 := (k3.below hW' k3.lt).cell 1
      simpa using ⟨h0, h1⟩
    have H1 := hide (show ∀ W', Below w3.heap.size w3 W' → Calls Tryd.prog 25 #[.agg #[.slice A n c, .slice A' n' c']] W' fun e w' => e = .returned (.bool true) ∧ Below w3.heap.size w3 w' from fun W' hW' =>
      (trieRight_any _ _ _ _ _ _ T W' ((ht3.keep (w' := W') (fun p hp => hW'.cell hp)).more hW'.size)).mono fun e w' ⟨he, hb⟩ => ⟨by rw [he, HR.out], hW'.trans (hb.mono hW'.size)⟩)
    obtain ⟨k2, hk2⟩ : ∃ k2, k2 = a.size - 2 := ⟨_, rfl⟩
    obtain ⟨k1, hk1⟩ : ∃ k1, k1 = a.size - 1 := ⟨_, rfl⟩
    have h2 : k2 < a.size := by omega
    have h1 : k1 < a.size := by omega
    have b1 : (a.size : Int) - 2 = (k2 : Int) := by omega
    have b2 : (a.size : Int) - 1 = (k1 : Int) := by omega
    have b3 : (k2 : Int) ≤ (a.size : Int) := by omega
    have b4 : (k2 : Int) < (a.size : Int) := by omega
    have b5 : (k1 : Int) < (a.size : Int) := by omega
    have hx := (a[k2]'h2).toNat_lt
    have hy := (a[k1]'h1).toNat_lt
    rw [← hk2, ← hk1] at hsm
    have gx : a.data.getD k2 0 = a[k2]'h2 := by rw [Array.getD_eq_getD_getElem?, Array.getElem?_eq_getElem h2]; rfl
    have gy : a.data.getD k1 0 = a[k1]'h1 := by rw [Array.getD_eq_getD_getElem?, Array.getElem?_eq_getElem h1]; rfl
    rw [gx, gy] at hsm
    have he2 : (a.extract 0 k2).size ≤ 600 := by simp; omega
    have H2 := hide (show ∀ W', Below w3.heap.size w3 W' → Calls Tryd.prog 36 #[.string (a.extract 0 k2)] W' fun e w' => e = .returned (.int .i64 ((sumB (a.extract 0 k2).data.toList % 65536 : Nat) : Int)) ∧ Below w3.heap.size w3 w' from fun W' hW' =>
      (sum_any _ W' (by omega)).mono fun e w' ⟨he, hb⟩ => ⟨he, hW'.trans (hb.mono hW'.size)⟩)
    rw [hsm] at H2
    clear gx gy hsm he2
    have HC := hide hC
    have HK := hide hk2
    have HK1 := hide hk1
    clear hC hk2 hk1 ht3 k3 HR
    go_wp2_with fail
    refine wp_region_below (by kernel_rfl) (by kernel_rfl) ?_
    refine q_step (v := ?_) rfl (fun W_ hW_ => ?_) ?_; rotate_left; (focus (obtain ⟨e1, e2⟩ := HC.out W_ hW_; go_simp; first | done | rfl | exact ⟨rfl, rfl⟩)); go_frame
    refine q_step (v := ?_) rfl (fun W_ hW_ => ?_) ?_; rotate_left; (focus (obtain ⟨e1, e2⟩ := HC.out W_ hW_; go_simp; first | done | rfl | exact ⟨rfl, rfl⟩)); go_frame
    refine q_step (v := ?_) rfl (fun W_ hW_ => ?_) ?_; rotate_left; (focus (obtain ⟨e1, e2⟩ := HC.out W_ hW_; go_simp; first | done | rfl | exact ⟨rfl, rfl⟩)); go_frame
    refine q_step (v := .bool true) rfl (fun W_ hW_ => by go_simp; first | done | exact IntWalk.i64_in _ (by omega)) ?_
    go_frame
    refine q_step (v := ?_) rfl (fun W_ hW_ => ?_) ?_; rotate_left; (focus (obtain ⟨e1, e2⟩ := HC.out W_ hW_; go_simp; first | done | rfl | exact ⟨rfl, rfl⟩)); go_frame
    refine q_step (v := ?_) rfl (fun W_ hW_ => ?_) ?_; rotate_left; (focus (obtain ⟨e1, e2⟩ := HC.out W_ hW_; go_simp; first | done | rfl | exact ⟨rfl, rfl⟩)); go_frame
    refine q_step (v := ?_) rfl (fun W_ hW_ => ?_) ?_; rotate_left; (focus (obtain ⟨e1, e2⟩ := HC.out W_ hW_; go_simp; first | done | rfl | exact ⟨rfl, rfl⟩)); go_frame
    refine q_step (v := ?_) rfl (fun W_ hW_ => ?_) ?_; rotate_left; (focus (obtain ⟨e1, e2⟩ := HC.out W_ hW_; go_simp; first | done | rfl | exact ⟨rfl, rfl⟩)); go_frame
    refine q_step (v := .bool true) rfl (fun W_ hW_ => by go_simp; first | done | exact IntWalk.i64_in _ (by omega)) ?_
    go_frame
    refine q_step (v := ?_) rfl (fun W_ hW_ => ?_) ?_; rotate_left; (focus (obtain ⟨e1, e2⟩ := HC.out W_ hW_; go_simp; first | done | rfl | exact ⟨rfl, rfl⟩)); go_frame
    refine q_step (v := ?_) rfl (fun W_ hW_ => ?_) ?_; rotate_left; (focus (obtain ⟨e1, e2⟩ := HC.out W_ hW_; go_simp; first | done | rfl | exact ⟨rfl, rfl⟩)); go_frame
    refine q_step (v := ?_) rfl (fun W_ hW_ => ?_) ?_; rotate_left; (focus (obtain ⟨e1, e2⟩ := HC.out W_ hW_; go_simp; first | done | rfl | exact ⟨rfl, rfl⟩)); go_frame
    refine q_call (v := .bool true) 25 #[.agg #[.slice A n c, .slice A' n' c']] rfl (fun W_ => by go_simp) (fun W_ hW_ => H1.out W_ hW_) ?_
    go_frame
    refine q_step (v := ?_) rfl (fun W_ hW_ => ?_) ?_; rotate_left; (focus (obtain ⟨e1, e2⟩ := HC.out W_ hW_; go_simp; first | done | rfl | exact ⟨rfl, rfl⟩)); go_frame
    refine q_step (v := ?_) rfl (fun W_ hW_ => ?_) ?_; rotate_left; (focus (obtain ⟨e1, e2⟩ := HC.out W_ hW_; go_simp; first | done | rfl | exact ⟨rfl, rfl⟩)); go_frame
    refine q_step (v := ?_) rfl (fun W_ hW_ => ?_) ?_; rotate_left; (focus (obtain ⟨e1, e2⟩ := HC.out W_ hW_; go_simp; first | done | rfl | exact ⟨rfl, rfl⟩)); go_frame
    refine q_step (v := ?_) rfl (fun W_ hW_ => ?_) ?_; rotate_left; (focus (obtain ⟨e1, e2⟩ := HC.out W_ hW_; go_simp; first | done | rfl | exact ⟨rfl, rfl⟩)); go_frame
    refine q_step (v := ?_) rfl (fun W_ hW_ => ?_) ?_; rotate_left; (focus (obtain ⟨e1, e2⟩ := HC.out W_ hW_; go_simp; first | done | rfl | exact ⟨rfl, rfl⟩)); go_frame
    refine q_step (v := .int .i64 (k2 : Int)) rfl (fun W_ hW_ => by go_simp; first | done | exact IntWalk.i64_in _ (by omega)) ?_
    go_frame
    refine q_step (v := .string (a.extract 0 k2)) rfl (fun W_ hW_ => by go_simp; first | done | exact IntWalk.i64_in _ (by omega)) ?_
    go_frame
    refine q_call (v := _) 36 #[.string (a.extract 0 k2)] rfl (fun W_ => by go_simp) (fun W_ hW_ => H2.out W_ hW_) ?_
    go_frame
    refine q_step (v := ?_) rfl (fun W_ hW_ => ?_) ?_; rotate_left; (focus (obtain ⟨e1, e2⟩ := HC.out W_ hW_; go_simp; first | done | rfl | exact ⟨rfl, rfl⟩)); go_frame
    refine q_step (v := ?_) rfl (fun W_ hW_ => ?_) ?_; rotate_left; (focus (obtain ⟨e1, e2⟩ := HC.out W_ hW_; go_simp; first | done | rfl | exact ⟨rfl, rfl⟩)); go_frame
    refine q_step (v := ?_) rfl (fun W_ hW_ => ?_) ?_; rotate_left; (focus (obtain ⟨e1, e2⟩ := HC.out W_ hW_; go_simp; first | done | rfl | exact ⟨rfl, rfl⟩)); go_frame
    refine q_step (v := .int .i64 (k2 : Int)) rfl (fun W_ hW_ => by go_simp; first | done | exact IntWalk.i64_in _ (by omega)) ?_
    go_frame
    refine q_step (v := .int .u8 ((a[k2]'h2).toNat : Int)) rfl (fun W_ hW_ => by go_simp; first | done | exact IntWalk.i64_in _ (by omega)) ?_
    go_frame
    refine q_step (v := .int .i64 ((a[k2]'h2).toNat : Int)) rfl (fun W_ hW_ => by go_simp; first | done | exact IntWalk.i64_in _ (by omega)) ?_
    go_frame
    refine q_step (v := .int .i64 (256 * ((a[k2]'h2).toNat : Int))) rfl (fun W_ hW_ => by go_simp; first | done | exact IntWalk.i64_in _ (by omega)) ?_
    go_frame
    refine q_step (v := ?_) rfl (fun W_ hW_ => ?_) ?_; rotate_left; (focus (obtain ⟨e1, e2⟩ := HC.out W_ hW_; go_simp; first | done | rfl | exact ⟨rfl, rfl⟩)); go_frame
    refine q_step (v := ?_) rfl (fun W_ hW_ => ?_) ?_; rotate_left; (focus (obtain ⟨e1, e2⟩ := HC.out W_ hW_; go_simp; first | done | rfl | exact ⟨rfl, rfl⟩)); go_frame
    refine q_step (v := ?_) rfl (fun W_ hW_ => ?_) ?_; rotate_left; (focus (obtain ⟨e1, e2⟩ := HC.out W_ hW_; go_simp; first | done | rfl | exact ⟨rfl, rfl⟩)); go_frame
    refine q_step (v := .int .i64 (k1 : Int)) rfl (fun W_ hW_ => by go_simp; first | done | exact IntWalk.i64_in _ (by omega)) ?_
    go_frame
    refine q_step (v := .int .u8 ((a[k1]'h1).toNat : Int)) rfl (fun W_ hW_ => by go_simp; first | done | exact IntWalk.i64_in _ (by omega)) ?_
    go_frame
    refine q_step (v := .int .i64 ((a[k1]'h1).toNat : Int)) rfl (fun W_ hW_ => by go_simp; first | done | exact IntWalk.i64_in _ (by omega)) ?_
    go_frame
    refine q_step (v := .int .i64 (256 * ((a[k2]'h2).toNat : Int) + ((a[k1]'h1).toNat : Int))) rfl (fun W_ hW_ => by go_simp; first | done | exact IntWalk.i64_in _ (by omega)) ?_
    go_frame
    refine q_step (v := .bool true) rfl (fun W_ hW_ => by go_simp; first | done | omega | (simp; omega)) ?_
    go_frame
    refine q_step (v := ?_) rfl (fun W_ hW_ => ?_) ?_; rotate_left; (focus (obtain ⟨e1, e2⟩ := HC.out W_ hW_; go_simp; first | done | rfl | exact ⟨rfl, rfl⟩)); go_frame
    refine q_step (v := ?_) rfl (fun W_ hW_ => ?_) ?_; rotate_left; (focus (obtain ⟨e1, e2⟩ := HC.out W_ hW_; go_simp; first | done | rfl | exact ⟨rfl, rfl⟩)); go_frame
    refine wpQuiet_nil (fun W' hW' => ?_)
    go_wp2_with fail
    go_ret
    exact ⟨rfl, hb04.trans (hW'.mono hb04.size)⟩
  · have hT := HN.out hk
    subst hT
    clear HG HN HS HP
    have hn : n = 0 := by have := ht.ix.1; simp [intCells] at this; omega
    have hn' : n' = 0 := by have := ht.bl.len; simpa using this.symm
    subst hn hn'
    have hk0 : (k != 0) = true := by simpa using hk
    clear hk ht
    go_wp2_with fail
    go_ret
    exact ⟨rfl, hb02.alloc hb02.size _⟩
end Go.Proofs.YtibndkkbmgbogaaDoor
