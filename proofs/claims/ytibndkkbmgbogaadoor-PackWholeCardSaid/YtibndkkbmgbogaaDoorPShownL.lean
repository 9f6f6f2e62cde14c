/- Plain facts for the law's shown: the bytes of the trie of no ranges. No program in sight; conditions: none. -/
import Derived.Test.YtibndkkbmgbogaaDoorPLoad4
import Derived.Test.YtibndkkbmgbogaaDoorRefB
namespace Go.Proofs.YtibndkkbmgbogaaDoor
open Go Go.RowKit

def S0 : List UInt8 := [86, 84, 49, 0, 1, 255, 0, 16, 255, 0, 0, 2, 234]
theorem runs_rep (x : Int) (k : Nat) : runsOf (List.replicate (k + 1) x) = [((k : Int) + 1, x)] := by
  have h := runsOf_run x [] (by simp) k
  rwa [List.append_nil] at h
theorem body_T0 (k : Nat) : bodyB (T0at (k + 1)) = markB ++ twoB 1 ++ [255, 0] ++ (twoB k ++ twoB 0) := by
  have h1 : (T0at (k + 1)).bl = [zB] := by simp [T0at]
  have h2 : (T0at (k + 1)).ix = List.replicate (k + 1) 0 := rfl
  have h3 : runsOf zB = [(((255 : Nat) : Int) + 1, 0)] := runs_rep 0 255
  unfold bodyB
  rw [h1, h2, runs_rep]
  simp only [blksB, List.flatMap_cons, List.flatMap_nil, List.append_nil, h3, blkB, idxB, List.length_cons, List.length_nil]
  rw [show ((k : Int) + 1 - 1).toNat = k by omega]
  rfl
theorem pack_T0 : packB (T0at 4352) = S0 := by
  have h := body_T0 4351
  have e : (4351 + 1 : Nat) = 4352 := rfl
  rw [e] at h
  unfold packB
  rw [h]
  decide
theorem T0_right (k : Nat) (hk : k + 1 = 4352) : (T0at (k + 1)).rightB = true := by
  have hz : blockB zB = true := by
    simp only [blockB, Bool.and_eq_true, decide_eq_true_eq, List.all_eq_true]
    refine ⟨zB_len, fun v hv => ?_⟩
    rw [List.eq_of_mem_replicate hv]
    rfl
  simp only [Tr.rightB, Bool.and_eq_true, decide_eq_true_eq, List.all_eq_true]
  have h1 : (T0at (k + 1)).bl = [zB] := by simp [T0at]
  have h2 : (T0at (k + 1)).ix = List.replicate (k + 1) 0 := rfl
  rw [h1, h2]
  refine ⟨⟨by rw [List.length_replicate]; exact hk, fun v hv => ?_⟩, fun b hb => ?_⟩
  · rw [List.eq_of_mem_replicate hv]
    simp
  · simp at hb
    rw [hb]
    exact hz
theorem packed_T0 : packedB (T0at 4352) = (S0, 0) := by
  have h := T0_right 4351 rfl
  have e : (4351 + 1 : Nat) = 4352 := rfl
  rw [e] at h
  unfold packedB
  rw [if_pos h, if_pos (by have := (T0at_lens 4352).2; omega), pack_T0]
theorem T0_eq (k : Nat) : T0at (k + 1) = ⟨List.replicate (k + 1) ((0 : Nat) : Int), [List.replicate 256 ((0 : Nat) : Int)]⟩ := by
  unfold T0at
  rw [if_neg (Nat.succ_ne_zero k)]
  rfl
/-- one run that fills all -/
theorem rFill_one (take : RS → Nat × RS) (n f v : Nat) (s s1 s2 : RS) (hf : 1 ≤ f) (hn : 0 < n) (hs : s.2 = false) (h1 : take s = (n - 1, s1)) (h2 : take s1 = (v, s2)) : rFill take n (f + 1) [] (0, 0) s = (List.replicate n (v : Int), s2) := by
  obtain ⟨f, rfl⟩ : ∃ g, f = g + 1 := ⟨f - 1, by omega⟩
  rw [rFill, if_pos ⟨by simpa using hn, hs⟩, h1]
  simp only [h2, List.length_nil, Nat.sub_zero, List.nil_append]
  rw [if_neg (by omega), show n - 1 + 1 = n by omega, rFill, if_neg (by simp)]
theorem load_T0 : rLoad (S0.drop 3 |>.take 8, false) = some (T0at 4352) := by
  have hr := T0_right 4351 rfl
  have e : (4351 + 1 : Nat) = 4352 := rfl
  rw [e] at hr
  have hT : T0at 4352 = ⟨List.replicate 4352 ((0 : Nat) : Int), [List.replicate 256 ((0 : Nat) : Int)]⟩ := T0_eq 4351
  have b1 : rFill rOne 256 257 [] (0, 0) ([255, 0, 16, 255, 0, 0], false) = (List.replicate 256 ((0 : Nat) : Int), ([16, 255, 0, 0], false)) := rFill_one rOne 256 256 0 _ ([0, 16, 255, 0, 0], false) _ (by decide) (by decide) rfl rfl rfl
  have b2 : rFill rTwo 4352 4353 [] (0, 0) ([16, 255, 0, 0], false) = (List.replicate 4352 ((0 : Nat) : Int), ([], false)) := rFill_one rTwo 4352 4352 0 _ ([0, 0], false) _ (by decide) (by decide) rfl rfl rfl
  have b3 : rBlocks 1 [] ([255, 0, 16, 255, 0, 0], false) = (some [List.replicate 256 ((0 : Nat) : Int)], ([16, 255, 0, 0], false)) := by
    unfold rBlocks
    rw [b1]
    rfl
  have b0 : rTwo (S0.drop 3 |>.take 8, false) = (1, ([255, 0, 16, 255, 0, 0], false)) := rfl
  unfold rLoad
  rw [b0]
  simp only
  rw [if_neg (by decide), b3]
  simp only
  rw [b2, ← hT, if_pos ⟨rfl, rfl, hr⟩]
theorem loadB_S0 : loadB ⟨S0.toArray⟩ = (T0at 4352, 0) := by
  unfold loadB
  have e : ((⟨S0.toArray⟩ : ByteArray).extract 3 ((⟨S0.toArray⟩ : ByteArray).size - 2)).data.toList = (S0.drop 3 |>.take 8) := by decide
  rw [if_neg (by decide), if_neg (by decide), e, load_T0]
theorem loadB_S1 : loadB ⟨(S0 ++ [120]).toArray⟩ = noTr 61 := by
  unfold loadB
  rw [if_neg (by decide), if_pos (by decide)]
theorem loadB_S2 : loadB ⟨#[86, 84, 49]⟩ = noTr 60 := by
  unfold loadB
  rw [if_pos (by decide)]
end Go.Proofs.YtibndkkbmgbogaaDoor
