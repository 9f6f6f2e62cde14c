/- The program's pack.packed, pack.Pack, pack.Size. Conditions: the trie lies as the words below say; the packages' variables hold what they hold. -/
import Derived.BigQuiet
import Derived.Deep.QuietTactic
import Derived.Test.YtibndkkbmgbogaaDoorProg
import Derived.Test.YtibndkkbmgbogaaDoorBase
import Derived.Test.YtibndkkbmgbogaaDoorRight
import Derived.Test.YtibndkkbmgbogaaDoorPWrite
import Derived.Test.YtibndkkbmgbogaaDoorPTold
import Derived.Outline
namespace Go.Proofs.YtibndkkbmgbogaaDoor
open Go Go.RowKit

/-- The two variables that the package's errors need. -/
structure PEnv (w : World) (B : Nat) (z : Value) : Prop where
  hT : w.cell? ⟨3, 0, none⟩ = some (.iface 136 (.agg #[.pointer (some ⟨4, 65, none⟩)]))
  hP : w.cell? ⟨2, 0, none⟩ = some (.iface 164 z)
  lt : 3 < B ∧ 2 < B
theorem PEnv.below {w w' : World} {B : Nat} {z : Value} (h : PEnv w B z) (hb : Below B w w') : PEnv w' B z :=
  ⟨(hb.cell (p := ⟨3, 0, none⟩) h.lt.1).trans h.hT, (hb.cell (p := ⟨2, 0, none⟩) h.lt.2).trans h.hP, h.lt⟩
theorem PEnv.more {w : World} {B B' : Nat} {z : Value} (h : PEnv w B z) (hB : B ≤ B') : PEnv w B' z := ⟨h.hT, h.hP, by have := h.lt; omega⟩

/-- what Pack answers -/
def packedB (T : Tr) : List UInt8 × Int := if T.rightB then (if T.bl.length ≤ 300 then (packB T, 0) else ([], 60)) else ([], 50)
/-- an error's value -/
def errV (z : Value) (k : Int) : Value := if k = 0 then .nilIface else .iface 84 (.agg #[.int .i64 k, .iface 164 z])

set_option maxHeartbeats 800000 in
theorem packed_any (A A' : Option Addr) (n c n' c' B : Nat) (T : Tr) (z : Value) (w : World) (ht : TrAt w w.heap.size A n A' n' T) (hE : PEnv w B z) (hB : B ≤ w.heap.size) :
    Calls Tryd.prog 63 #[.agg #[.slice A n c, .slice A' n' c']] w (Freed w (.tuple #[.string ⟨(packedB T).1.toArray⟩, errV z (packedB T).2])) := by
  have hn' := ht.bl.len
  have ht1 := ht.alloc (Nat.le_refl _) (.cells #[.slice A n c, .slice A' n' c'] 27)
  have hb1 : Below w.heap.size w (w.alloc (.cells #[.slice A n c, .slice A' n' c'] 27)) := (Below.refl _ _).alloc (Nat.le_refl _) _
  have k1 := Blk.new w 27 #[.slice A n c, .slice A' n' c']
  have HT := hide ht1
  have HE := hide hE
  have HN := hide hn'
  clear ht1 hE ht hn'
  go_enter Tryd.func63, Tryd.ntmps63
  go_wp2_with fail
  refine (trieRight_any A A' n c n' c' T _ HT.out).mono ?_
  rintro e w1 ⟨rfl, hb2⟩
  have k2 := k1.below hb2 k1.lt
  have E2 := (HE.out.below (hb1.mono hB)).below (hb2.mono (by simp; omega))
  have hb3 := hb1.trans (hb2.mono (by simp))
  have d1 := k2.cell 0
  have d2 := k2.cell 1
  have hP := E2.hP
  simp only [List.getElem?_toArray, List.getElem?_cons_zero, List.getElem?_cons_succ] at d1 d2
  have lt := k2.lt
  have hm := HT.out.bl.max
  by_cases hR : T.rightB = true
  · have hp : packedB T = if T.bl.length ≤ 300 then (packB T, 0) else ([], 60) := by simp [packedB, hR]
    have HP := hide hp
    have HR := hide hR
    clear hp
    by_cases h3 : T.bl.length ≤ 300
    · have h3' : n' ≤ 300 := by have := HN.out; omega
      have H3 := hide h3
      clear h3
      go_wp2_with fail
      have hwr : Blk (w1.alloc (.cells #[.slice none 0 0] 115)) w1.heap.size 115 #[.slice none 0 0] := Blk.new _ _ _
      have ht3 : TrAt (w1.alloc (.cells #[.slice none 0 0] 115)) w1.heap.size A n A' n' T := by
        have h5 := (HT.out.keep (w' := w1) (fun p hp => hb2.cell hp)).more (B' := w1.heap.size) hb2.size
        exact h5.keep (fun p hp => ((Below.refl w1.heap.size w1).alloc (Nat.le_refl _) _).cell hp)
      refine (write_any A A' n c n' c' w1.heap.size T _ ht3 HR.out H3.out hwr (by simp)).mono ?_
      rintro e w2 ⟨rfl, hb4⟩
      go_wp2
      go_ret2
      refine ⟨?_, hb3.trans ((((Below.refl _ _).alloc (Nat.le_refl _) _).trans hb4).mono (by have := hb3.size; omega))⟩
      rw [HP.out, if_pos H3.out]
      rfl
    · have h3' : ¬ n' ≤ 300 := by have := HN.out; omega
      have H3 := hide h3
      clear h3
      go_wp2_with fail
      all_goals (try go_quiet (fail))
      all_goals go_wp2
      all_goals go_ret2
      refine ⟨?_, hb3.trans (below_drewN (Below.refl _ _) _)⟩
      rw [HP.out, if_neg H3.out]
      rfl
  · have hp : packedB T = ([], 50) := by simp [packedB, hR]
    have HP := hide hp
    have hRf : T.rightB = false := by simpa using hR
    clear hp hR
    rw [hRf]
    go_wp2_with fail
    all_goals (try go_quiet (fail))
    all_goals go_wp2
    all_goals go_ret2
    refine ⟨?_, hb3.trans (below_drewN (Below.refl _ _) _)⟩
    rw [HP.out]
    rfl

theorem packPack_any (A A' : Option Addr) (n c n' c' B : Nat) (T : Tr) (z : Value) (w : World) (ht : TrAt w w.heap.size A n A' n' T) (hE : PEnv w B z) (hB : B ≤ w.heap.size) :
    Calls Tryd.prog 35 #[.agg #[.slice A n c, .slice A' n' c']] w (Freed w (.tuple #[.string ⟨(packedB T).1.toArray⟩, .int .i64 (packedB T).2])) := by
  have hb1 : Below w.heap.size w (w.alloc (.cells #[.slice A n c, .slice A' n' c'] 27)) := (Below.refl _ _).alloc (Nat.le_refl _) _
  have HC := hide (packed_any A A' n c n' c' B T z _ (ht.alloc (Nat.le_refl _) (.cells #[.slice A n c, .slice A' n' c'] 27)) (hE.below (hb1.mono hB)) (by simp; omega))
  have HE := hide hE
  clear ht hE
  go_enter Tryd.func35, Tryd.ntmps35
  go_wp2_with fail
  refine HC.out.mono ?_
  rintro e w1 ⟨rfl, hb2⟩
  have hb3 := hb1.trans (hb2.mono (by simp))
  have E3 := HE.out.below (hb3.mono hB)
  clear HC
  by_cases h0 : (packedB T).2 = 0
  · have e0 : errV z (packedB T).2 = .nilIface := by simp [errV, h0]
    have H0 := hide h0
    rw [e0]
    clear h0 e0
    go_wp2_with ((go_at_call 60; refine (told_nil _).mono ?_; rintro e w2 ⟨rfl, hb4⟩))
    go_ret2
    exact ⟨by rw [H0.out]; rfl, hb3.trans (hb4.mono hb3.size)⟩
  · have e0 : errV z (packedB T).2 = .iface 84 (.agg #[.int .i64 (packedB T).2, .iface 164 z]) := by simp [errV, h0]
    rw [e0]
    clear h0 e0
    go_wp2_with ((go_at_call 60; refine (told_any _ _ _ _ E3.hT).mono ?_; rintro e w2 ⟨rfl, hb4⟩))
    go_ret2
    exact ⟨rfl, hb3.trans (hb4.mono hb3.size)⟩

theorem size_any (A A' : Option Addr) (n c n' c' B : Nat) (T : Tr) (z : Value) (w : World) (ht : TrAt w w.heap.size A n A' n' T) (hE : PEnv w B z) (hB : B ≤ w.heap.size) :
    Calls Tryd.prog 39 #[.agg #[.slice A n c, .slice A' n' c']] w (Freed w (.tuple #[.int .i64 ((packedB T).1.length : Nat), .int .i64 (packedB T).2])) := by
  have hb1 : Below w.heap.size w (w.alloc (.cells #[.slice A n c, .slice A' n' c'] 27)) := (Below.refl _ _).alloc (Nat.le_refl _) _
  have HC := hide (packed_any A A' n c n' c' B T z _ (ht.alloc (Nat.le_refl _) (.cells #[.slice A n c, .slice A' n' c'] 27)) (hE.below (hb1.mono hB)) (by simp; omega))
  have HE := hide hE
  clear ht hE
  have hsz : (⟨(packedB T).1.toArray⟩ : ByteArray).size = (packedB T).1.length := by show (packedB T).1.toArray.size = _; simp
  go_enter Tryd.func39, Tryd.ntmps39
  go_wp2_with fail
  refine HC.out.mono ?_
  rintro e w1 ⟨rfl, hb2⟩
  have hb3 := hb1.trans (hb2.mono (by simp))
  have E3 := HE.out.below (hb3.mono hB)
  clear HC
  by_cases h0 : (packedB T).2 = 0
  · have e0 : errV z (packedB T).2 = .nilIface := by simp [errV, h0]
    have H0 := hide h0
    rw [e0]
    clear h0 e0
    go_wp2_with ((go_at_call 60; refine (told_nil _).mono ?_; rintro e w2 ⟨rfl, hb4⟩))
    go_ret2
    exact ⟨by rw [H0.out]; rfl, hb3.trans (hb4.mono hb3.size)⟩
  · have e0 : errV z (packedB T).2 = .iface 84 (.agg #[.int .i64 (packedB T).2, .iface 164 z]) := by simp [errV, h0]
    rw [e0]
    clear h0 e0
    go_wp2_with ((go_at_call 60; refine (told_any _ _ _ _ E3.hT).mono ?_; rintro e w2 ⟨rfl, hb4⟩))
    go_ret2
    exact ⟨rfl, hb3.trans (hb4.mono hb3.size)⟩
end Go.Proofs.YtibndkkbmgbogaaDoor
