/- The program's field.digits. Conditions: none. -/
import Derived.Test.YtdmkjchmcgjjmaaDoorProg
import Derived.Test.YtdmkjchmcgjjmaaDoorHexL
import Derived.Maps.OwnSet
import Derived.Tactics2
import Derived.RangeFuncRecord
import Derived.Laws.RangeAny
import Derived.Laws.RangeString
import Derived.OwnWalk
import Derived.Outline
import Derived.Deep.LoopGhost
namespace Go.Proofs.YtdmkjchmcgjjmaaDoor
open Go Go.RowKit

section
variable {P : Program}
/-- the next byte of a range over a text, wherever its place is held -/
theorem next_at (W : World) (b : Nat) (s : ByteArray) (pos : Nat) (ty : TypeId) (hb : W.heap[b]? = some (.stringIter s pos)) (h : pos < s.size) (ha : (s[pos]'h).toNat < 128) :
    (Instr.next (.pointer (some ⟨b, 0, none⟩)) true ty).run P W = .ok (.tuple #[.bool true, .int .i64 pos, .int .i32 (s[pos]'h).toNat]) (W.putObj b (.stringIter s (pos + 1))) := by
  have hl : b < W.heap.size := (Array.getElem?_eq_some_iff.1 hb).1
  simp only [Instr.next, getObj, setObj, Sem.run_bind, Sem.run, hb, Result.andThen, h, if_true, decode_ascii s pos h ha]
  simp [goInt, World.putObj]
theorem next_end (W : World) (b : Nat) (s : ByteArray) (pos : Nat) (ty : TypeId) (hb : W.heap[b]? = some (.stringIter s pos)) (h : ¬ pos < s.size) :
    (Instr.next (.pointer (some ⟨b, 0, none⟩)) true ty).run P W = .ok (.tuple #[.bool false]) W := by
  simp [Instr.next, getObj, Sem.run, hb, h]
end
theorem put_grown (W : World) (b : Nat) (o : Obj) : W.grownBy (W.putObj b o) (some b) :=
  ⟨rfl, rfl, rfl, by simp [World.putObj], fun k _ hk => World.putObj_heap_other (fun e => hk (by rw [e]))⟩

def sA : ByteArray := ⟨#[48, 49, 50, 51, 52, 53, 54, 55, 56, 57, 97, 98, 99, 100, 101, 102]⟩
def sU : ByteArray := ⟨#[65, 66, 67, 68, 69, 70]⟩
theorem sA_at : ∀ (k : Nat) (h : k < 16), (sA[k]'h).toNat < 128 ∧ hexA.take (k + 1) = hexA.take k ++ [(((sA[k]'h).toNat : Int), (k : Int))] := by decide
theorem sU_at : ∀ (k : Nat) (h : k < 6), (sU[k]'h).toNat < 128 ∧ hexA ++ hexU.take (k + 1) = (hexA ++ hexU.take k) ++ [(((sU[k]'h).toNat : Int), (k : Int) + 10)] := by decide

theorem wf_i32 {z : Int} (h0 : 0 ≤ z) (h1 : z < 256) : (Lit.int .i32 z).wf = true := by
  have e1 : IntKind.i32.min = -2147483648 := rfl
  have e2 : IntKind.i32.max = 2147483647 := rfl
  simp only [Lit.wf, Bool.and_eq_true, decide_eq_true_eq, e1, e2]
  omega
theorem wf_i64 {z : Int} (h0 : 0 ≤ z) (h1 : z < 256) : (Lit.int .i64 z).wf = true := by
  have e1 : IntKind.i64.min = -9223372036854775808 := rfl
  have e2 : IntKind.i64.max = 9223372036854775807 := rfl
  simp only [Lit.wf, Bool.and_eq_true, decide_eq_true_eq, e1, e2]
  omega

set_option maxRecDepth 100000 in
set_option maxHeartbeats 4000000 in
theorem digits_any (w : World) : Calls Tryd.prog 26 #[] w (fun e w' => ∃ b, e = .returned (.map (some b)) ∧ w.heap.size ≤ b ∧ w'.ownsMap (H := Unit) Tryd.prog 21 (plainElem Tryd.prog 3) b 22 (mapI (hexA ++ hexU)) ∧ Below w.heap.size w w') := by
  have hmm := @run_makeMap Tryd.prog
  go_enter Tryd.func26, Tryd.ntmps26
  go_wp2_with fail
  clear hmm
  obtain ⟨bm, hbm⟩ : ∃ bm : Nat, bm = w.heap.size := ⟨_, rfl⟩
  obtain ⟨bi, hbi⟩ : ∃ bi : Nat, bi = bm + 1 := ⟨_, rfl⟩
  obtain ⟨W0, hW0⟩ : ∃ W0 : World, W0 = (w.alloc (.map #[] 0)).iter sA 0 := ⟨_, rfl⟩
  have hb0 : Below w.heap.size w W0 := by rw [hW0]; exact ((Below.refl _ _).alloc (Nat.le_refl _) _).alloc (by simp) _
  have hm0 : W0.ownsMap (H := Unit) Tryd.prog 21 (plainElem Tryd.prog 3) bm 0 (mapI (hexA.take 0)) := by
    rw [hW0, hbm]
    exact (World.ownsMap_made (H := Unit) w Tryd.prog 21 (plainElem Tryd.prog 3)).alloc _
  have hi0 : W0.heap[bi]? = some (.stringIter sA 0) := by
    rw [hW0, hbi, hbm]
    have := World.iter_heap (w.alloc (.map #[] 0)) sA 0
    simpa using this
  have hwb : w.heap.size ≤ bm := by omega
  have hbb : bm < bi := by omega
  rw [show (w.alloc (.map #[] 0)).iter ⟨#[48, 49, 50, 51, 52, 53, 54, 55, 56, 57, 97, 98, 99, 100, 101, 102]⟩ 0 = W0 from hW0.symm]
  try rw [← hbm]
  try rw [← hbi]
  clear hW0 hbi
  go_loopg [2] 16 (fun g _ wx => ∃ (k : Nat), g = 16 - k ∧ k ≤ 16 ∧ wx.heap[bi]? = some (.stringIter sA k) ∧ wx.ownsMap (H := Unit) Tryd.prog 21 (plainElem Tryd.prog 3) bm k (mapI (hexA.take k)) ∧ Below w.heap.size w wx)
  case atStart => exact ⟨0, rfl, Nat.zero_le _, hi0, hm0, hb0⟩
  case round =>
    obtain ⟨k, rfl, hk, hik, hmk, hbk⟩ := hrel
    clear hi0 hm0 hb0
    by_cases hlt : k < 16
    · obtain ⟨ha, hpair⟩ := sA_at k hlt
      have hstep : mapI (hexA.take (k + 1)) = (mapI (hexA.take k)).put (.int .i32 ((sA[k]'hlt).toNat : Int)) (.lit (.int .i64 (k : Int))) := by
        rw [hpair, mapI_snoc]
      have hnx := fun ty => next_at (P := Tryd.prog) wr bi sA k ty hik hlt ha
      have hv0 : (0 : Int) ≤ ((sA[k]'hlt).toNat : Int) ∧ ((sA[k]'hlt).toNat : Int) < 256 := by omega
      have HST := hide hstep
      generalize ((sA[k]'hlt).toNat : Int) = v at *
      have gi := put_grown wr bi (.stringIter sA (k + 1))
      have HMP := hide (hmk.kept gi (by intro e; injection e; omega))
      have hip : (wr.putObj bi (.stringIter sA (k + 1))).heap[bi]? = some (.stringIter sA (k + 1)) := World.putObj_heap_same (Array.getElem?_eq_some_iff.1 hik).1
      have hbp := hbk.grown gi hbk.size (fun j e => by cases e; omega)
      have HKEY := hide (show keyOf Tryd.prog 21 (.int .i32 v) = some (.int .i32 v) from Maps.keyOf_int_mk Tryd.underlying21 (wf_i32 hv0.1 hv0.2))
      have HVAL := hide (show plainElem (H := Unit) Tryd.prog 3 (.int .i64 (k : Int)) = some (.lit (.int .i64 (k : Int)), []) from plainElem_int Tryd.underlying3 (wf_i64 (by omega) (by omega)))
      have HML := hide (show k < maxLen from Nat.lt_of_lt_of_le hlt (by decide))
      have HIP := hide hip
      have HBP := hide hbp
      clear hstep hmk gi hip hbp hv0 ha hpair
      generalize wr.putObj bi (.stringIter sA (k + 1)) = wp at *
      go_wp2_with (at_mapUpdate; (refine wpList_mapUpdate_own _ rfl (.tmp 12) (.tmp 13) (.tmp 14) 45 rfl 21 3 (Maps.int_keyed Tryd.underlying21) Tryd.underlying45 (plainElem (H := Unit) Tryd.prog 3) bm k (mapI (hexA.take k)) rfl HMP.out HML.out (.int .i32 v) (.int .i64 (k : Int)) (.int .i32 v) rfl rfl HKEY.out (.lit (.int .i64 (k : Int))) [] HVAL.out ?_); intro w9 hm9 hg9; have HM9 := hide hm9; have HG9 := hide hg9; clear hm9 hg9)
      go_roundg (16 - (k + 1))
      case measure => omega
      case rel =>
        refine ⟨k + 1, rfl, by omega, (HG9.out.block bi (Array.getElem?_eq_some_iff.1 HIP.out).1 (by intro e; injection e; omega)).trans HIP.out, ?_, HBP.out.grown HG9.out HBP.out.size (fun j e => by cases e; exact hwb)⟩
        rw [HST.out]
        exact HM9.out
    · obtain rfl : k = 16 := by omega
      have hnx := fun ty => next_end (P := Tryd.prog) wr bi sA 16 ty hik (by decide)
      rw [show hexA.take 16 = hexA from rfl] at hmk
      clear hlt hik
      go_wp2_with fail
      obtain ⟨bj, hbj⟩ : ∃ bj : Nat, bj = wr.heap.size := ⟨_, rfl⟩
      have hsz : w.heap.size ≤ wr.heap.size := hbk.size
      have hml := hmk.lt
      obtain ⟨W1, hW1⟩ : ∃ W1 : World, W1 = wr.iter sU 0 := ⟨_, rfl⟩
      have hb1 : Below w.heap.size w W1 := by rw [hW1]; exact hbk.alloc hbk.size _
      have hm1 : W1.ownsMap (H := Unit) Tryd.prog 21 (plainElem Tryd.prog 3) bm (16 + 0) (mapI (hexA ++ hexU.take 0)) := by rw [hW1]; exact hmk.alloc _
      have hi1 : W1.heap[bj]? = some (.stringIter sU 0) := by rw [hW1, hbj]; exact World.iter_heap wr sU 0
      have hbb2 : bm < bj := by omega
      rw [show wr.iter ⟨#[65, 66, 67, 68, 69, 70]⟩ 0 = W1 from hW1.symm, ← hbj]
      clear hW1 hbj hnx hmk
      go_loopg [4] 6 (fun g _ wx => ∃ (k : Nat), g = 6 - k ∧ k ≤ 6 ∧ wx.heap[bj]? = some (.stringIter sU k) ∧ wx.ownsMap (H := Unit) Tryd.prog 21 (plainElem Tryd.prog 3) bm (16 + k) (mapI (hexA ++ hexU.take k)) ∧ Below w.heap.size w wx)
      case atStart => exact ⟨0, rfl, Nat.zero_le _, hi1, hm1, hb1⟩
      case round =>
        obtain ⟨k, rfl, hk, hik, hmk, hbk2⟩ := hrel
        clear hi1 hm1 hb1
        by_cases hlt : k < 6
        · obtain ⟨ha, hpair⟩ := sU_at k hlt
          have hstep : mapI (hexA ++ hexU.take (k + 1)) = (mapI (hexA ++ hexU.take k)).put (.int .i32 ((sU[k]'hlt).toNat : Int)) (.lit (.int .i64 ((k : Int) + 10))) := by
            rw [hpair, mapI_snoc]
          have hnx := fun ty => next_at (P := Tryd.prog) wr bj sU k ty hik hlt ha
          have hv0 : (0 : Int) ≤ ((sU[k]'hlt).toNat : Int) ∧ ((sU[k]'hlt).toNat : Int) < 256 := by omega
          have HST := hide hstep
          generalize ((sU[k]'hlt).toNat : Int) = v at *
          have gi := put_grown wr bj (.stringIter sU (k + 1))
          have HMP := hide (hmk.kept gi (by intro e; injection e; omega))
          have hip : (wr.putObj bj (.stringIter sU (k + 1))).heap[bj]? = some (.stringIter sU (k + 1)) := World.putObj_heap_same (Array.getElem?_eq_some_iff.1 hik).1
          have hbp := hbk2.grown gi hbk2.size (fun j e => by cases e; omega)
          have HKEY := hide (show keyOf Tryd.prog 21 (.int .i32 v) = some (.int .i32 v) from Maps.keyOf_int_mk Tryd.underlying21 (wf_i32 hv0.1 hv0.2))
          have HVAL := hide (show plainElem (H := Unit) Tryd.prog 3 (.int .i64 ((k : Int) + 10)) = some (.lit (.int .i64 ((k : Int) + 10)), []) from plainElem_int Tryd.underlying3 (wf_i64 (by omega) (by omega)))
          have HML := hide (show 16 + k < maxLen from Nat.lt_of_le_of_lt (show 16 + k ≤ 22 by omega) (by decide))
          have HIP := hide hip
          have HBP := hide hbp
          clear hstep hmk gi hip hbp hv0 ha hpair
          generalize wr.putObj bj (.stringIter sU (k + 1)) = wp at *
          go_wp2_with (at_mapUpdate; (refine wpList_mapUpdate_own _ rfl (.tmp 20) (.tmp 21) (.tmp 23) 45 rfl 21 3 (Maps.int_keyed Tryd.underlying21) Tryd.underlying45 (plainElem (H := Unit) Tryd.prog 3) bm (16 + k) (mapI (hexA ++ hexU.take k)) rfl HMP.out HML.out (.int .i32 v) (.int .i64 ((k : Int) + 10)) (.int .i32 v) rfl rfl HKEY.out (.lit (.int .i64 ((k : Int) + 10))) [] HVAL.out ?_); intro w9 hm9 hg9; have HM9 := hide hm9; have HG9 := hide hg9; clear hm9 hg9)
          go_roundg (6 - (k + 1))
          case measure => omega
          case rel =>
            refine ⟨k + 1, rfl, by omega, (HG9.out.block bj (Array.getElem?_eq_some_iff.1 HIP.out).1 (by intro e; injection e; omega)).trans HIP.out, ?_, HBP.out.grown HG9.out HBP.out.size (fun j e => by cases e; exact hwb)⟩
            rw [HST.out]
            exact HM9.out
        · obtain rfl : k = 6 := by omega
          have hnx := fun ty => next_end (P := Tryd.prog) wr bj sU 6 ty hik (by decide)
          rw [show hexU.take 6 = hexU from rfl] at hmk
          have HMK := hide hmk
          clear hlt hik hmk
          go_wp2_with fail
          go_ret
          exact ⟨bm, rfl, hwb, HMK.out, hbk2⟩
end Go.Proofs.YtdmkjchmcgjjmaaDoor
