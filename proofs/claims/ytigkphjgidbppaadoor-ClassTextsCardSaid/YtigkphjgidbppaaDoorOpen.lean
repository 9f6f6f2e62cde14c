/- The program's class.open, at names. Conditions: the slice reads as the list of texts, which are names. -/
import Derived.Test.YtigkphjgidbppaaDoorAre
namespace Go.Proofs.YtigkphjgidbppaaDoor
open Go Go.RowKit

/-- the first k texts' numbers and texts -/
def upTo (l : List ByteArray) (k : Nat) : List (Int × ByteArray) := (List.range k).map fun (i : Nat) => ((i : Int), l.getD i ByteArray.empty)
theorem upTo_step (l : List ByteArray) {k : Nat} (h : k < l.length) : upTo l (k + 1) = upTo l k ++ [((k : Int), l[k])] := by
  unfold upTo
  rw [List.range_succ, List.map_append, List.map_cons, List.map_nil, getD_get h]

set_option maxRecDepth 100000 in
set_option maxHeartbeats 2000000 in
theorem open_names (A : Option Addr) (len cap : Nat) (l : List ByteArray) (w : World) (hr : Rds w w.heap.size 1 A len (strCells l)) (hlen : len ≤ 1000) (hz : ∀ s ∈ l, s.size ≤ maxLen) (hn : namesB l = true) :
    Calls Tryd.prog 30 #[.slice A len cap] w (fun e w' => ∃ g b, e = .returned (.tuple #[.pointer (some ⟨g, 0, none⟩), .nilIface]) ∧ w.heap.size ≤ g ∧ w.heap.size ≤ b ∧ Blk w' g 68 #[.slice A len cap, .map (some b)] ∧ w'.ownsMap (H := Unit) Tryd.prog 9 (plainElem Tryd.prog 3) b len (mapTo (upTo l len)) ∧ Below w.heap.size w w') := by
  obtain rfl := hr.str_len
  have hna := Names_any A l.length cap l w hr hlen hz
  rw [hn] at hna
  have hm := hr.2.1
  clear hn
  have hmm := @run_makeMap Tryd.prog
  go_enter Tryd.func30, Tryd.ntmps30
  go_wp2_with fail
  refine hna.mono ?_
  rintro e w1 ⟨rfl, hb1⟩
  go_wp2_with fail
  clear hmm hna
  obtain ⟨W0, hW0⟩ : ∃ W0 : World, W0 = (w1.alloc (.map #[] 0)).alloc (.cells #[.slice A l.length cap, .map (some w1.heap.size)] 68) := ⟨_, rfl⟩
  obtain ⟨bm, hbm⟩ : ∃ bm : Nat, bm = w1.heap.size := ⟨_, rfl⟩
  obtain ⟨g, hg⟩ : ∃ g : Nat, g = bm + 1 := ⟨_, rfl⟩
  have hb0 : Below w.heap.size w W0 := by rw [hW0]; exact (hb1.alloc hb1.size _).alloc (by have := hb1.size; simp; omega) _
  have k0 : Blk W0 g 68 #[.slice A l.length cap, .map (some bm)] := by
    rw [hW0, hg, hbm]
    have := Blk.new (w1.alloc (.map #[] 0)) 68 #[.slice A l.length cap, .map (some w1.heap.size)]
    simpa using this
  have hm0 : W0.ownsMap (H := Unit) Tryd.prog 9 (plainElem Tryd.prog 3) bm 0 (.map []) := by
    rw [hW0, hbm]
    exact (World.ownsMap_made (H := Unit) w1 Tryd.prog 9 (plainElem Tryd.prog 3)).alloc _
  rw [← hW0, ← hbm, ← hg]
  have hbw : w.heap.size ≤ bm := by rw [hbm]; exact hb1.size
  have hgb : bm < g := by omega
  clear hW0 hbm hg
  go_loopw [20] (fun i wr => ∃ (k : Nat), k ≤ l.length ∧ i = .int .i64 k ∧ wr.ownsMap (H := Unit) Tryd.prog 9 (plainElem Tryd.prog 3) bm k (mapTo (upTo l k)) ∧ Blk wr g 68 #[.slice A l.length cap, .map (some bm)] ∧ Below w.heap.size w wr) (fun i _ => l.length - (intOf i).toNat)
  case atStart => exact ⟨0, Nat.zero_le _, rfl, hm0, k0, hb0⟩
  case round =>
    obtain ⟨k, hk, rfl, hmk, kg, hbw2⟩ := hrel
    clear hm0 k0 hb0
    have HM := hide hmk
    obtain ⟨c0, c1⟩ := And.intro (kg.cell 0) (kg.cell 1)
    have cl := kg.lt
    simp only [List.getElem?_toArray, List.getElem?_cons_zero, List.getElem?_cons_succ] at c0 c1
    clear hmk
    by_cases hlt : k < l.length
    · obtain ⟨b, o, rfl, hbl, ck⟩ := (hr.below hbw2).str hlt
      have hzs := hz _ (List.getElem_mem hlt)
      have HU := hide (upTo_step l hlt)
      generalize l[k] = s at *
      have HML := hide (show k < maxLen from Nat.lt_of_lt_of_le hlt (Nat.le_trans hlen (by decide)))
      have HKEY := hide (show keyOf Tryd.prog 9 (.string s) = some (.string s.data.toList) by rw [keyOf_string Tryd.underlying9]; unfold mapKey; rw [Tryd.underlying9]; exact if_pos hzs)
      have HVAL := hide (show plainElem (H := Unit) Tryd.prog 3 (.int .i64 (k : Int)) = some (.lit (.int .i64 (k : Int)), []) from plainElem_int Tryd.underlying3 (by
        have e1 : IntKind.i64.min = -9223372036854775808 := rfl
        have e2 : IntKind.i64.max = 9223372036854775807 := rfl
        simp only [Lit.wf, Bool.and_eq_true, decide_eq_true_eq, e1, e2]
        omega))
      clear hzs
      go_wp2_with (at_mapUpdate; (refine wpList_mapUpdate_own _ rfl (.tmp 29) (.tmp 30) (.tmp 31) 64 rfl 9 3 (Maps.string_keyed Tryd.underlying9) Tryd.underlying64 (plainElem (H := Unit) Tryd.prog 3) bm k (mapTo (upTo l k)) rfl HM.out HML.out (.string s) (.int .i64 (k : Int)) (.string s.data.toList) rfl rfl HKEY.out (.lit (.int .i64 (k : Int))) [] HVAL.out ?_); intro w9 hm9 hg9; have HM9 := hide hm9; have HG9 := hide hg9; clear hm9 hg9)
      go_roundw
      case rel =>
        refine ⟨k + 1, by omega, by simp, ?_, kg.grown HG9.out (by intro e; injection e; omega), hbw2.grown HG9.out hbw2.size (fun j e => by cases e; exact hbw)⟩
        rw [HU.out, mapTo_snoc]
        exact HM9.out
      case measure => simp [intOf]; omega
    · obtain rfl : k = l.length := by omega
      go_wp2_with fail
      go_ret2
      exact ⟨g, bm, rfl, by omega, hbw, kg, HM.out, hbw2⟩
end Go.Proofs.YtigkphjgidbppaaDoor
