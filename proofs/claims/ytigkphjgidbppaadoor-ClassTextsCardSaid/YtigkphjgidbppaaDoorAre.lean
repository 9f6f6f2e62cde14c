/- The program's (names).areNames. Conditions: the slice reads as the list of texts; the map is one's own. -/
import Derived.Test.YtigkphjgidbppaaDoorHas
import Derived.Test.YtigkphjgidbppaaDoorOf
import Derived.Maps.OwnOps
namespace Go.Proofs.YtigkphjgidbppaaDoor
open Go Go.RowKit

set_option maxRecDepth 100000 in
set_option maxHeartbeats 2000000 in
theorem areNames_any (A : Option Addr) (len cap : Nat) (l : List ByteArray) (b n : Nat) (D : DataW Unit) (w : World) (hr : Rds w w.heap.size 1 A len (strCells l)) (hz : ∀ s ∈ l, s.size ≤ 9223372036854775807)
    (hm : w.ownsMap (H := Unit) Tryd.prog 9 (plainElem Tryd.prog 3) b n D) :
    Calls Tryd.prog 47 #[.agg #[.slice A len cap, .map (some b)]] w (Freed w (.bool (decide (1 ≤ len) && (decide (len ≤ 32) && (decide (Maps.size D = len) && !(l.any fun s => !isNameB s)))))) := by
  have k0 := Blk.new w 79 #[.slice A len cap, .map (some b)]
  have hb0 : Below w.heap.size w (w.alloc (.cells #[.slice A len cap, .map (some b)] 79)) := (Below.refl _ _).alloc (Nat.le_refl _) _
  have hr1 := hr.alloc (Nat.le_refl _) (.cells #[.slice A len cap, .map (some b)] 79)
  have hlen := (hm.alloc (.cells #[.slice A len cap, .map (some b)] 79)).len Tryd.underlying64
  have hc := containsNot_any A len cap l _ hr1 hz
  generalize (l.any fun s => !isNameB s) = q at *
  generalize Maps.size D = sz at *
  have HC := hide hc
  clear hc hr1 hr hm
  by_cases h1 : 1 ≤ len
  · have e1 : (1 : Int) ≤ (len : Int) := by omega
    by_cases h2 : len ≤ 32
    · have e2 : (len : Int) ≤ 32 := by omega
      rw [decide_eq_true h1, decide_eq_true h2]
      by_cases h3 : sz = len
      · rw [decide_eq_true h3]
        subst h3
        clear h1 h2
        go_enter Tryd.func47, Tryd.ntmps47
        go_wp2_with fail
        refine HC.out.mono ?_
        rintro e w1 ⟨rfl, hb⟩
        go_wp2
        go_ret
        exact ⟨rfl, hb0.trans (hb.mono hb0.size)⟩
      · rw [decide_eq_false h3]
        have e3 : ((sz : Int) == (len : Int)) = false := by rw [beq_eq_false_iff_ne]; omega
        clear h1 h2 h3
        go_enter Tryd.func47, Tryd.ntmps47
        go_wp2
        go_ret
        exact ⟨rfl, hb0⟩
    · have e2 : ¬ (len : Int) ≤ 32 := by omega
      rw [decide_eq_true h1, decide_eq_false h2]
      clear h1 h2
      go_enter Tryd.func47, Tryd.ntmps47
      go_wp2
      go_ret
      exact ⟨rfl, hb0⟩
  · have e1 : ¬ (1 : Int) ≤ (len : Int) := by omega
    rw [decide_eq_false h1]
    clear h1
    go_enter Tryd.func47, Tryd.ntmps47
    go_wp2
    go_ret
    exact ⟨rfl, hb0⟩

/-- are these names? -/
def namesB (l : List ByteArray) : Bool := decide (1 ≤ l.length) && (decide (l.length ≤ 32) && (decide (Maps.size (mapTo (bwdTo l l.length)) = l.length) && !(l.any fun s => !isNameB s)))

theorem Names_any (A : Option Addr) (len cap : Nat) (l : List ByteArray) (w : World) (hr : Rds w w.heap.size 1 A len (strCells l)) (hlen : len ≤ 1000) (hz : ∀ s ∈ l, s.size ≤ maxLen) :
    Calls Tryd.prog 39 #[.slice A len cap] w (Freed w (.bool (namesB l))) := by
  obtain rfl := hr.str_len
  have ho := of_names A l.length cap l w hr hlen hz
  have hz2 : ∀ s ∈ l, s.size ≤ 9223372036854775807 := fun s hs => Nat.le_trans (hz s hs) (by decide)
  go_enter Tryd.func39, Tryd.ntmps39
  go_wp2_with fail
  refine ho.mono ?_
  rintro e w1 ⟨b, rfl, _, hm, hb⟩
  have ha := areNames_any A l.length cap l b _ _ w1 ((hr.below hb).more hb.size) hz2 hm
  have hnb : (decide (1 ≤ l.length) && (decide (l.length ≤ 32) && (decide (Maps.size (mapTo (bwdTo l l.length)) = l.length) && !(l.any fun s => !isNameB s)))) = namesB l := rfl
  rw [hnb] at ha
  generalize namesB l = q at *
  have HA := hide ha
  clear ha hnb hm ho
  go_wp2_with fail
  refine HA.out.mono ?_
  rintro e w2 ⟨rfl, hb2⟩
  go_wp2
  go_ret
  exact ⟨rfl, hb.trans (hb2.mono hb.size)⟩
end Go.Proofs.YtigkphjgidbppaaDoor
