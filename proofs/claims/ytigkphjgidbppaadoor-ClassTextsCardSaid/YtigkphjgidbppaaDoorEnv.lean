/- The variables that the package's errors and strings.Split need; class.open where they are no names; class.told at an error's value. Conditions: the variables hold what they hold. -/
import Derived.BigQuiet
import Derived.Deep.QuietTactic
import Derived.Test.YtigkphjgidbppaaDoorOpen
import Derived.Test.YtigkphjgidbppaaDoorTold
namespace Go.Proofs.YtigkphjgidbppaaDoor
open Go Go.RowKit

structure CEnv (w : World) (B : Nat) (z : Value) (m : Int) : Prop where
  hT : w.cell? ⟨1, 0, none⟩ = some (.iface 101 (.agg #[.pointer (some ⟨5, 49, none⟩)]))
  hP : w.cell? ⟨0, 0, none⟩ = some (.iface 143 z)
  hM : w.cell? ⟨2, 0, none⟩ = some (.int .i64 m)
  lt : 1 < B ∧ 0 < B ∧ 2 < B
theorem CEnv.below {w w' : World} {B : Nat} {z : Value} {m : Int} (h : CEnv w B z m) (hb : Below B w w') : CEnv w' B z m :=
  ⟨(hb.cell (p := ⟨1, 0, none⟩) h.lt.1).trans h.hT, (hb.cell (p := ⟨0, 0, none⟩) h.lt.2.1).trans h.hP, (hb.cell (p := ⟨2, 0, none⟩) h.lt.2.2).trans h.hM, h.lt⟩
theorem CEnv.more {w : World} {B B' : Nat} {z : Value} {m : Int} (h : CEnv w B z m) (hB : B ≤ B') : CEnv w B' z m := ⟨h.hT, h.hP, h.hM, by have := h.lt; omega⟩

/-- an error's value -/
def errV (z : Value) (k : Int) : Value := if k = 0 then .nilIface else .iface 53 (.agg #[.int .i64 k, .iface 143 z])

theorem told_errV (k : Int) (B : Nat) (z : Value) (m : Int) (w : World) (hE : CEnv w B z m) : Calls Tryd.prog 31 #[errV z k] w (Freed w (.int .i64 k)) := by
  unfold errV
  split
  · rename_i h
    subst h
    exact told_nil w
  · exact told_any k _ z w hE.hT

set_option maxRecDepth 100000 in
set_option maxHeartbeats 2000000 in
theorem open_not (A : Option Addr) (len cap : Nat) (l : List ByteArray) (B : Nat) (z : Value) (m : Int) (w : World) (hE : CEnv w B z m) (hB : B ≤ w.heap.size) (hr : Rds w w.heap.size 1 A len (strCells l)) (hlen : len ≤ 1000) (hz : ∀ s ∈ l, s.size ≤ maxLen) (hn : namesB l = false) :
    Calls Tryd.prog 30 #[.slice A len cap] w (Freed w (.tuple #[.pointer none, errV z 2])) := by
  obtain rfl := hr.str_len
  have hna := Names_any A l.length cap l w hr hlen hz
  rw [hn] at hna
  clear hn
  go_enter Tryd.func30, Tryd.ntmps30
  go_wp2_with fail
  refine hna.mono ?_
  rintro e w1 ⟨rfl, hb1⟩
  have hP := (hE.below (hb1.mono hB)).hP
  clear hna
  go_wp2_with fail
  go_quiet (fail)
  go_wp2
  go_ret2
  exact ⟨rfl, below_drewN hb1 _⟩
end Go.Proofs.YtigkphjgidbppaaDoor
