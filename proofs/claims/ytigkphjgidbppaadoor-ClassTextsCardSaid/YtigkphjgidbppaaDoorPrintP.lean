/- The program's class.Print. Conditions: the package's variables hold what they hold; the slice reads as the texts. -/
import Derived.Test.YtigkphjgidbppaaDoorEnv
import Derived.Test.YtigkphjgidbppaaDoorPrint
namespace Go.Proofs.YtigkphjgidbppaaDoor
open Go Go.RowKit

/-- what Print answers -/
def PrintB (set : Int) (l : List ByteArray) : ByteArray × Int := if namesB l = true then (if rightB set l.length = true then (printB set l, 0) else (⟨#[]⟩, 70)) else (⟨#[]⟩, 2)

theorem name_40 {l : List ByteArray} (h : namesB l = true) : ∀ s ∈ l, s.size ≤ 40 := by
  intro s hs
  have := ((names_iff l).1 h).2.2.2 s hs
  unfold isNameB at this
  simp only [Bool.and_eq_true, decide_eq_true_eq] at this
  exact this.2.2

set_option maxRecDepth 100000 in
set_option maxHeartbeats 2000000 in
theorem Print_any (set : Int) (A : Option Addr) (len cap : Nat) (l : List ByteArray) (B : Nat) (z : Value) (m : Int) (w : World) (hE : CEnv w B z m) (hB : B ≤ w.heap.size) (hr : Rds w w.heap.size 1 A len (strCells l)) (hlen : len ≤ 1000) (hz : ∀ s ∈ l, s.size ≤ maxLen) :
    Calls Tryd.prog 23 #[.int .i64 set, .slice A len cap] w (Freed w (.tuple #[.string (PrintB set l).1, .int .i64 (PrintB set l).2])) := by
  obtain rfl := hr.str_len
  by_cases hn : namesB l = true
  · have ho := open_names A l.length cap l w hr hlen hz hn
    have h40 := name_40 hn
    have HE := hide hE
    have HR := hide hr
    by_cases hR : rightB set l.length = true
    · have hPB : PrintB set l = (printB set l, 0) := by simp [PrintB, hn, hR]
      rw [hPB]
      have hRC := fun W => right_any set (l.length : Int) W
      rw [hR] at hRC
      have HPR := hide (fun g mp W h1 h2 => print_any g mp A l.length cap l set W h1 h2 hR h40)
      generalize printB set l = pb at *
      clear hPB hn hR hE hr h40
      go_enter Tryd.func23, Tryd.ntmps23
      go_wp2_with fail
      refine ho.mono ?_
      rintro e w1 ⟨g, b, rfl, hg1, hb1, hk, -, hbw⟩
      clear ho
      have HK := hide hk
      clear hk
      go_wp2_with fail
      refine (hRC w1).mono ?_
      rintro e _ ⟨rfl, rfl⟩
      clear hRC
      go_wp2_with fail
      refine (HPR.out g _ _ HK.out ((HR.out.below hbw).more hbw.size)).mono ?_
      rintro e w2 ⟨rfl, hb2⟩
      go_wp2
      go_ret2
      exact ⟨rfl, hbw.trans (hb2.mono hbw.size)⟩
    · have hPB : PrintB set l = (⟨#[]⟩, 70) := by simp [PrintB, hn, hR]
      rw [hPB]
      rw [Bool.not_eq_true] at hR
      have hRC := fun W => right_any set (l.length : Int) W
      rw [hR] at hRC
      clear hPB hn hR hE hr h40
      go_enter Tryd.func23, Tryd.ntmps23
      go_wp2_with fail
      refine ho.mono ?_
      rintro e w1 ⟨g, b, rfl, hg1, hb1, -, -, hbw⟩
      clear ho
      have E1 := HE.out.below (hbw.mono hB)
      have hP := E1.hP
      go_wp2_with fail
      refine (hRC w1).mono ?_
      rintro e _ ⟨rfl, rfl⟩
      clear hRC
      go_wp2_with fail
      refine (told_errV 70 B z m w1 E1).mono ?_
      rintro e w2 ⟨rfl, hb2⟩
      go_wp2
      go_ret2
      exact ⟨rfl, hbw.trans (hb2.mono hbw.size)⟩
  · have hPB : PrintB set l = (⟨#[]⟩, 2) := by simp [PrintB, hn]
    rw [hPB]
    rw [Bool.not_eq_true] at hn
    have ho := open_not A l.length cap l B z m w hE hB hr hlen hz hn
    have HE := hide hE
    clear hPB hn hE hr
    go_enter Tryd.func23, Tryd.ntmps23
    go_wp2_with fail
    refine ho.mono ?_
    rintro e w1 ⟨rfl, hbw⟩
    clear ho
    have E1 := HE.out.below (hbw.mono hB)
    have hT := told_errV 2 B z m w1 E1
    rw [show errV z 2 = .iface 53 (.agg #[.int .i64 2, .iface 143 z]) from rfl] at *
    go_wp2_with fail
    refine hT.mono ?_
    rintro e w2 ⟨rfl, hb2⟩
    go_wp2
    go_ret2
    exact ⟨rfl, hbw.trans (hb2.mono hbw.size)⟩
end Go.Proofs.YtigkphjgidbppaaDoor
