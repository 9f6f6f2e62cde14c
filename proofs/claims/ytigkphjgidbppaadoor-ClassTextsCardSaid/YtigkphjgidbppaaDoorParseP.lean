/- The program's class.Parse. Conditions: the package's variables hold what they hold; the slice reads as the texts. -/
import Derived.Test.YtigkphjgidbppaaDoorParse
namespace Go.Proofs.YtigkphjgidbppaaDoor
open Go Go.RowKit

/-- what Parse answers -/
def ParseB (s : ByteArray) (l : List ByteArray) : Int × Int := if namesB l = true then parseB s l else (0, 2)

set_option maxRecDepth 100000 in
set_option maxHeartbeats 2000000 in
theorem Parse_any (s : ByteArray) (A : Option Addr) (len cap : Nat) (l : List ByteArray) (B : Nat) (z : Value) (m : Int) (w : World) (hE : CEnv w B z m) (hB : B ≤ w.heap.size) (hr : Rds w w.heap.size 1 A len (strCells l)) (hlen : len ≤ 1000) (hz : ∀ s ∈ l, s.size ≤ maxLen) (hs : s.size ≤ 100000) :
    Calls Tryd.prog 25 #[.string s, .slice A len cap] w (Freed w (.tuple #[.int .i64 (ParseB s l).1, .int .i64 (ParseB s l).2])) := by
  obtain rfl := hr.str_len
  have HE := hide hE
  by_cases hn : namesB l = true
  · have ho := open_names A l.length cap l w hr hlen hz hn
    have hp := fun g b W h1 h2 h3 h4 => parse_any g b A l.length cap l s B z m W h1 h2 h3 h4 rfl hn hs
    rw [show ParseB s l = parseB s l by simp [ParseB, hn]]
    have HP := hide hp
    generalize parseB s l = pb at *
    generalize mapTo (upTo l l.length) = D at *
    clear hp hn hE hr hz
    go_enter Tryd.func25, Tryd.ntmps25
    go_wp2_with fail
    refine ho.mono ?_
    rintro e w1 ⟨g, b, rfl, hg1, hb1, hk, hm, hbw⟩
    clear ho
    have HK := hide hk
    have HM := hide hm
    have E1 := hide (HE.out.below (hbw.mono hB))
    clear hk hm
    go_wp2_with fail
    refine (HP.out g b w1 E1.out (Nat.le_trans hB hbw.size) HK.out HM.out).mono ?_
    rintro e w2 ⟨rfl, hb2⟩
    have E2 := hide (E1.out.below (hb2.mono (Nat.le_trans hB hbw.size)))
    have HT := hide (told_errV pb.2 B z m w2 E2.out)
    generalize errV z pb.2 = ev at *
    generalize pb.1 = p1 at *
    generalize pb.2 = p2 at *
    go_wp2_with fail
    refine HT.out.mono ?_
    rintro e w3 ⟨rfl, hb3⟩
    go_wp2
    go_ret2
    exact ⟨rfl, hbw.trans ((hb2.trans (hb3.mono hb2.size)).mono hbw.size)⟩
  · rw [show ParseB s l = (0, 2) by simp [ParseB, hn]]
    rw [Bool.not_eq_true] at hn
    have ho := open_not A l.length cap l B z m w hE hB hr hlen hz hn
    clear hn hE hr
    go_enter Tryd.func25, Tryd.ntmps25
    go_wp2_with fail
    refine ho.mono ?_
    rintro e w1 ⟨rfl, hbw⟩
    clear ho
    have E1 := HE.out.below (hbw.mono hB)
    have hT := told_errV 2 B z m w1 E1
    rw [show errV z 2 = .iface 53 (.agg #[.int .i64 2, .iface 143 z]) from rfl] at *
    go_wp2_with fail
    refine hT.mono ?_
    rintro e w2 ⟨rfl, hb2⟩
    go_wp2
    go_ret2
    exact ⟨rfl, hbw.trans (hb2.mono hbw.size)⟩
end Go.Proofs.YtigkphjgidbppaaDoor
