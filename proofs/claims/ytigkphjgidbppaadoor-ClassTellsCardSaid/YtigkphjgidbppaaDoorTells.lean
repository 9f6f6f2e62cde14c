/- The walk of ClassTells: the program's answers are the reference's, for whatever is asked. Conditions: the list reads as its numbers; the law's shown answers true. -/
import Derived.Test.YtigkphjgidbppaaDoorRefC
import Derived.Test.YtigkphjgidbppaaDoorEq
import Derived.Test.YtigkphjgidbppaaDoorSets
namespace Go.Proofs.YtigkphjgidbppaaDoor
open Go Go.RowKit

set_option maxRecDepth 100000 in
set_option maxHeartbeats 4000000 in
theorem classTells_any (set n c : Int) (A : Option Addr) (len cp : Nat) (l : List Int) (w : World) (hcp : len ≤ cp) (hr : Rds w w.heap.size 1 A len (intCells l)) (hsh : Calls Tryd.prog 10 #[] w (Freed w (.bool true))) :
    Calls Tryd.prog 6 #[.int .i64 set, .int .i64 n, .int .i64 c, .slice A len cp] w (Freed w (.bool true)) := by
  have hrN := hr.int_take 50
  have hmx := hr.2.1
  obtain ⟨L, hL⟩ : ∃ L, L = l.take 50 := ⟨_, rfl⟩
  rw [← hL] at hrN
  have hA : 0 < len → ∃ b o, A = some ⟨b, o, none⟩ := fun h => by obtain ⟨b, o, e, _⟩ := hr.2.2 h; exact ⟨b, o, e⟩
  have HH := hide (fun w' (hb : Below w.heap.size w w') => (hrN.below hb).more hb.size)
  have HRT := hide (fun W => right_any set n W)
  have HRR := hide (fun W => refRight_any set n W)
  have HHS := hide (fun W => has_any set c W)
  have HHR := hide (fun W => refHas_any set c W)
  have HNT := hide (fun W => not_any set n W)
  have HNR := hide (fun W => refNot_any set n W)
  have HCL := hide (fun W => Classes_any set W)
  have HCR := hide (fun W => refClasses_any set W)
  generalize rightB set n = rb at *
  generalize hasB set c = hb at *
  generalize notB set n = nb at *
  generalize classesB set = cs at *
  clear hL hr hrN
  go_enter Tryd.func6, Tryd.ntmps6
  go_wp2_with fail
  refine hsh.mono ?_
  rintro e w1 ⟨rfl, hb1⟩
  go_upto_region 2 with fail
  go_cut [3] from 15 to 19 (fun s0 wx => s0 = .slice A (min len 50) cp ∧ wx = w1)
  case first =>
    rcases Nat.lt_or_ge 50 len with hn | hn
    · have e : min len 50 = 50 := by omega
      obtain ⟨b, o, rfl⟩ := hA (by omega)
      go_wp2_with fail
      go_meet
      exact ⟨by rw [e], rfl⟩
    · have e : min len 50 = len := by omega
      rcases Nat.eq_zero_or_pos len with h0 | h0
      · subst h0
        go_wp2_with fail
        go_meet
        exact ⟨rfl, rfl⟩
      · obtain ⟨b, o, rfl⟩ := hA h0
        go_wp2_with fail
        go_meet
        exact ⟨by rw [e], rfl⟩
  case rest =>
    obtain ⟨rfl, rfl⟩ := hcut
    clear hA hcp hmx
    generalize min len 50 = N at *
    have HO := hide (fun W h => of_any A N cp L W h)
    have HOR := hide (fun W h => refOf_any A N cp L W h)
    generalize ofB L = ob at *
    obtain ⟨ob1, ob2⟩ := ob
    dsimp only at HO HOR
    go_wp2_with fail
    refine (HO.out wc (HH.out wc hb1)).mono ?_
    rintro e w2 ⟨rfl, q2, rfl⟩
    have hb2 := below_drewN hb1 q2
    generalize wc.drewN q2 = w2 at *
    go_wp2_with fail
    refine (HOR.out w2 (HH.out w2 hb2)).mono ?_
    rintro e w3 ⟨rfl, q3, rfl⟩
    have hb3 := below_drewN hb2 q3
    generalize w2.drewN q3 = w3 at *
    clear HO HOR HH hb1 hb2
    go_wp2_with fail
    refine (HRT.out w3).mono ?_
    rintro e _ ⟨rfl, rfl⟩
    go_wp2_with fail
    refine (HRR.out w3).mono ?_
    rintro e _ ⟨rfl, rfl⟩
    go_wp2_with fail
    refine (HHS.out w3).mono ?_
    rintro e _ ⟨rfl, rfl⟩
    go_wp2_with fail
    refine (HHR.out w3).mono ?_
    rintro e _ ⟨rfl, rfl⟩
    go_wp2_with fail
    refine (HCL.out w3).mono ?_
    rintro e w4 ⟨A4, c4, rfl, -, h4, b4⟩
    have hb4 := hb3.trans (b4.mono hb3.size)
    go_wp2_with fail
    refine (HCR.out w4).mono ?_
    rintro e w5 ⟨A5, c5, rfl, -, h5, b5⟩
    have hb5 := hb4.trans (b5.mono hb4.size)
    have h4' := (h4.below b5).more b5.size
    have hI := ints_any A4 A5 _ c4 _ c5 cs cs w5 h4' h5
    rw [decide_eq_true (rfl : cs = cs)] at hI
    have HI := hide hI
    clear h4 h5 h4' b4 b5 hI
    go_wp2_with fail
    refine HI.out.mono ?_
    rintro e w6 ⟨rfl, q6, rfl⟩
    have hb6 := below_drewN hb5 q6
    generalize w5.drewN q6 = w6 at *
    go_wp2_with fail
    refine (HNT.out w6).mono ?_
    rintro e _ ⟨rfl, rfl⟩
    go_wp2_with fail
    refine (HNR.out w6).mono ?_
    rintro e _ ⟨rfl, rfl⟩
    go_wp2_with fail
    go_ret
    exact ⟨rfl, hb6⟩
end Go.Proofs.YtigkphjgidbppaaDoor
