/- The reference's Print: it answers as the program's. Conditions: the slice reads as the texts, of moderate sizes. -/
import Derived.Test.YtigkphjgidbppaaDoorRefLi
import Derived.Test.YtigkphjgidbppaaDoorPrintP
namespace Go.Proofs.YtigkphjgidbppaaDoor
open Go Go.RowKit

set_option maxRecDepth 100000 in
set_option maxHeartbeats 4000000 in
theorem refPrint_any (set : Int) (A : Option Addr) (n c : Nat) (l : List ByteArray) (w : World) (hc : n ≤ c) (hr : Rds w w.heap.size 1 A n (strCells l)) (hz : ∀ x ∈ l, x.size ≤ 1000) :
    Calls Tryd.prog 24 #[.int .i64 set, .slice A n c] w (Freed w (.tuple #[.string (PrintB set l).1, .int .i64 (PrintB set l).2])) := by
  obtain rfl := hr.str_len
  have hmx := hr.2.1
  have hna := refNames_any A l.length c l w hc hr hz
  by_cases hn : namesB l = true
  case neg =>
    rw [show PrintB set l = (⟨#[]⟩, 2) by simp [PrintB, hn]]
    rw [Bool.not_eq_true] at hn
    rw [hn] at hna
    go_enter Tryd.func24, Tryd.ntmps24
    go_wp2_with fail
    refine hna.mono ?_
    rintro e w1 ⟨rfl, q, rfl⟩
    go_wp2
    go_ret2
    exact ⟨rfl, drewN_below _ _ _⟩
  rw [hn] at hna
  have h40 := name_40 hn
  have hl32 := ((names_iff l).1 hn).2.1
  by_cases hR : rightB set l.length = true
  case neg =>
    rw [show PrintB set l = (⟨#[]⟩, 70) by simp [PrintB, hn, hR]]
    rw [Bool.not_eq_true] at hR
    have HRT := hide (fun W => refRight_any set (l.length : Int) W)
    rw [hR] at HRT
    clear hn hR
    go_enter Tryd.func24, Tryd.ntmps24
    go_wp2_with fail
    refine hna.mono ?_
    rintro e w1 ⟨rfl, q, rfl⟩
    go_wp2_with fail
    refine (HRT.out _).mono ?_
    rintro e _ ⟨rfl, rfl⟩
    go_wp2
    go_ret2
    exact ⟨rfl, drewN_below _ _ _⟩
  rw [show PrintB set l = (printB set l, 0) by simp [PrintB, hn, hR]]
  have HRT := hide (fun W => refRight_any set (l.length : Int) W)
  rw [hR] at HRT
  have hnot : rightB (notB set l.length) l.length = true := by
    obtain ⟨s, k, rfl, e, h1, h2, h3⟩ := right_nat hR
    rw [e, not_of h1 h2 h3]
    exact right_of h1 h2 (xor_lt h3)
  have HL1 := hide (fun W h => refList_any set A l.length c l W h (right_below hR) h40)
  have HL2 := hide (fun W h => refList_any (notB set l.length) A l.length c l W h (right_below hnot) h40)
  have HCL := hide (fun W => refClasses_any set W)
  have HNT := hide (fun W => refNot_any set (l.length : Int) W)
  have hz1 := list_size set l h40
  have hz2 := list_size (notB set l.length) l h40
  have hcn := cls_len set
  have HP := hide (show printB set l = if (classesB set).length = l.length then ⟨#[46]⟩ else if (classesB set).length = 1 then listB set l else if l.length < 2 * (classesB set).length then ⟨#[91, 94]⟩ ++ listB (notB set l.length) l ++ ⟨#[93]⟩ else ⟨#[91]⟩ ++ listB set l ++ ⟨#[93]⟩ from rfl)
  have HR := hide (fun W (hb : Below w.heap.size w W) => (hr.below hb).more hb.size)
  generalize notB set (l.length : Int) = no at *
  generalize printB set l = pb at *
  generalize listB set l = ls at *
  generalize listB no l = ln at *
  obtain ⟨C, hC⟩ : ∃ C : Nat, C = (classesB set).length := ⟨_, rfl⟩
  have HC := hide hC
  rw [← hC] at HP hcn
  clear hn hR hnot h40 hr hz hC
  go_enter Tryd.func24, Tryd.ntmps24
  go_wp2_with fail
  refine hna.mono ?_
  rintro e w1 ⟨rfl, q, rfl⟩
  have b1 := drewN_below w.heap.size w q
  generalize w.drewN q = w1 at *
  go_wp2_with fail
  refine (HRT.out w1).mono ?_
  rintro e _ ⟨rfl, rfl⟩
  go_wp2_with fail
  refine (HCL.out w1).mono ?_
  rintro e w2 ⟨A2, c2, rfl, -, -, b2⟩
  have b2' := b1.trans (b2.mono b1.size)
  rw [← HC.out]
  have HR2 := hide (HR.out w2 b2')
  clear b2 HR HRT HCL
  by_cases h1 : C = l.length
  · have e1 : ((C : Int) == (l.length : Int)) = true := by rw [h1]; simp
    have HB := hide (HP.out.trans (if_pos h1))
    clear h1
    go_wp2_with fail
    go_ret2
    exact ⟨by rw [HB.out]; rfl, b2'⟩
  · have e1 : ((C : Int) == (l.length : Int)) = false := by rw [beq_eq_false_iff_ne]; omega
    have HB := hide (HP.out.trans (if_neg h1))
    clear h1
    by_cases h2 : C = 1
    · have e2 : ((C : Int) == 1) = true := by rw [h2]; rfl
      have HB2 := hide (HB.out.trans (if_pos h2))
      clear h2
      go_wp2_with fail
      refine (HL1.out w2 HR2.out).mono ?_
      rintro e w9 ⟨rfl, hb9⟩
      go_wp2
      go_ret2
      exact ⟨by rw [HB2.out]; rfl, b2'.trans (hb9.mono b2'.size)⟩
    · have e2 : ((C : Int) == 1) = false := by rw [beq_eq_false_iff_ne]; omega
      have HB2 := hide (HB.out.trans (if_neg h2))
      clear h2
      by_cases h3 : l.length < 2 * C
      · have e3 : (l.length : Int) < 2 * (C : Int) := by omega
        have HB3 := hide (HB2.out.trans (if_pos h3))
        clear h3
        go_wp2_with fail
        refine (HNT.out w2).mono ?_
        rintro e _ ⟨rfl, rfl⟩
        go_wp2_with fail
        refine (HL2.out w2 HR2.out).mono ?_
        rintro e w9 ⟨rfl, hb9⟩
        go_wp2
        go_ret2
        exact ⟨by rw [HB3.out]; rfl, b2'.trans (hb9.mono b2'.size)⟩
      · have e3 : ¬ (l.length : Int) < 2 * (C : Int) := by omega
        have HB3 := hide (HB2.out.trans (if_neg h3))
        clear h3
        go_wp2_with fail
        refine (HL1.out w2 HR2.out).mono ?_
        rintro e w9 ⟨rfl, hb9⟩
        go_wp2
        go_ret2
        exact ⟨by rw [HB3.out]; rfl, b2'.trans (hb9.mono b2'.size)⟩
end Go.Proofs.YtigkphjgidbppaaDoor
