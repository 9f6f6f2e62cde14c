/- The law's shown answers true. Conditions: the package's variables hold what they hold. -/
import Derived.Test.YtigkphjgidbppaaDoorShownL
namespace Go.Proofs.YtigkphjgidbppaaDoor
open Go Go.RowKit

set_option maxRecDepth 100000 in
set_option maxHeartbeats 4000000 in
theorem shown_any (B : Nat) (z : Value) (m : Int) (w : World) (hE : CEnv w B z m) (hB : B ≤ w.heap.size) : Calls Tryd.prog 10 #[] w (Freed w (.bool true)) := by
  have HE := hide hE
  have hz : ∀ s ∈ n4, s.size ≤ maxLen := fun s hs => Nat.le_trans (name_40 n4_names s hs) (by decide)
  have hP := fun set W h1 h2 h3 => Print_any set (some ⟨w.heap.size, 0, none⟩) 4 4 n4 B z m W h1 h2 h3 (by decide) hz
  have hQ := fun s W h1 h2 h3 h4 => Parse_any s (some ⟨w.heap.size, 0, none⟩) 4 4 n4 B z m W h1 h2 h3 (by decide) hz h4
  have HP5 := hide (fun W h1 h2 h3 => hP 5 W h1 h2 h3)
  have HP7 := hide (fun W h1 h2 h3 => hP 7 W h1 h2 h3)
  have HQ6 := hide (fun W h1 h2 h3 => hQ ⟨#[91, 94, 68, 32, 65, 93]⟩ W h1 h2 h3 (by decide))
  have HQ70 := hide (fun W h1 h2 h3 => hQ ⟨#[91, 65, 32, 65, 93]⟩ W h1 h2 h3 (by decide))
  rw [sh_P5] at HP5
  rw [sh_P7] at HP7
  rw [sh_Q6] at HQ6
  rw [sh_Q70] at HQ70
  have HH := hide (fun W => has_any 5 2 W)
  have HN := hide (fun W => not_any 5 4 W)
  rw [sh_has] at HH
  rw [sh_not] at HN
  have HO := hide (fun A n c W h => of_any A n c [2, 0, 2] W h)
  rw [sh_of] at HO
  have e1 : ((⟨#[91, 65, 32, 67, 93]⟩ : ByteArray).toList == [91, 65, 32, 67, 93]) = true := list_eq_true rfl
  have e2 : ((⟨#[91, 94, 68, 93]⟩ : ByteArray).toList == [91, 94, 68, 93]) = true := list_eq_true rfl
  clear hE hP hQ hz
  go_enter Tryd.func10, Tryd.ntmps10
  go_wp2_with fail
  obtain ⟨W0, hW0⟩ : ∃ W0 : World, W0 = w.alloc (.cells #[.string ⟨#[65]⟩, .string ⟨#[66]⟩, .string ⟨#[67]⟩, .string ⟨#[68]⟩] 9) := ⟨_, rfl⟩
  have b0 : Below w.heap.size w W0 := by rw [hW0]; exact (Below.refl _ _).alloc (Nat.le_refl _) _
  have hr0 : Rds W0 W0.heap.size 1 (some ⟨w.heap.size, 0, none⟩) 4 (strCells n4) := by
    rw [hW0]
    refine ⟨rfl, by decide, fun _ => ⟨_, _, rfl, by simp, fun j u hu => ?_⟩⟩
    rw [Nat.zero_add, cell_new, List.getElem?_toArray]
    exact hu
  have E0 := HE.out.below (b0.mono hB)
  rw [← hW0]
  clear hW0
  have hB0 := Nat.le_trans hB b0.size
  refine (HP5.out W0 E0 hB0 hr0).mono ?_
  rintro e w1 ⟨rfl, b1⟩
  have E1 := E0.below (b1.mono hB0)
  have hB1 := Nat.le_trans hB0 b1.size
  have hr1 := (hr0.below b1).more b1.size
  have c1 := b0.trans (b1.mono b0.size)
  dsimp only
  go_wp2_with fail
  refine (HP7.out w1 E1 hB1 hr1).mono ?_
  rintro e w2 ⟨rfl, b2⟩
  have E2 := E1.below (b2.mono hB1)
  have hB2 := Nat.le_trans hB1 b2.size
  have hr2 := (hr1.below b2).more b2.size
  have c2 := c1.trans (b2.mono c1.size)
  dsimp only
  go_wp2_with fail
  refine (HQ6.out w2 E2 hB2 hr2).mono ?_
  rintro e w3 ⟨rfl, b3⟩
  have E3 := E2.below (b3.mono hB2)
  have hB3 := Nat.le_trans hB2 b3.size
  have hr3 := (hr2.below b3).more b3.size
  have c3 := c2.trans (b3.mono c2.size)
  dsimp only
  go_wp2_with fail
  refine (HQ70.out w3 E3 hB3 hr3).mono ?_
  rintro e w4 ⟨rfl, b4⟩
  have c4 := c3.trans (b4.mono c3.size)
  dsimp only
  clear HP5 HP7 HQ6 HQ70 E0 E1 E2 E3 hr0 hr1 hr2 hr3
  go_wp2_with fail
  have c5 := c4.alloc c4.size (.cells #[.int .i64 2, .int .i64 0, .int .i64 2] 3)
  have hr5 : Rds (w4.alloc (.cells #[.int .i64 2, .int .i64 0, .int .i64 2] 3)) (w4.alloc (.cells #[.int .i64 2, .int .i64 0, .int .i64 2] 3)).heap.size 1 (some ⟨w4.heap.size, 0, none⟩) 3 (intCells [2, 0, 2]) := by
    refine ⟨rfl, by decide, fun _ => ⟨_, _, rfl, by simp, fun j u hu => ?_⟩⟩
    rw [Nat.zero_add, cell_new, List.getElem?_toArray]
    exact hu
  refine (HO.out _ 3 3 _ hr5).mono ?_
  rintro e w6 ⟨rfl, q, rfl⟩
  have c6 := below_drewN c5 q
  generalize (w4.alloc (.cells #[.int .i64 2, .int .i64 0, .int .i64 2] 3)).drewN q = w6 at *
  dsimp only
  go_wp2_with fail
  refine (HH.out w6).mono ?_
  rintro e _ ⟨rfl, rfl⟩
  go_wp2_with fail
  refine (HN.out w6).mono ?_
  rintro e _ ⟨rfl, rfl⟩
  go_wp2_with fail
  go_ret
  exact ⟨rfl, c6⟩
end Go.Proofs.YtigkphjgidbppaaDoor
