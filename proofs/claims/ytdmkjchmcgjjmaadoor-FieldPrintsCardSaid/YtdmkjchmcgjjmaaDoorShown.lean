/- The law's shown answers true. Conditions: the package's variables hold what they hold. -/
import Derived.Test.YtdmkjchmcgjjmaaDoorShownL
import Derived.Test.YtdmkjchmcgjjmaaDoorEq
namespace Go.Proofs.YtdmkjchmcgjjmaaDoor
open Go Go.RowKit

/-- no record -/
theorem own0 {w : World} {base e size : Nat} {v : Value} (h : w.ownsRow base e size v 0 []) : ∃ A c, v = .slice A 0 c := by
  rcases h.2 with ⟨rfl, _⟩ | ⟨g, cap, cur, rfl, _⟩
  · exact ⟨none, 0, rfl⟩
  · exact ⟨_, _, rfl⟩

set_option maxRecDepth 100000 in
set_option maxHeartbeats 4000000 in
theorem shown_any (B : Nat) (m : Int) (w : World) (hE : FEnv w B m) (hB : B ≤ w.heap.size) : Calls Tryd.prog 10 #[] w (Freed w (.bool true)) := by
  have hLi := Line_any ⟨#[48, 48, 52, 49, 46, 46, 48, 48, 53, 65, 32, 59, 32, 85, 112, 112, 101, 114, 32, 35, 32, 65, 32, 116, 111, 32, 90]⟩ B m w hE hB (by decide)
  have hF1 := fun W h1 h2 => Parse_any ⟨#[10, 35, 32, 110, 111, 10, 49, 70, 54, 48, 48, 32, 59, 32, 97, 32, 59, 32, 98, 10, 120]⟩ B m W h1 h2 (by decide)
  have hF2 := fun W h1 h2 => Parse_any ⟨#[48, 48, 52, 49, 59, 97, 10, 48, 48, 52, 50, 46, 46, 48, 48, 52, 49, 59, 98]⟩ B m W h1 h2 (by decide)
  have hC := fun W h1 h2 => Codes_any ⟨#[48, 48, 53, 51, 32, 48, 48, 55, 51]⟩ B m W h1 h2 (by decide)
  rw [sh_line] at hLi
  rw [sh_file] at hF1
  rw [sh_file2] at hF2
  rw [sh_codes] at hC
  have HF1 := hide hF1
  have HF2 := hide hF2
  have HC := hide hC
  have HP := hide (fun A n c X W h1 h2 h3 => Print_any A n c X W h1 h2 h3)
  have HI := hide (fun A A' n c n' c' l mm W h1 h2 => ints_any A A' n c n' c' l mm W h1 h2)
  clear hF1 hF2 hC
  go_enter Tryd.func10, Tryd.ntmps10
  go_wp2_with fail
  refine hLi.mono ?_
  rintro e w1 ⟨a, b, fs, A, c, rfl, he, -, -, hc1, hr1, b1⟩
  clear hLi
  simp only [Option.getD_some, Prod.mk.injEq] at he
  obtain ⟨rfl, rfl, rfl⟩ := he
  obtain ⟨g1, hg1⟩ : ∃ g1 : Nat, g1 = w1.heap.size := ⟨_, rfl⟩
  go_wp2_with fail
  obtain ⟨W1, hW1⟩ : ∃ W1 : World, W1 = w1.alloc (.cells #[.int .i64 0, .int .i64 65, .int .i64 90, .slice A 1 c] 31) := ⟨_, rfl⟩
  have kb : Blk W1 g1 31 #[.int .i64 0, .int .i64 65, .int .i64 90, .slice A 1 c] := by rw [hW1, hg1]; exact Blk.new _ _ _
  have c1 : Below w.heap.size w W1 := by rw [hW1]; exact b1.alloc b1.size _
  have r1 : Rds W1 W1.heap.size 1 A 1 (strCells [⟨#[85, 112, 112, 101, 114]⟩]) := by rw [hW1]; exact hr1.alloc (Nat.le_refl _) _
  rw [← hW1, ← hg1]
  clear hW1 hg1 hr1 b1
  have E1 := hE.below (c1.mono hB)
  have hB1 := Nat.le_trans hB c1.size
  refine (HF1.out W1 E1 hB1).mono ?_
  rintro e w2 ⟨X, v, rfl, hX, ho, -, b2⟩
  obtain rfl : X = [] := by simpa using hX
  obtain ⟨A2, k2, rfl⟩ := own0 ho
  have c2 := c1.trans (b2.mono c1.size)
  have kb2 := kb.below b2 kb.lt
  have r2 := (r1.below b2).more b2.size
  have E2 := E1.below (b2.mono hB1)
  have hB2 := Nat.le_trans hB1 b2.size
  clear HF1 hX ho kb r1
  dsimp only
  go_wp2_with fail
  refine (HC.out w2 E2 hB2).mono ?_
  rintro e w3 ⟨v3, rfl, h3, b3⟩
  dsimp only [Option.getD_some, Option.isSome_some] at h3
  obtain ⟨A3, k3, rfl, hk3, r3⟩ := own_rds h3 (Nat.le_refl _) (by decide)
  have c3 := c2.trans (b3.mono c2.size)
  have kb3 := kb2.below b3 kb2.lt
  have rr3 := (r2.below b3).more b3.size
  have E3 := E2.below (b3.mono hB2)
  have hB3 := Nat.le_trans hB2 b3.size
  clear HC h3 kb2 r2
  dsimp only [Option.isSome_some]
  go_wp2_with fail
  refine (HF2.out w3 E3 hB3).mono ?_
  rintro e w4 ⟨X4, v4, rfl, hX4, ho4, -, b4⟩
  obtain rfl : X4 = [] := by simpa using hX4
  obtain ⟨A4, k4, rfl⟩ := own0 ho4
  have c4 := c3.trans (b4.mono c3.size)
  have kb4 := kb3.below b4 kb3.lt
  have rr4 := (rr3.below b4).more b4.size
  have r4 := (r3.below b4).more b4.size
  clear HF2 hX4 ho4 kb3 rr3 r3 hE
  dsimp only
  have d0 := kb4.cell 0
  have d1 := kb4.cell 1
  have d2 := kb4.cell 2
  have d3 := kb4.cell 3
  simp only [List.getElem?_toArray, List.getElem?_cons_zero, List.getElem?_cons_succ] at d0 d1 d2 d3
  have hlt4 := kb4.lt
  obtain ⟨b5, o5, rfl, hb5, hs5⟩ := rr4.str (k := 0) (by decide)
  have hs6 : w4.cell? ⟨b5, o5, none⟩ = some (.string ⟨#[85, 112, 112, 101, 114]⟩) := hs5
  have e1 : ((⟨#[85, 112, 112, 101, 114]⟩ : ByteArray).toList == [85, 112, 112, 101, 114]) = true := list_eq_true rfl
  have RR4 := hide rr4
  have R4 := hide r4
  have KB4 := hide kb4
  clear rr4 r4 kb4 hs5
  go_wp2_with fail
  have c5 := c4.alloc c4.size (.cells #[.int .i64 83, .int .i64 115] 3)
  have r5 : Rds (w4.alloc (.cells #[.int .i64 83, .int .i64 115] 3)) (w4.alloc (.cells #[.int .i64 83, .int .i64 115] 3)).heap.size 1 (some ⟨w4.heap.size, 0, none⟩) 2 (intCells [83, 115]) := by
    refine ⟨rfl, by decide, fun _ => ⟨_, _, rfl, by simp, fun j u hu => ?_⟩⟩
    rw [Nat.zero_add, cell_new, List.getElem?_toArray]
    exact hu
  have ra5 := R4.out.alloc (Nat.le_refl _) (.cells #[.int .i64 83, .int .i64 115] 3)
  have rf5 := RR4.out.alloc (Nat.le_refl _) (.cells #[.int .i64 83, .int .i64 115] 3)
  have kb5 := KB4.out.alloc (.cells #[.int .i64 83, .int .i64 115] 3)
  refine (HI.out A3 _ 2 k3 2 2 _ _ _ ra5 r5).mono ?_
  rintro e w6 ⟨rfl, q, rfl⟩
  have c6 := below_drewN c5 q
  have rf6 := rf5.drewN q
  have kb6 := kb5.drewN q
  clear HI r5 ra5 rf5 kb5 RR4 R4 KB4 d0 d1 d2 d3 hlt4 hs6 hb5 c5
  have hsz6 : ((w4.alloc (.cells #[.int .i64 83, .int .i64 115] 3)).drewN q).heap.size = (w4.alloc (.cells #[.int .i64 83, .int .i64 115] 3)).heap.size := rfl
  rw [← hsz6] at rf6
  clear hsz6
  generalize (w4.alloc (.cells #[.int .i64 83, .int .i64 115] 3)).drewN q = w6 at *
  have d0 := kb6.cell 0
  have d1 := kb6.cell 1
  have d2 := kb6.cell 2
  have d3 := kb6.cell 3
  simp only [List.getElem?_toArray, List.getElem?_cons_zero, List.getElem?_cons_succ] at d0 d1 d2 d3
  have hlt6 := kb6.lt
  have RF6 := hide rf6
  have KB6 := hide kb6
  clear rf6 kb6
  dsimp only
  go_wp2_with fail
  obtain ⟨W7, hW7⟩ : ∃ W7 : World, W7 = w6.alloc (.cells #[.int .i64 0, .int .i64 65, .int .i64 90, .slice (some ⟨b5, o5, none⟩) 1 c] 31) := ⟨_, rfl⟩
  have c7 : Below w.heap.size w W7 := by rw [hW7]; exact c6.alloc c6.size _
  have hr7 : Rds W7 W7.heap.size 4 (some ⟨w6.heap.size, 0, none⟩) 1 (zCells [⟨0, 65, 90, [⟨#[85, 112, 112, 101, 114]⟩], some ⟨b5, o5, none⟩, c⟩]) := by
    rw [hW7]
    refine ⟨rfl, by decide, fun _ => ⟨_, _, rfl, by simp, fun j u hu => ?_⟩⟩
    rw [Nat.zero_add, cell_new, List.getElem?_toArray]
    exact hu
  have hf7 : ∀ x ∈ ([⟨0, 65, 90, [⟨#[85, 112, 112, 101, 114]⟩], some ⟨b5, o5, none⟩, c⟩] : List RZ), ZOk W7 W7.heap.size x := by
    intro x hx
    rw [List.mem_singleton] at hx
    subst hx
    refine ⟨?_, (by decide : (-9223372036854775808 : Int) ≤ 65 ∧ (65 : Int) ≤ 9223372036854775807), (by decide : (-9223372036854775808 : Int) ≤ 90 ∧ (90 : Int) ≤ 9223372036854775807)⟩
    rw [hW7]
    exact RF6.out.alloc (Nat.le_refl _) _
  rw [← hW7]
  clear hW7
  have hpr := HP.out _ _ 1 _ W7 hr7 hf7 (sh_print_len)
  clear HP hr7 hf7
  rw [show List.map RZ.rc [(⟨0, 65, 90, [⟨#[85, 112, 112, 101, 114]⟩], some ⟨b5, o5, none⟩, c⟩ : RZ)] = [(0, 65, 90, [⟨#[85, 112, 112, 101, 114]⟩])] from rfl, sh_print] at hpr
  refine hpr.mono ?_
  rintro e w8 ⟨rfl, b8⟩
  have c8 := c7.trans (b8.mono c7.size)
  have e2 : ((⟨#[48, 48, 52, 49, 46, 46, 48, 48, 53, 65, 59, 85, 112, 112, 101, 114, 10]⟩ : ByteArray).toList == [48, 48, 52, 49, 46, 46, 48, 48, 53, 65, 59, 85, 112, 112, 101, 114, 10]) = true := list_eq_true rfl
  clear hpr
  dsimp only
  go_wp2_with fail
  go_ret
  exact ⟨rfl, c8⟩
end Go.Proofs.YtdmkjchmcgjjmaaDoor
