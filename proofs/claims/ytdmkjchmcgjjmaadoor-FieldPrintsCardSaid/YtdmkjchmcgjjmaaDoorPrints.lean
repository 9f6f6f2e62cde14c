/- The walk of the law FieldPrints. Conditions: the packages' variables hold what they hold; the slices read as records. -/
import Derived.Test.YtdmkjchmcgjjmaaDoorShown
import Derived.Test.YtdmkjchmcgjjmaaDoorFew
import Derived.Test.YtdmkjchmcgjjmaaDoorRefPrint
import Derived.Test.YtdmkjchmcgjjmaaDoorRefSame
namespace Go.Proofs.YtdmkjchmcgjjmaaDoor
open Go Go.RowKit

theorem few_fs (fs : List ByteArray) : (fldS (fewF fs)).length ≤ 1342 := by
  have h : ∀ L : List ByteArray, (fldS (L.map cut60)).length ≤ 61 * L.length := by
    intro L
    induction L with
    | nil => exact Nat.le_refl _
    | cons x r ih =>
      rw [List.map_cons, fldS_cons, List.length_append, List.length_cons, List.length_cons]
      have e : (cut60 x).data.toList.length = (cut60 x).size := rfl
      have h2 : (cut60 x).size ≤ 60 := by unfold cut60; rw [ByteArray.size_extract]; omega
      omega
  have h1 := h (fs.take 22)
  rw [List.length_take] at h1
  unfold fewF
  omega
theorem few_print : ∀ l : List Rci, (printS (l.map fewR)).length ≤ 1400 * l.length
  | [] => Nat.le_refl _
  | x :: r => by
    have ih := few_print r
    have e : printS ((x :: r).map fewR) = recS (fewR x) ++ printS (r.map fewR) := rfl
    have h1 := codeS_len x.2.1
    have h2 := codeS_len x.2.2.1
    have h3 := few_fs x.2.2.2
    rw [e, List.length_append, List.length_cons]
    have h4 : (recS (fewR x)).length ≤ 1400 := by
      unfold recS numS fewR
      dsimp only
      rw [List.length_append, List.length_append]
      split
      · simp only [List.length_cons, List.length_nil]; omega
      · rw [List.length_append]
        simp only [List.length_cons, List.length_nil]; omega
    omega
theorem fewL_print (l : List Rci) : (printS (fewL l)).length ≤ 1000000 := by
  have h := few_print (l.take 40)
  rw [List.length_take] at h
  unfold fewL
  omega
def IntOk (x : RZ) : Prop := (-9223372036854775808 ≤ x.a ∧ x.a ≤ 9223372036854775807) ∧ (-9223372036854775808 ≤ x.b ∧ x.b ≤ 9223372036854775807)
theorem few_int {X Y : List RZ} (h : Y.map RZ.rc = fewL (X.map RZ.rc)) (hx : ∀ x ∈ X, IntOk x) : ∀ y ∈ Y, IntOk y := fun y hy => by
  have h1 : y.rc ∈ Y.map RZ.rc := List.mem_map_of_mem hy
  rw [h] at h1
  obtain ⟨r, hr, e⟩ := List.mem_map.1 h1
  have hr2 := List.mem_of_mem_take hr
  obtain ⟨x, hxm, e2⟩ := List.mem_map.1 hr2
  have e3 : y.a = x.a := by
    have := congrArg (fun z : Rci => z.2.1) e
    rw [← e2] at this
    exact this.symm
  have e4 : y.b = x.b := by
    have := congrArg (fun z : Rci => z.2.2.1) e
    rw [← e2] at this
    exact this.symm
  have := hx x hxm
  unfold IntOk at this ⊢
  rw [e3, e4]
  exact this

set_option maxRecDepth 100000 in
set_option maxHeartbeats 4000000 in
theorem prints_any (A : Option Addr) (n c : Nat) (X : List RZ) (A' : Option Addr) (n' c' : Nat) (Y : List RZ) (B : Nat) (m : Int) (w : World) (hE : FEnv w B m) (hB : B ≤ w.heap.size)
    (hr : Rds w w.heap.size 4 A n (zCells X)) (hf : Zflds w w.heap.size X) (hz : ∀ x ∈ X, ∀ f ∈ x.fs, ByteArray.size f ≤ 9223372036854775807) (hi : ∀ x ∈ X, IntOk x)
    (hr' : Rds w w.heap.size 4 A' n' (zCells Y)) (hf' : Zflds w w.heap.size Y) (hz' : ∀ x ∈ Y, ∀ f ∈ x.fs, ByteArray.size f ≤ 9223372036854775807) :
    Calls Tryd.prog 6 #[.slice A n c, .slice A' n' c'] w (Freed w (.bool true)) := by
  have hsh := shown_any B m w hE hB
  clear hE hB
  go_enter Tryd.func6, Tryd.ntmps6
  go_wp2_with fail
  refine hsh.mono ?_
  rintro e w1 ⟨rfl, b1⟩
  clear hsh
  have f1 : Zflds w1 w1.heap.size X := fun x hx => ((hf x hx).below b1).more b1.size
  have f1' : Zflds w1 w1.heap.size Y := fun x hx => ((hf' x hx).below b1).more b1.size
  have r1' := (hr'.below b1).more b1.size
  have hw1 := few_any A n c X w1 ((hr.below b1).more b1.size) f1 hz
  clear hr hf hr' hf'
  go_wp2_with fail
  refine hw1.mono ?_
  rintro e w2 ⟨A2, c2, X2, rfl, hX2, r2, g2, b2⟩
  clear hw1 f1 hz
  have C2 := hide (b1.trans (b2.mono b1.size))
  have hw2 := few_any A' n' c' Y w2 ((r1'.below b2).more b2.size) (fun x hx => ((f1' x hx).below b2).more b2.size) hz'
  clear f1' r1' hz'
  go_wp2_with fail
  refine hw2.mono ?_
  rintro e w3 ⟨A3, c3, X3, rfl, hX3, r3, g3, b3⟩
  clear hw2
  have C3 := hide (C2.out.trans (b3.mono C2.out.size))
  have r23 := (r2.below b3).more b3.size
  have g23 : Zflds w3 w3.heap.size X2 := fun x hx => ((g2 x hx).below b3).more b3.size
  have HI := hide (few_int hX2 hi)
  have HPL := hide (show (printS (X2.map RZ.rc)).length ≤ 1000000 by rw [hX2]; exact fewL_print _)
  have hp1 := Print_any A2 X2.length c2 X2 w3 r23 (fun x hx => ⟨g23 x hx, HI.out x hx⟩) HPL.out
  have R2 := hide r23
  have G2 := hide g23
  have R3 := hide r3
  have G3 := hide g3
  clear hX2 hX3 r2 g2 r23 g23 r3 g3 hi b1 b2 b3 C2
  go_wp2_with fail
  refine hp1.mono ?_
  rintro e w4 ⟨rfl, b4⟩
  clear hp1
  have C4 := hide (C3.out.trans (b4.mono C3.out.size))
  have R24 := hide ((R2.out.below b4).more b4.size)
  have R34 := hide ((R3.out.below b4).more b4.size)
  have G24 := hide (show Zflds w4 w4.heap.size X2 from fun x hx => ((G2.out x hx).below b4).more b4.size)
  have G34 := hide (show Zflds w4 w4.heap.size X3 from fun x hx => ((G3.out x hx).below b4).more b4.size)
  have hp2 := refPrint_any A2 X2.length c2 X2 w4 R24.out (fun x hx => ⟨G24.out x hx, HI.out x hx⟩) HPL.out
  clear R2 R3 G2 G3 C3 b4 HPL
  generalize printB (X2.map RZ.rc) = pb at *
  go_wp2_with fail
  refine hp2.mono ?_
  rintro e _ ⟨rfl, q, rfl⟩
  clear hp2
  have hs1 := same_any A2 A3 X2.length c2 X3.length c3 X2 X3 (w4.drewN q) R24.out R34.out G24.out G34.out
  have C5 := hide (below_drewN C4.out q)
  have R25 := hide (show Rds (w4.drewN q) (w4.drewN q).heap.size 4 A2 X2.length (zCells X2) from R24.out)
  have R35 := hide (show Rds (w4.drewN q) (w4.drewN q).heap.size 4 A3 X3.length (zCells X3) from R34.out)
  have G25 := hide (show Zflds (w4.drewN q) (w4.drewN q).heap.size X2 from G24.out)
  have G35 := hide (show Zflds (w4.drewN q) (w4.drewN q).heap.size X3 from G34.out)
  clear R24 R34 G24 G34 C4
  generalize w4.drewN q = w5 at *
  have hs2 := fun W h1 h2 h3 h4 => refSame_any A2 A3 X2.length c2 X3.length c3 X2 X3 W h1 h2 h3 h4
  generalize decide (X2.map RZ.rc = X3.map RZ.rc) = d at *
  go_wp2_with fail
  refine hs1.mono ?_
  rintro e w6 ⟨rfl, b6⟩
  clear hs1
  have C6 := hide (C5.out.trans (b6.mono C5.out.size))
  have R26 := hide ((R25.out.below b6).more b6.size)
  have R36 := hide ((R35.out.below b6).more b6.size)
  have G26 := hide (show Zflds w6 w6.heap.size X2 from fun x hx => ((G25.out x hx).below b6).more b6.size)
  have G36 := hide (show Zflds w6 w6.heap.size X3 from fun x hx => ((G35.out x hx).below b6).more b6.size)
  have hs3 := hs2 w6 R26.out R36.out G26.out G36.out
  clear hs2 R25 R35 G25 G35 C5 b6
  go_wp2_with fail
  refine hs3.mono ?_
  rintro e _ ⟨rfl, q, rfl⟩
  clear hs3
  have hs4 := same_any A2 A2 X2.length c2 X2.length c2 X2 X2 (w6.drewN q) R26.out R26.out G26.out G26.out
  rw [decide_eq_true rfl] at hs4
  have C7 := hide (below_drewN C6.out q)
  clear R26 R36 G26 G36 C6
  generalize w6.drewN q = w7 at *
  go_wp2_with fail
  refine hs4.mono ?_
  rintro e w8 ⟨rfl, b8⟩
  have C8 := hide (C7.out.trans (b8.mono C7.out.size))
  clear hs4
  go_wp2_with fail
  go_ret
  exact ⟨rfl, C8.out⟩
end Go.Proofs.YtdmkjchmcgjjmaaDoor
