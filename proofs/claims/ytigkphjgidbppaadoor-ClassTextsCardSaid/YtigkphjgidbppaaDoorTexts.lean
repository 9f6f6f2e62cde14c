/- The walk of the law ClassTexts. Conditions: the package's variables hold what they hold; the slice reads as the texts. -/
import Derived.Test.YtigkphjgidbppaaDoorRefPr
import Derived.Test.YtigkphjgidbppaaDoorRefPa
import Derived.Test.YtigkphjgidbppaaDoorFew
import Derived.Test.YtigkphjgidbppaaDoorShown
namespace Go.Proofs.YtigkphjgidbppaaDoor
open Go Go.RowKit

set_option maxRecDepth 100000 in
set_option maxHeartbeats 4000000 in
theorem classTexts_any (set : Int) (s : ByteArray) (A : Option Addr) (len cap : Nat) (l : List ByteArray) (B : Nat) (z : Value) (m : Int) (w : World) (hE : CEnv w B z m) (hB : B ≤ w.heap.size) (hs : s.size ≤ 9223372036854775807) (_ : len ≤ cap) (hr : Rds w w.heap.size 1 A len (strCells l)) (hz : ∀ s ∈ l, s.size ≤ maxLen) :
    Calls Tryd.prog 7 #[.int .i64 set, .string s, .slice A len cap] w (Freed w (.bool true)) := by
  have hsh := shown_any B z m w hE hB
  have HFW := hide (fun W h => few_any A len cap l W h hz)
  have HCT := hide (fun W => cut_any s W hs)
  have hcs := cutB_size s
  have hfs := fewB_sizes l
  have hfl := fewB_len l
  have HE := hide hE
  have HR := hide hr
  clear hr hE hz
  generalize fewB l = F at *
  generalize cutB s = cs at *
  have HFM := hide (show ∀ x ∈ F, x.size ≤ maxLen from fun x hx => Nat.le_trans (hfs x hx) (by decide))
  have HFK := hide (show ∀ x ∈ F, x.size ≤ 1000 from fun x hx => Nat.le_trans (hfs x hx) (by decide))
  have HPR := hide (fun A c W h1 h2 h3 => Print_any set A F.length c F B z m W h1 h2 h3 (by omega) HFM.out)
  have HQR := hide (fun A c W (h1 : F.length ≤ c) h3 => refPrint_any set A F.length c F W h1 h3 HFK.out)
  have HPA := hide (fun A c W h1 h2 h3 => Parse_any cs A F.length c F B z m W h1 h2 h3 (by omega) HFM.out (by omega))
  have HQA := hide (fun A c W (h1 : F.length ≤ c) h3 => refParse_any cs A F.length c F W h1 h3 HFK.out (by omega))
  generalize PrintB set F = P at *
  generalize ParseB cs F = Q at *
  obtain ⟨t, e⟩ := P
  obtain ⟨u, f⟩ := Q
  dsimp only at *
  have hte : (t.toList == t.toList) = true := by simp
  clear hfs hs hcs
  go_enter Tryd.func7, Tryd.ntmps7
  go_wp2_with fail
  refine hsh.mono ?_
  rintro e1 w1 ⟨rfl, b1⟩
  clear hsh
  go_wp2_with fail
  refine (HFW.out w1 ((HR.out.below b1).more b1.size)).mono ?_
  rintro e1 w2 ⟨A2, c2, rfl, hc2, h2, b2⟩
  have b2' := b1.trans (b2.mono b1.size)
  have E2 := hide (HE.out.below (b2'.mono hB))
  have H2 := hide h2
  clear h2 b2 HFW
  go_wp2_with fail
  refine (HPR.out A2 c2 w2 E2.out (Nat.le_trans hB b2'.size) H2.out).mono ?_
  rintro e1 w3 ⟨rfl, b3⟩
  have b3' := b2'.trans (b3.mono b2'.size)
  have E3 := hide (HE.out.below (b3'.mono hB))
  have H3 := hide ((H2.out.below b3).more b3.size)
  clear b3 HPR
  go_wp2_with fail
  refine (HQR.out A2 c2 w3 hc2 H3.out).mono ?_
  rintro e1 w4 ⟨rfl, b4⟩
  have b4' := b3'.trans (b4.mono b3'.size)
  have E4 := hide (HE.out.below (b4'.mono hB))
  have H4 := hide ((H3.out.below b4).more b4.size)
  clear b4 HQR
  go_wp2_with fail
  refine (HCT.out w4).mono ?_
  rintro e1 _ ⟨rfl, rfl⟩
  go_wp2_with fail
  refine (HPA.out A2 c2 w4 E4.out (Nat.le_trans hB b4'.size) H4.out).mono ?_
  rintro e1 w5 ⟨rfl, b5⟩
  have b5' := b4'.trans (b5.mono b4'.size)
  have H5 := hide ((H4.out.below b5).more b5.size)
  clear b5 HPA
  go_wp2_with fail
  refine (HCT.out w5).mono ?_
  rintro e1 _ ⟨rfl, rfl⟩
  go_wp2_with fail
  refine (HQA.out A2 c2 w5 hc2 H5.out).mono ?_
  rintro e1 w6 ⟨rfl, b6⟩
  have b6' := b5'.trans (b6.mono b5'.size)
  go_wp2_with fail
  go_ret
  exact ⟨rfl, b6'⟩
end Go.Proofs.YtigkphjgidbppaaDoor
