/- The walk of the law ClassOthers. Conditions: the package's variables hold what they hold; the slice reads as the texts. -/
import Derived.Test.YtigkphjgidbppaaDoorBackL2
import Derived.Test.YtigkphjgidbppaaDoorFew
import Derived.Test.YtigkphjgidbppaaDoorShown
namespace Go.Proofs.YtigkphjgidbppaaDoor
open Go Go.RowKit

/-- the text with ^ put behind its bracket, or taken away -/
def otherB (s : ByteArray) : ByteArray := if s.data.toList[1]? = some 94 then ⟨#[91]⟩ ++ s.extract 2 s.size else ⟨#[91, 94]⟩ ++ s.extract 1 s.size
theorem ext_data (s : ByteArray) (a : Nat) : (s.extract a s.size).data.toList = s.data.toList.drop a := Lib.extract_to_end s a

theorem other_hat (L : ByteArray) : otherB (⟨#[91, 94]⟩ ++ L ++ ⟨#[93]⟩) = ⟨#[91]⟩ ++ L ++ ⟨#[93]⟩ := by
  have e : (⟨#[91, 94]⟩ ++ L ++ ⟨#[93]⟩ : ByteArray).data.toList = 91 :: 94 :: (L.data.toList ++ [93]) := by simp
  unfold otherB
  rw [e, if_pos (by rfl)]
  apply data_inj
  rw [app_data, ext_data, e]
  simp
theorem other_plain (L : ByteArray) (h : (L.data.toList ++ [93])[0]? ≠ some 94) : otherB (⟨#[91]⟩ ++ L ++ ⟨#[93]⟩) = ⟨#[91, 94]⟩ ++ L ++ ⟨#[93]⟩ := by
  have e : (⟨#[91]⟩ ++ L ++ ⟨#[93]⟩ : ByteArray).data.toList = 91 :: (L.data.toList ++ [93]) := by simp
  unfold otherB
  rw [e, if_neg (by rw [List.getElem?_cons_succ]; exact h)]
  apply data_inj
  rw [app_data, ext_data, e]
  simp

/-- it is read as the other classes' set -/
theorem parse_other {l : List ByteArray} {set : Int} (h : (PrintB set l).2 = 0) (h0 : (PrintB set l).1.data.toList[0]? = some 91) : ParseB (otherB (PrintB set l).1) l = (notB set l.length, 0) := by
  unfold PrintB at h h0 ⊢
  by_cases hn : namesB l = true
  case neg =>
    rw [if_neg hn] at h
    exact absurd h (by decide)
  rw [if_pos hn] at h h0 ⊢
  by_cases hs : rightB set l.length = true
  case neg =>
    rw [if_neg hs] at h
    exact absurd h (by decide)
  rw [if_pos hs] at h0 ⊢
  dsimp only at h0 ⊢
  unfold ParseB
  rw [if_pos hn]
  obtain ⟨-, -, hnd, hnm⟩ := (names_iff l).1 hn
  have hs' := hs
  obtain ⟨s, k, rfl, e2, k1, k2, k3⟩ := right_nat hs
  unfold printB at h0 ⊢
  by_cases h1 : (classesB (s : Int)).length = l.length
  · rw [if_pos h1] at h0
    exact absurd h0 (by decide)
  rw [if_neg h1] at h0 ⊢
  by_cases h2 : (classesB (s : Int)).length = 1
  · rw [if_pos h2] at h0
    obtain ⟨c, hc, e1, e3⟩ := list_one hs' h2
    rw [e3] at h0
    exact absurd (List.mem_of_getElem? h0) (name_no (hnm _ (List.getElem_mem hc)) (b := 91) (by decide))
  rw [if_neg h2] at h0 ⊢
  by_cases h3 : l.length < 2 * (classesB (s : Int)).length
  · rw [if_pos h3] at h0 ⊢
    obtain ⟨r1, r2⟩ := not_right k1 k2 k3
    have e4 : ∃ x : Nat, notB (s : Int) (l.length : Int) = (x : Int) := by rw [e2]; exact ⟨_, not_of k1 k2 k3⟩
    obtain ⟨x, hx⟩ := e4
    rw [hx] at h0 ⊢
    rw [← e2, hx] at r1
    rw [other_hat, parse_in hn r1]
  · rw [if_neg h3] at h0 ⊢
    rw [other_plain _ (by
      rcases list_head hn hs' with ⟨_, h4⟩ | ⟨_, b, r, h4, h5⟩
      · rw [h4]
        decide
      · rw [h4]
        intro e
        simp at e
        subst e
        exact absurd h5 (by decide)), parse_out_of hn hs']

set_option maxRecDepth 100000 in
set_option maxHeartbeats 4000000 in
theorem classOthers_any (set : Int) (A : Option Addr) (len cap : Nat) (l : List ByteArray) (B : Nat) (z : Value) (m : Int) (w : World) (hE : CEnv w B z m) (hB : B ≤ w.heap.size) (_ : len ≤ cap) (hr : Rds w w.heap.size 1 A len (strCells l)) (hz : ∀ s ∈ l, s.size ≤ maxLen) :
    Calls Tryd.prog 9 #[.int .i64 set, .slice A len cap] w (Freed w (.bool true)) := by
  have hsh := shown_any B z m w hE hB
  have HFW := hide (fun W h => few_any A len cap l W h hz)
  have hfs := fewB_sizes l
  have hfl := fewB_len l
  have HE := hide hE
  have HR := hide hr
  clear hr hE hz
  generalize fewB l = F at *
  have HFM := hide (show ∀ x ∈ F, x.size ≤ maxLen from fun x hx => Nat.le_trans (hfs x hx) (by decide))
  have HPR := hide (fun A c W h1 h2 h3 => Print_any set A F.length c F B z m W h1 h2 h3 (by omega) HFM.out)
  have hps := Print_size set F
  have HPO := hide (fun h h0 => parse_other (l := F) (set := set) h h0)
  have HPA := hide (fun (t : ByteArray) (ht : t.size ≤ 2000) A c W h1 h2 h3 => Parse_any t A F.length c F B z m W h1 h2 h3 (by omega) HFM.out (by omega))
  have HNT := hide (fun W => not_any set (F.length : Int) W)
  generalize PrintB set F = P at *
  generalize notB set (F.length : Int) = no at *
  obtain ⟨t, e⟩ := P
  dsimp only at *
  clear hfs
  go_enter Tryd.func9, Tryd.ntmps9
  go_wp2_with fail
  refine hsh.mono ?_
  rintro e1 w1 ⟨rfl, b1⟩
  clear hsh
  go_wp2_with fail
  refine (HFW.out w1 ((HR.out.below b1).more b1.size)).mono ?_
  rintro e1 w2 ⟨A2, c2, rfl, -, h2, b2⟩
  have b2' := b1.trans (b2.mono b1.size)
  have E2 := hide (HE.out.below (b2'.mono hB))
  have H2 := hide h2
  clear h2 b2 HFW
  go_wp2_with fail
  refine (HPR.out A2 c2 w2 E2.out (Nat.le_trans hB b2'.size) H2.out).mono ?_
  rintro e1 w3 ⟨rfl, b3⟩
  have b3' := b2'.trans (b3.mono b2'.size)
  have E3 := hide (HE.out.below (b3'.mono hB))
  have H3 := hide ((H2.out.below b3).more b3.size)
  clear b3 HPR
  by_cases he : e = 0
  · subst he
    by_cases hsz : t.size < 2
    · have hsz' : (t.size : Int) < 2 := by omega
      go_wp2_with fail
      go_ret
      exact ⟨rfl, b3'⟩
    · have hsz' : ¬ (t.size : Int) < 2 := by omega
      have hl : t.data.toList.length = t.size := rfl
      have i0 : 0 < t.size := by omega
      have i1 : 1 < t.size := by omega
      have g0 : t.data.toList[0]? = some (t[0]'i0) := List.getElem?_eq_getElem (by omega)
      have g1 : t.data.toList[1]? = some (t[1]'i1) := List.getElem?_eq_getElem (by omega)
      by_cases h91 : (t[0]'i0) = 91
      · have q0 : ((((t[0]'i0).toNat : Nat) : Int) != 91) = false := by rw [h91]; rfl
        rw [h91] at g0
        have hpo := HPO.out rfl g0
        have hob : (otherB t).size ≤ 2000 := by
          unfold otherB
          split
          · rw [ByteArray.size_append, ByteArray.size_extract]
            have e1 : (⟨#[91]⟩ : ByteArray).size = 1 := rfl
            omega
          · rw [ByteArray.size_append, ByteArray.size_extract]
            have e1 : (⟨#[91, 94]⟩ : ByteArray).size = 2 := rfl
            omega
        have hpa := fun A c W h1 h2 h3 => HPA.out (otherB t) hob A c W h1 h2 h3
        rw [hpo] at hpa
        dsimp only at hpa
        by_cases h94 : (t[1]'i1) = 94
        · have q1 : ((((t[1]'i1).toNat : Nat) : Int) == 94) = true := by rw [h94]; rfl
          have ho : otherB t = ⟨#[91]⟩ ++ t.extract 2 t.size := by unfold otherB; rw [if_pos (by rw [g1, h94])]
          rw [ho] at hpa
          have HPX := hide hpa
          clear hpa hpo hob ho g0 g1 h91 h94 HPO HPA hl
          go_wp2_with fail
          refine (HPX.out A2 c2 w3 E3.out (Nat.le_trans hB b3'.size) H3.out).mono ?_
          rintro e1 w4 ⟨rfl, b4⟩
          have b4' := b3'.trans (b4.mono b3'.size)
          go_wp2_with fail
          refine (HNT.out w4).mono ?_
          rintro e1 _ ⟨rfl, rfl⟩
          go_wp2_with fail
          go_ret
          exact ⟨rfl, b4'⟩
        · have q1 : ((((t[1]'i1).toNat : Nat) : Int) == 94) = false := by
            rw [beq_eq_false_iff_ne]
            intro e
            exact h94 (UInt8.toNat_inj.1 (by have : (t[1]'i1).toNat = 94 := by omega
                                             rw [this]; rfl))
          have ho : otherB t = ⟨#[91, 94]⟩ ++ t.extract 1 t.size := by
            unfold otherB
            rw [if_neg (by rw [g1]; intro e; injection e with e; exact h94 e)]
          rw [ho] at hpa
          have HPX := hide hpa
          clear hpa hpo hob ho g0 g1 h91 h94 HPO HPA hl
          go_wp2_with fail
          refine (HPX.out A2 c2 w3 E3.out (Nat.le_trans hB b3'.size) H3.out).mono ?_
          rintro e1 w4 ⟨rfl, b4⟩
          have b4' := b3'.trans (b4.mono b3'.size)
          go_wp2_with fail
          refine (HNT.out w4).mono ?_
          rintro e1 _ ⟨rfl, rfl⟩
          go_wp2_with fail
          go_ret
          exact ⟨rfl, b4'⟩
      · have q0 : ((((t[0]'i0).toNat : Nat) : Int) != 91) = true := by
          rw [bne_iff_ne]
          intro e
          exact h91 (UInt8.toNat_inj.1 (by have : (t[0]'i0).toNat = 91 := by omega
                                           rw [this]; rfl))
        clear g0 g1 h91 HPO hl
        go_wp2_with fail
        go_ret
        exact ⟨rfl, b3'⟩
  · have he1 : (e != 0) = true := by rw [bne, beq_eq_false_iff_ne.2 he]; rfl
    clear he HPO
    go_wp2_with fail
    go_ret
    exact ⟨rfl, b3'⟩
end Go.Proofs.YtigkphjgidbppaaDoor
