/- The program's field.trimmed and field.ends. Conditions: texts of moderate size; bytealg's variable holds what it holds. -/
import Derived.WalkLawsBesides
import Derived.Laws.Cover2
import Derived.Laws.Cover3
import Derived.Test.YtdmkjchmcgjjmaaDoorCodes
import Derived.Test.YtdmkjchmcgjjmaaDoorFloat
namespace Go.Proofs.YtdmkjchmcgjjmaaDoor
open Go Go.RowKit

theorem trims_step {L : List ByteArray} {k : Nat} (h : k < L.length) : (L.take k).map trimT ++ [trimT L[k]] = (L.take (k + 1)).map trimT := by
  rw [List.take_succ_eq_append_getElem h, List.map_append]
  rfl

set_option maxRecDepth 100000 in
set_option maxHeartbeats 4000000 in
theorem trimmed_any (A : Option Addr) (n c : Nat) (L : List ByteArray) (w : World) (hr : Rds w w.heap.size 1 A n (strCells L)) (hn : n ≤ 100001) (hz : ∀ s ∈ L, s.size ≤ 100000) :
    Calls Tryd.prog 51 #[.slice A n c] w (fun e w' => ∃ v, e = .returned v ∧ w'.ownsRow w.heap.size 9 1 v (L.map trimT).length (strCells (L.map trimT)) ∧ Below w.heap.size w w') := by
  obtain ⟨i0, hi, hz0, hz1, hz2⟩ := info_parts info9
  obtain rfl := hr.str_len
  go_enter Tryd.func51, Tryd.ntmps51
  go_wp2_with fail
  go_loopg [3, 8] L.length (fun g s3 s8 wx => ∃ (k : Nat), g = L.length - k ∧ k ≤ L.length ∧ s8 = .int .i64 (k : Int) ∧ wx.ownsRow w.heap.size 9 1 s3 k (strCells ((L.take k).map trimT)) ∧ Below w.heap.size w wx)
  case atStart => exact ⟨0, rfl, Nat.zero_le _, rfl, World.ownsRow_nil _ _ _ _, Below.refl _ _⟩
  case round =>
    obtain ⟨k, rfl, hk, rfl, hrow, hb⟩ := hrel
    have HROW := hide hrow
    clear hrow
    by_cases hlt : k < L.length
    · obtain ⟨b', o', e1, hbb, hcell⟩ := (hr.below hb).str hlt
      subst e1
      have htr := trim_any L[k] wr (by have := hz L[k] (List.getElem_mem hlt); omega)
      have HST := hide (trims_step hlt)
      have HL := hide hlt
      have hlt' : (k : Int) < (L.length : Int) := by omega
      have hkn : (k : Int) + 1 ≤ 9223372036854775807 := by omega
      generalize L[k] = t at *
      generalize trimT t = tt at *
      clear hlt
      go_wp2_with fail
      refine htr.mono ?_
      rintro e w2 ⟨rfl, hb2⟩
      clear htr
      have HROW2 := hide ((own_below HROW.out hb2).alloc (.cells #[.string tt] 9))
      have CN := hide (cell_one_new w2 (.string tt) 9)
      have HB2 := hide ((hb.trans (hb2.mono hb.size)).alloc (hb.trans (hb2.mono hb.size)).size (.cells #[.string tt] 9))
      have HSZ2 := hide (hb.trans (hb2.mono hb.size)).size
      go_wp2_with (at_builtin; (refine wpList_append_own _ rfl (.tmp 12) (.tmp 15) 29 rfl w.heap.size 9 i0 (.string ⟨#[]⟩) 1 16 Tryd.underlying29 hi hz0 hz1 hz2 rfl (by decide) _ k (strCells ((L.take k).map trimT)) rfl HROW2.out ⟨w2.heap.size, 0, none⟩ 1 1 [.string tt] rfl rfl CN.out (by simp [Value.oneCell']) (by unfold maxLen; omega) (by omega) (by have := HSZ2.out; simp; omega) ?_); intro v' w3 hown1 hgrow1 _; have HO := hide hown1; have HG := hide hgrow1; clear hown1 hgrow1)
      go_roundg (L.length - (k + 1))
      case measure => have := HL.out; omega
      case rel =>
        refine ⟨k + 1, rfl, HL.out, rfl, ?_, ?_⟩
        · rw [← HST.out]
          simpa [strCells] using HO.out
        · exact HB2.out.grown HG.out HB2.out.size (fun k e => (HROW2.out.lt k e).1)
    · obtain rfl : k = L.length := by omega
      have hlt' : ¬ (L.length : Int) < (L.length : Int) := by omega
      clear hlt
      go_wp2_with fail
      go_ret
      have h := HROW.out
      rw [List.take_length] at h
      exact ⟨u3, rfl, h, hb⟩

/-- a range's ends, by whether there are two, and both codes -/
def ends2 (two : Bool) (o1 o2 : Option Nat) : Option (Nat × Nat) :=
  match two, o1, o2 with
  | false, none, _ => none
  | false, some a, _ => some (a, a)
  | true, some a, some b => some (a, b)
  | true, _, _ => none
/-- a range's ends -/
def endsB (s : ByteArray) : Option (Nat × Nat) := ends2 (cutIs s ⟨#[46, 46]⟩) (codeB (cutH s ⟨#[46, 46]⟩)) (codeB (cutR s ⟨#[46, 46]⟩))
/-- what ends answers -/
def EndsA (w : World) (o : Option (Nat × Nat)) (e : Ending) (w' : World) : Prop :=
  ∃ a b : Nat, a < 2 ^ 24 ∧ b < 2 ^ 24 ∧ e = .returned (.tuple #[.complex .f64 (f64 a) (f64 b), .bool o.isSome]) ∧ (o = none ∨ o = some (a, b)) ∧ Below w.heap.size w w'
theorem code_getD (o : Option Nat) (h : ∀ k, o = some k → k < 2 ^ 24) : o.getD 0 < 2 ^ 24 := by
  cases o with
  | none => decide
  | some k => exact h k rfl

set_option maxRecDepth 100000 in
set_option maxHeartbeats 4000000 in
theorem ends_any (s : ByteArray) (B : Nat) (m : Int) (w : World) (hE : FEnv w B m) (_ : B ≤ w.heap.size) (hs : s.size ≤ 100000) : Calls Tryd.prog 52 #[.string s] w (EndsA w (endsB s)) := by
  have hcut := cut_any s ⟨#[46, 46]⟩ B m w hE hs
  have hcs := cut_size s ⟨#[46, 46]⟩
  unfold endsB
  generalize cutH s ⟨#[46, 46]⟩ = h1 at *
  generalize cutR s ⟨#[46, 46]⟩ = t1 at *
  generalize cutIs s ⟨#[46, 46]⟩ = two at *
  have hc1 : ∀ W : World, Calls Tryd.prog 12 #[.string h1] W (Freed W (codeV (codeB h1))) := fun W => Code_any h1 W (by omega)
  have hc2 : ∀ W : World, Calls Tryd.prog 12 #[.string t1] W (Freed W (codeV (codeB t1))) := fun W => Code_any t1 W (by omega)
  have HL1 := hide (code_getD (codeB h1) (fun k h => codeB_lt h))
  have HL2 := hide (code_getD (codeB t1) (fun k h => codeB_lt h))
  clear hcs
  generalize codeB h1 = o1 at *
  generalize codeB t1 = o2 at *
  have HV1 := hide (show codeV o1 = .tuple #[.int .i64 ((o1.getD 0 : Nat) : Int), .bool o1.isSome] from rfl)
  have HV2 := hide (show codeV o2 = .tuple #[.int .i64 ((o2.getD 0 : Nat) : Int), .bool o2.isSome] from rfl)
  simp only [HV1.out] at hc1
  simp only [HV2.out] at hc2
  have HFF : Hid (∀ n : Nat, floatOfInt .f64 (n : Int) = f64 n) := fun _ => rfl
  obtain ⟨Q', hQ'⟩ : ∃ Q' : Ending → World → Prop, Q' = EndsA w (ends2 two o1 o2) := ⟨_, rfl⟩
  rw [← hQ']
  have HQ := hide hQ'
  clear hQ' HV1 HV2
  go_enter Tryd.func52, Tryd.ntmps52
  go_wp2_with fail
  refine hcut.mono ?_
  rintro e w1 ⟨rfl, q1, hw1⟩
  have HB1 := hide (show Below w.heap.size w w1 by rw [hw1]; exact drewN_below _ _ _)
  clear hcut hw1
  go_wp2_with fail
  refine (hc1 _).mono ?_
  rintro e w2 ⟨rfl, hb2⟩
  clear hc1
  have HB2 := hide (HB1.out.trans (hb2.mono HB1.out.size))
  clear HB1 hb2
  generalize hk1 : o1.getD 0 = k1 at *
  generalize hs1 : o1.isSome = s1 at *
  cases two with
  | false =>
    clear hc2
    go_wp2_with fail
    rw [HFF.out]
    go_wp2_with fail
    rw [HQ.out]
    cases o1 with
    | none => exact ⟨k1, k1, HL1.out, HL1.out, by rw [← hs1]; rfl, .inl rfl, HB2.out⟩
    | some a =>
      obtain rfl : a = k1 := by simpa using hk1
      exact ⟨a, a, HL1.out, HL1.out, by rw [← hs1]; rfl, .inr rfl, HB2.out⟩
  | true =>
    cases s1 with
    | false =>
      go_wp2_with fail
      refine (hc2 _).mono ?_
      rintro e w3 ⟨rfl, hb3⟩
      clear hc2
      have HB3 := hide (HB2.out.trans (hb3.mono HB2.out.size))
      clear HB2 hb3
      generalize hk2 : o2.getD 0 = k2 at *
      generalize hs2 : o2.isSome = s2 at *
      go_wp2_with fail
      rw [HFF.out, HFF.out]
      go_wp2_with fail
      rw [HQ.out]
      have ho1 : o1 = none := by cases o1 with | none => rfl | some a => cases hs1
      subst ho1
      exact ⟨k1, k2, HL1.out, HL2.out, rfl, .inl rfl, HB3.out⟩
    | true =>
      go_wp2_with fail
      refine (hc2 _).mono ?_
      rintro e w3 ⟨rfl, hb3⟩
      clear hc2
      have HB3 := hide (HB2.out.trans (hb3.mono HB2.out.size))
      clear HB2 hb3
      generalize hk2 : o2.getD 0 = k2 at *
      generalize hs2 : o2.isSome = s2 at *
      go_wp2_with fail
      rw [HFF.out, HFF.out]
      go_wp2_with fail
      rw [HQ.out]
      cases o1 with
      | none => cases hs1
      | some a =>
        obtain rfl : a = k1 := by simpa using hk1
        cases o2 with
        | none => exact ⟨a, k2, HL1.out, HL2.out, by rw [← hs2]; rfl, .inl rfl, HB3.out⟩
        | some b =>
          obtain rfl : b = k2 := by simpa using hk2
          exact ⟨a, b, HL1.out, HL2.out, by rw [← hs2]; rfl, .inr rfl, HB3.out⟩
end Go.Proofs.YtdmkjchmcgjjmaaDoor
