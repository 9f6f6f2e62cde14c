/- The program's field.Codes. Conditions: the text is of moderate size; bytealg's variable holds what it holds. -/
import Derived.Test.YtdmkjchmcgjjmaaDoorSplit
namespace Go.Proofs.YtdmkjchmcgjjmaaDoor
open Go Go.RowKit

/-- the codes of several texts, behind those that are there -/
def foldC : List ByteArray → List Int → Option (List Int)
  | [], out => some out
  | t :: r, out => if t = ⟨#[]⟩ then foldC r out else match codeB t with
    | none => none
    | some n => foldC r (out ++ [(n : Int)])
def codesB (s : ByteArray) : Option (List Int) := if Lib.hasPrefix s.data.toList [32] || Lib.hasSuffix s.data.toList [32] then none else foldC (splitT 32 s) []
theorem foldC_skip {L : List ByteArray} {k : Nat} (h : k < L.length) (he : L[k] = ⟨#[]⟩) (out : List Int) : foldC (L.drop k) out = foldC (L.drop (k + 1)) out := by
  rw [drop_cons h, foldC, if_pos he]
theorem foldC_none {L : List ByteArray} {k : Nat} (h : k < L.length) (he : ¬ L[k] = ⟨#[]⟩) (hc : codeB L[k] = none) (out : List Int) : foldC (L.drop k) out = none := by
  rw [drop_cons h, foldC, if_neg he, hc]
theorem foldC_some {L : List ByteArray} {k n : Nat} (h : k < L.length) (he : ¬ L[k] = ⟨#[]⟩) (hc : codeB L[k] = some n) (out : List Int) : foldC (L.drop k) out = foldC (L.drop (k + 1)) (out ++ [(n : Int)]) := by
  rw [drop_cons h, foldC, if_neg he, hc]
theorem foldC_end {L : List ByteArray} {k : Nat} (h : ¬ k < L.length) (out : List Int) : foldC (L.drop k) out = some out := by
  rw [List.drop_of_length_le (by omega)]
  rfl

/-- numbers that the call has made, or none -/
def OwnI (w : World) (o : Option (List Int)) (e : Ending) (w' : World) : Prop :=
  ∃ v, e = .returned (.tuple #[v, .bool o.isSome]) ∧ w'.ownsRow w.heap.size 3 1 v (o.getD []).length (intCells (o.getD [])) ∧ Below w.heap.size w w'
theorem ownI_none {w w' : World} {o : Option (List Int)} (h : o = none) (hb : Below w.heap.size w w') : OwnI w o (.returned (.tuple #[.slice none 0 0, .bool false])) w' := by
  subst h
  exact ⟨_, rfl, World.ownsRow_nil _ _ _ _, hb⟩
theorem ownI_some {w w' : World} {o : Option (List Int)} {out : List Int} {v : Value} (h : o = some out) (hr : w'.ownsRow w.heap.size 3 1 v out.length (intCells out)) (hb : Below w.heap.size w w') : OwnI w o (.returned (.tuple #[v, .bool true])) w' := by
  subst h
  exact ⟨_, rfl, hr, hb⟩

set_option maxRecDepth 100000 in
set_option maxHeartbeats 4000000 in
theorem Codes_any (s : ByteArray) (B : Nat) (m : Int) (w : World) (hE : FEnv w B m) (hB : B ≤ w.heap.size) (hs : s.size ≤ 100000) : Calls Tryd.prog 14 #[.string s] w (OwnI w (codesB s)) := by
  obtain ⟨i0, hi, hz0, hz1, hz2⟩ := info_parts info3
  have hp := Tryd.strings_HasPrefix s ⟨#[32]⟩ w
  have hq := Tryd.strings_HasSuffix s ⟨#[32]⟩ w (by omega)
  have hsp := split_any 32 s B m w hE hs
  have hsl := splitT_len 32 s
  have hsz : ∀ x ∈ splitT 32 s, x.size ≤ 100000 := fun x hx => Nat.le_trans (splitT_size hx) hs
  have HC : Hid (codesB s = if Lib.hasPrefix s.data.toList [32] || Lib.hasSuffix s.data.toList [32] then none else foldC (splitT 32 s) []) := rfl
  have hdd : (⟨#[32]⟩ : ByteArray).data.toList = [32] := rfl
  rw [hdd] at hp hq
  clear hdd
  generalize codesB s = C at *
  generalize Lib.hasPrefix s.data.toList [32] = p at *
  generalize Lib.hasSuffix s.data.toList [32] = q at *
  generalize splitT 32 s = L at *
  have HSL := hide hsl
  clear hsl
  go_enter Tryd.func14, Tryd.ntmps14
  go_wp2_with fail
  refine hp.mono ?_
  rintro e _ ⟨rfl, rfl⟩
  clear hp
  cases p with
  | true =>
    clear hq hsp
    go_wp2_with fail
    go_ret2
    exact ownI_none HC.out (Below.refl _ _)
  | false =>
    go_wp2_with fail
    refine hq.mono ?_
    rintro e _ ⟨rfl, rfl⟩
    clear hq
    cases q with
    | true =>
      clear hsp
      go_wp2_with fail
      go_ret2
      exact ownI_none HC.out (Below.refl _ _)
    | false =>
      have HC2 : Hid (C = foldC L []) := HC.out
      clear HC
      go_wp2_with fail
      refine hsp.mono ?_
      rintro e w1 ⟨rfl, hr1, hb1, hlt1⟩
      clear hsp
      go_wp2_with fail
      go_loopg [4, 18] L.length (fun g s4 s18 wx => ∃ (k : Nat) (out : List Int), g = L.length - k ∧ k ≤ L.length ∧ s18 = .int .i64 (k : Int) ∧ foldC L [] = foldC (L.drop k) out ∧ out.length ≤ k ∧ wx.ownsRow w1.heap.size 3 1 s4 out.length (intCells out) ∧ Below w1.heap.size w1 wx)
      case atStart => exact ⟨0, [], rfl, Nat.zero_le _, rfl, rfl, Nat.le_refl _, World.ownsRow_nil _ _ _ _, Below.refl _ _⟩
      case round =>
        obtain ⟨k, out, rfl, hk, rfl, hf, hol, hrow, hb⟩ := hrel
        have HF := hide hf
        have HOL := hide hol
        have HROW := hide hrow
        clear hf hol hrow
        by_cases hlt : k < L.length
        · obtain ⟨b', o', e1, hbb, hcell⟩ := (hr1.below hb).str hlt
          injection e1 with e1
          injection e1 with e1 e2
          subst e1 e2
          rw [Nat.zero_add] at hcell
          have HSZ := hide (hsz L[k] (List.getElem_mem hlt))
          have HN := hide (foldC_none hlt)
          have HS := hide (@foldC_some L k · hlt)
          have HE := hide (foldC_skip hlt)
          have HL := hide hlt
          have hlt' : (k : Int) < (L.length : Int) := by omega
          have hkn : (k : Int) + 1 ≤ 9223372036854775807 := by have := HSL.out; omega
          generalize hLk : L[k] = t at *
          clear hLk hlt
          by_cases ht : t = ⟨#[]⟩
          · have hte := list_eq_true (l := []) ht
            have HF2 := hide (HF.out.trans (HE.out ht out))
            clear HN HS HE ht
            go_wp2_with fail
            go_roundg (L.length - (k + 1))
            case measure => have := HL.out; omega
            case rel => exact ⟨k + 1, out, rfl, HL.out, rfl, HF2.out, by have := HOL.out; omega, HROW.out, hb⟩
          · have hte := list_eq_false (l := []) ht
            have hcode := Code_any t wr (by have := HSZ.out; omega)
            have HCO : Hid (codeB t = none ∨ ∃ n, codeB t = some n) := by
              cases h : codeB t with
              | none => exact .inl rfl
              | some n => exact .inr ⟨n, rfl⟩
            rcases HCO.out with hc | ⟨n, hc⟩
            · rw [hc] at hcode
              have HF2 := hide (HF.out.trans (HN.out ht hc out))
              clear HN HS HE HCO ht
              go_wp2_with fail
              refine hcode.mono ?_
              rintro e w2 ⟨rfl, hb2⟩
              clear hcode
              unfold codeV
              simp only [Option.isSome_none, Option.getD_none]
              go_wp2_with fail
              go_ret2
              refine ownI_none (HC2.out.trans HF2.out) ?_
              have h1 := hb1.size
              exact hb1.trans ((hb.trans (hb2.mono hb.size)).mono h1)
            · rw [hc] at hcode
              have HF2 := hide (HF.out.trans (HS.out n ht hc out))
              clear HN HS HE HCO ht hc
              go_wp2_with fail
              refine hcode.mono ?_
              rintro e w2 ⟨rfl, hb2⟩
              clear hcode
              unfold codeV
              simp only [Option.isSome_some, Option.getD_some]
              have HROW2 := hide ((own_below HROW.out hb2).alloc (.cells #[.int .i64 (n : Int)] 3))
              have CN := hide (cell_one_new w2 (.int .i64 (n : Int)) 3)
              have HB2 := hide ((hb.trans (hb2.mono hb.size)).alloc (hb.trans (hb2.mono hb.size)).size (.cells #[.int .i64 (n : Int)] 3))
              have HSZ2 := hide (hb.trans (hb2.mono hb.size)).size
              go_wp2_with (at_builtin; (refine wpList_append_own _ rfl (.tmp 31) (.tmp 33) 26 rfl w1.heap.size 3 i0 (.int .i64 0) 1 8 Tryd.underlying26 hi hz0 hz1 hz2 rfl (by decide) _ out.length (intCells out) rfl HROW2.out ⟨w2.heap.size, 0, none⟩ 1 1 [.int .i64 (n : Int)] rfl rfl CN.out (by simp [Value.oneCell']) (by unfold maxLen; have := HOL.out; have := HSL.out; omega) (by have := HOL.out; have := HSL.out; omega) (by have := HSZ2.out; simp; omega) ?_); intro v' w3 hown1 hgrow1 _; have HO := hide hown1; have HG := hide hgrow1; clear hown1 hgrow1)
              go_roundg (L.length - (k + 1))
              case measure => have := HL.out; omega
              case rel =>
                refine ⟨k + 1, out ++ [(n : Int)], rfl, HL.out, rfl, HF2.out, by rw [List.length_append, List.length_cons, List.length_nil]; have := HOL.out; omega, ?_, ?_⟩
                · rw [List.length_append]
                  simpa [intCells] using HO.out
                · exact HB2.out.grown HG.out HB2.out.size (fun k e => (HROW2.out.lt k e).1)
        · have HF2 := hide (HF.out.trans (foldC_end hlt out))
          have hlt' : ¬ (k : Int) < (L.length : Int) := by omega
          clear hlt
          go_wp2_with fail
          go_ret2
          have h1 := hb1.size
          exact ownI_some (HC2.out.trans HF2.out) (own_more HROW.out h1) (hb1.trans (hb.mono h1))
end Go.Proofs.YtdmkjchmcgjjmaaDoor
