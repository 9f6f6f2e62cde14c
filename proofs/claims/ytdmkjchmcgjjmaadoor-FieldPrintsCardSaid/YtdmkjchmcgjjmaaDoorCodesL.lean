/- Plain: codes behind codes. No program in sight. -/
import Derived.Test.YtdmkjchmcgjjmaaDoorCodes
import Derived.Test.YtdmkjchmcgjjmaaDoorSplitL
namespace Go.Proofs.YtdmkjchmcgjjmaaDoor
open Go Go.RowKit

theorem foldC_out : ∀ (L : List ByteArray) (out : List Int), foldC L out = (foldC L []).map (out ++ ·)
  | [], out => by simp [foldC]
  | t :: r, out => by
    unfold foldC
    split
    · exact foldC_out r out
    · cases codeB t with
      | none => rfl
      | some n =>
        simp only
        rw [foldC_out r (out ++ [(n : Int)]), foldC_out r ([] ++ [(n : Int)])]
        cases foldC r [] <;> simp
theorem foldC_app : ∀ (L M : List ByteArray) (out : List Int), foldC (L ++ M) out = (foldC L out).bind (foldC M)
  | [], M, out => rfl
  | t :: r, M, out => by
    rw [List.cons_append]
    unfold foldC
    split
    · exact foldC_app r M out
    · cases codeB t with
      | none => rfl
      | some n => exact foldC_app r M _
theorem pre_app {a b : List UInt8} (ha : a ≠ []) : Lib.hasPrefix (a ++ b) [32] = Lib.hasPrefix a [32] := by
  cases a with
  | nil => exact absurd rfl ha
  | cons x r =>
    unfold Lib.hasPrefix
    rw [List.cons_append]
    simp only [List.isPrefixOf]
theorem suf_app {a b : List UInt8} (hb : b ≠ []) : Lib.hasSuffix (a ++ b) [32] = Lib.hasSuffix b [32] := by
  unfold Lib.hasSuffix
  rw [Bool.eq_iff_iff, List.isSuffixOf_iff_suffix, List.isSuffixOf_iff_suffix]
  constructor
  · intro h
    exact List.suffix_of_suffix_length_le h (List.suffix_append _ _) (by cases b with
      | nil => exact absurd rfl hb
      | cons _ _ => simp)
  · intro h
    exact h.trans (List.suffix_append _ _)
theorem data_ne {s : ByteArray} (h : ¬ s = ⟨#[]⟩) : s.data.toList ≠ [] := fun e => h (data_inj (by rw [e]))
/-- codes behind codes -/
theorem codes_app {s t : ByteArray} {a b : List Int} (hs : ¬ s = ⟨#[]⟩) (ht : ¬ t = ⟨#[]⟩) (ha : codesB s = some a) (hb : codesB t = some b) : codesB (s ++ ⟨#[32]⟩ ++ t) = some (a ++ b) := by
  unfold codesB at ha hb ⊢
  have e : (s ++ ⟨#[32]⟩ ++ t : ByteArray).data.toList = s.data.toList ++ ([32] ++ t.data.toList) := by simp
  have e2 : s.data.toList ++ ([32] ++ t.data.toList) = (s.data.toList ++ [32]) ++ t.data.toList := by simp
  rw [e, pre_app (data_ne hs), e2, suf_app (data_ne ht), splitT_app]
  split at ha
  · cases ha
  · rename_i h1
    split at hb
    · cases hb
    · rename_i h2
      rw [Bool.or_eq_true, not_or] at h1 h2
      rw [if_neg (by rw [Bool.or_eq_true, not_or]; exact ⟨h1.1, h2.2⟩), foldC_app, ha, Option.bind_some, foldC_out, hb]
      rfl
theorem foldC_len : ∀ (L : List ByteArray) (out o : List Int), foldC L out = some o → out.length ≤ o.length
  | [], out, o, h => by
    unfold foldC at h
    injection h with h
    rw [h]
    exact Nat.le_refl _
  | t :: r, out, o, h => by
    unfold foldC at h
    split at h
    · exact foldC_len r out o h
    · cases hc : codeB t with
      | none => rw [hc] at h; cases h
      | some n =>
        rw [hc] at h
        have := foldC_len r _ o h
        rw [List.length_append] at this
        omega
theorem codes_ne {s : ByteArray} {a : List Int} (hs : ¬ s = ⟨#[]⟩) (ha : codesB s = some a) : 0 < a.length := by
  unfold codesB at ha
  split at ha
  · cases ha
  · rename_i h1
    rw [Bool.or_eq_true, not_or] at h1
    obtain ⟨x, r, e, h2, h3⟩ := splitT_cons 32 s
    rw [e] at ha
    have hx : ¬ x = ⟨#[]⟩ := by
      intro hx
      subst hx
      rcases h3 with ⟨_, h3⟩ | ⟨q, h3, _⟩
      · exact hs h3
      · apply h1.1
        rw [h3]
        simp [Lib.hasPrefix]
    unfold foldC at ha
    rw [if_neg hx] at ha
    cases hc : codeB x with
    | none => rw [hc] at ha; cases ha
    | some n =>
      rw [hc] at ha
      have := foldC_len r _ a ha
      rw [List.length_append, List.length_cons, List.length_nil] at this
      omega
theorem codes_len {s : ByteArray} {a : List Int} (ha : codesB s = some a) : a.length ≤ s.size + 1 := by
  unfold codesB at ha
  split at ha
  · cases ha
  · have h1 := splitT_len 32 s
    have h2 : ∀ (L : List ByteArray) (out o : List Int), foldC L out = some o → o.length ≤ out.length + L.length := by
      intro L
      induction L with
      | nil =>
        intro out o h
        unfold foldC at h
        injection h with h
        rw [h]
        exact Nat.le_refl _
      | cons t r ih =>
        intro out o h
        unfold foldC at h
        split at h
        · have := ih out o h
          rw [List.length_cons]
          omega
        · cases hc : codeB t with
          | none => rw [hc] at h; cases h
          | some n =>
            rw [hc] at h
            have := ih _ o h
            rw [List.length_append, List.length_cons, List.length_nil] at this
            rw [List.length_cons]
            omega
    have := h2 _ _ _ ha
    simp only [List.length_nil] at this
    omega
end Go.Proofs.YtdmkjchmcgjjmaaDoor
