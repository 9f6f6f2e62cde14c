/- Plain: files' records, one file below the other. No program in sight. -/
import Derived.Test.YtdmkjchmcgjjmaaDoorReadL
import Derived.Test.YtdmkjchmcgjjmaaDoorRemL
namespace Go.Proofs.YtdmkjchmcgjjmaaDoor
open Go Go.RowKit

/-- what lines say, whatever their number: records, or a line's number and an error's -/
def goL : List ByteArray → Nat → List Rc × Nat × Int
  | [], _ => ([], 0, 0)
  | t :: r, n => match (lineB t).2 with
    | none => if (lineB t).1 = 0 then goL r (n + 1) else ([], n + 1, (lineB t).1)
    | some (a, b, fs) => if (goL r (n + 1)).2.2 = 0 then ((n + 1, a, b, fs) :: (goL r (n + 1)).1, 0, 0) else goL r (n + 1)
/-- how many records -/
def cntL : List ByteArray → Nat
  | [] => 0
  | t :: r => (if (lineB t).2.isSome then 1 else 0) + cntL r
theorem parse_some {l : List ByteArray} {v : Nat × Nat × List ByteArray} (h : (parseP l).2 = some v) : parseP l = (0, some v) ∧ (∃ a b, endsB (l.headD ⟨#[]⟩) = some (a, b) ∧ v = (a, b, l.tail) ∧ a ≤ b ∧ b ≤ 1114111) ∧ 2 ≤ l.length ∧ l.length ≤ 21 := by
  unfold parseP at h ⊢
  split
  · rename_i he
    rw [he] at h
    cases h
  · rename_i a b he
    rw [he] at h
    simp only at h ⊢
    split at h
    · cases h
    · rename_i h1
      split at h
      · cases h
      · rename_i h2
        rw [if_neg h1, if_neg h2]
        simp only [Option.some.injEq] at h
        exact ⟨by rw [h], ⟨a, b, he, h.symm, by omega, by omega⟩, by omega, by omega⟩
theorem line_some {t : ByteArray} {v : Nat × Nat × List ByteArray} (h : (lineB t).2 = some v) : lineB t = (0, some v) ∧ ¬ bodyB t = ⟨#[]⟩ ∧ (∃ a b, endsB ((partsB t).headD ⟨#[]⟩) = some (a, b) ∧ v = (a, b, (partsB t).tail) ∧ a ≤ b ∧ b ≤ 1114111) ∧ 2 ≤ (partsB t).length ∧ (partsB t).length ≤ 21 := by
  unfold lineB at h ⊢
  split at h
  · cases h
  · rename_i h1
    rw [if_neg h1]
    obtain ⟨e, h2, h3⟩ := parse_some h
    exact ⟨e, h1, h2, h3⟩
section
variable {t : ByteArray} (r : List ByteArray) (n : Nat)
theorem goL_skip (h : (lineB t).2 = none) (h0 : (lineB t).1 = 0) : goL (t :: r) n = goL r (n + 1) := by
  rw [goL, h]
  exact if_pos h0
theorem goL_bad (h : (lineB t).2 = none) (h0 : (lineB t).1 ≠ 0) : goL (t :: r) n = ([], n + 1, (lineB t).1) := by
  rw [goL, h]
  exact if_neg h0
theorem goL_rec {a b : Nat} {fs : List ByteArray} (h : (lineB t).2 = some (a, b, fs)) : goL (t :: r) n = if (goL r (n + 1)).2.2 = 0 then ((n + 1, a, b, fs) :: (goL r (n + 1)).1, 0, 0) else goL r (n + 1) := by
  rw [goL, h]
end
/-- a line, in one of three ways -/
theorem line_ways (t : ByteArray) : ((lineB t).2 = none ∧ (lineB t).1 = 0) ∨ ((lineB t).2 = none ∧ (lineB t).1 ≠ 0) ∨ ∃ a b fs, (lineB t).2 = some (a, b, fs) := by
  cases hl : (lineB t).2 with
  | none => by_cases h : (lineB t).1 = 0
            · exact .inl ⟨rfl, h⟩
            · exact .inr (.inl ⟨rfl, h⟩)
  | some v => exact .inr (.inr ⟨v.1, v.2.1, v.2.2, rfl⟩)
/-- a file of not too many records -/
theorem readL_go : ∀ (L : List ByteArray) (n : Nat) (out : List Rc), out.length + cntL L ≤ 300 → readL L n out = if (goL L n).2.2 = 0 then (out ++ (goL L n).1, 0, 0) else goL L n
  | [], n, out, _ => by simp [readL, goL]
  | t :: r, n, out, h => by
    unfold cntL at h
    rcases line_ways t with ⟨h1, h2⟩ | ⟨h1, h2⟩ | ⟨a, b, fs, h1⟩
    · rw [goL_skip r n h1 h2, readL, h1]
      rw [h1] at h
      exact (if_pos h2).trans (readL_go r (n + 1) out (by simpa using h))
    · rw [goL_bad r n h1 h2, readL, h1]
      exact (if_neg h2).trans (if_neg h2).symm
    · rw [goL_rec r n h1, readL, h1]
      rw [h1] at h
      simp only [Option.isSome_some, if_true] at h
      simp only
      rw [if_neg (by omega), readL_go r (n + 1) (out ++ [(n + 1, a, b, fs)]) (by rw [List.length_append, List.length_cons, List.length_nil]; omega)]
      by_cases h0 : (goL r (n + 1)).2.2 = 0
      · simp [if_pos h0]
      · simp [if_neg h0]
theorem goL_err : ∀ (L : List ByteArray) (n : Nat), ((goL L n).2.2 = 0 → (goL L n).2.1 = 0) ∧ ((goL L n).2.2 ≠ 0 → (goL L n).1 = [] ∧ n + 1 ≤ (goL L n).2.1)
  | [], n => ⟨fun _ => rfl, fun h => absurd rfl h⟩
  | t :: r, n => by
    have ih := goL_err r (n + 1)
    rcases line_ways t with ⟨h1, h2⟩ | ⟨h1, h2⟩ | ⟨a, b, fs, h1⟩
    · rw [goL_skip r n h1 h2]
      exact ⟨ih.1, fun h => ⟨(ih.2 h).1, by have := (ih.2 h).2; omega⟩⟩
    · rw [goL_bad r n h1 h2]
      exact ⟨fun h => absurd h h2, fun _ => ⟨rfl, Nat.le_refl _⟩⟩
    · rw [goL_rec r n h1]
      by_cases h0 : (goL r (n + 1)).2.2 = 0
      · rw [if_pos h0]
        exact ⟨fun _ => rfl, fun h => absurd rfl h⟩
      · rw [if_neg h0]
        exact ⟨fun h => absurd h h0, fun h => ⟨(ih.2 h).1, by have := (ih.2 h).2; omega⟩⟩
/-- one below the other -/
theorem goL_app : ∀ (L M : List ByteArray) (n : Nat), goL (L ++ M) n = if (goL L n).2.2 = 0 then (if (goL M (n + L.length)).2.2 = 0 then ((goL L n).1 ++ (goL M (n + L.length)).1, 0, 0) else goL M (n + L.length)) else goL L n
  | [], M, n => by
    show goL M n = if (0 : Int) = 0 then (if (goL M (n + 0)).2.2 = 0 then ([] ++ (goL M (n + 0)).1, 0, 0) else goL M (n + 0)) else _
    rw [if_pos rfl, Nat.add_zero]
    split
    · rename_i h
      have h1 := (goL_err M n).1 h
      rw [List.nil_append]
      exact Prod.ext rfl (Prod.ext h1 h)
    · rfl
  | t :: r, M, n => by
    have ih := goL_app r M (n + 1)
    have e : n + (t :: r).length = n + 1 + r.length := by rw [List.length_cons]; omega
    rw [List.cons_append, e]
    rcases line_ways t with ⟨h1, h2⟩ | ⟨h1, h2⟩ | ⟨a, b, fs, h1⟩
    · rw [goL_skip r n h1 h2, goL_skip (r ++ M) n h1 h2]
      exact ih
    · rw [goL_bad r n h1 h2, goL_bad (r ++ M) n h1 h2]
      exact (if_neg h2).symm
    · rw [goL_rec r n h1, goL_rec (r ++ M) n h1, ih]
      generalize goL M (n + 1 + r.length) = V
      generalize goL r (n + 1) = U
      by_cases h1 : U.2.2 = 0
      · by_cases h2 : V.2.2 = 0
        · simp [h1, h2]
        · simp [h1, h2]
      · simp [h1]
def shiftR (k : Nat) (r : Rc) : Rc := (r.1 + k, r.2)
theorem goL_shift (k : Nat) : ∀ (L : List ByteArray) (n : Nat), goL L (n + k) = if (goL L n).2.2 = 0 then ((goL L n).1.map (shiftR k), 0, 0) else ([], (goL L n).2.1 + k, (goL L n).2.2)
  | [], n => by simp [goL]
  | t :: r, n => by
    have ih := goL_shift k r (n + 1)
    rw [show n + 1 + k = n + k + 1 by omega] at ih
    rcases line_ways t with ⟨h1, h2⟩ | ⟨h1, h2⟩ | ⟨a, b, fs, h1⟩
    · rw [goL_skip r n h1 h2, goL_skip r (n + k) h1 h2]
      exact ih
    · rw [goL_bad r n h1 h2, goL_bad r (n + k) h1 h2]
      show _ = if (lineB t).1 = 0 then _ else _
      rw [if_neg h2, show n + 1 + k = n + k + 1 by omega]
    · rw [goL_rec r n h1, goL_rec r (n + k) h1, ih]
      generalize goL r (n + 1) = U
      by_cases h1 : U.2.2 = 0
      · simp [h1, shiftR]
        omega
      · simp [h1]

/-- texts' sizes, a byte behind each -/
def sizes (L : List ByteArray) : Nat := (L.map fun x => x.size + 1).sum
theorem sizes_split (c : UInt8) : ∀ (n : Nat) (s : ByteArray), s.size ≤ n → sizes (splitT c s) = s.size + 1
  | n, s, h => by
    obtain ⟨x, r, e, _, h3⟩ := splitT_cons c s
    rw [e]
    rcases h3 with ⟨rfl, rfl⟩ | ⟨q, h4, rfl⟩
    · simp [sizes]
    · have hs : s.size = x.size + 1 + q.size := by
        rw [h4, ByteArray.size_append, ByteArray.size_append]
        rfl
      cases n with
      | zero => omega
      | succ n =>
        have ih := sizes_split c n q (by omega)
        unfold sizes at ih ⊢
        rw [List.map_cons, List.sum_cons, ih]
        omega
theorem sizes_mem {L : List ByteArray} {x : ByteArray} (h : x ∈ L) : x.size + 1 ≤ sizes L := by
  induction L with
  | nil => cases h
  | cons y r ih =>
    unfold sizes at ih ⊢
    rw [List.map_cons, List.sum_cons]
    rcases List.mem_cons.1 h with rfl | h
    · omega
    · have := ih h
      omega
theorem ends_size {s : ByteArray} {v : Nat × Nat} (h : endsB s = some v) : 4 ≤ s.size := by
  have h4 : ∀ t : ByteArray, codeB t ≠ none → 4 ≤ t.size := fun t ht => by
    unfold codeB at ht
    split at ht
    · rename_i h; exact h.1
    · exact absurd rfl ht
  have h5 := (cut_size s ⟨#[46, 46]⟩).1
  have h6 := h4 (cutH s ⟨#[46, 46]⟩)
  unfold endsB ends2 at h
  cases hc : codeB (cutH s ⟨#[46, 46]⟩) with
  | none => rw [hc] at h; revert h; cases cutIs s ⟨#[46, 46]⟩ <;> simp
  | some k =>
    rw [hc] at h6
    have := h6 (by simp)
    omega
/-- a record is at least five bytes -/
theorem line_size {t : ByteArray} {v : Nat × Nat × List ByteArray} (h : (lineB t).2 = some v) : 5 ≤ t.size := by
  obtain ⟨_, _, ⟨a, b, he, _⟩, h2, _⟩ := line_some h
  have hb : (bodyB t).size ≤ t.size := Nat.le_trans (trimT_size _) (cut_size _ _).1
  have h4 := ends_size he
  unfold partsB at h2 h4
  have hs := sizes_split 59 _ (bodyB t) (Nat.le_refl _)
  cases hq : splitT 59 (bodyB t) with
  | nil => rw [hq] at h2; simp at h2
  | cons x r =>
    rw [hq] at h2 h4 hs
    rw [List.map_cons, List.headD_cons] at h4
    have hx := trimT_size x
    cases r with
    | nil => simp at h2
    | cons y q =>
      unfold sizes at hs
      rw [List.map_cons, List.sum_cons, List.map_cons, List.sum_cons] at hs
      omega
theorem cnt_sizes : ∀ L : List ByteArray, 6 * cntL L ≤ sizes L
  | [] => Nat.le_refl _
  | t :: r => by
    have ih := cnt_sizes r
    unfold cntL sizes
    rw [List.map_cons, List.sum_cons]
    unfold sizes at ih
    cases hl : (lineB t).2 with
    | none => simp; omega
    | some v =>
      have := line_size hl
      simp
      omega
/-- a file of moderate size -/
theorem file_go {s : ByteArray} (h : s.size ≤ 1700) : fileB s = goL (splitT 10 s) 0 := by
  unfold fileB
  have h1 := cnt_sizes (splitT 10 s)
  rw [sizes_split 10 _ s (Nat.le_refl _)] at h1
  rw [if_neg (by omega), readL_go _ _ _ (by simp; omega)]
  have h2 := (goL_err (splitT 10 s) 0).1
  generalize goL (splitT 10 s) 0 = S at *
  split
  · rename_i h0
    obtain ⟨u, v, x⟩ := S
    have hx : x = 0 := h0
    have hv : v = 0 := h2 h0
    subst hx
    subst hv
    rfl
  · rfl
/-- two files, one below the other -/
theorem file_join {s t : ByteArray} (hs : s.size ≤ 600) (ht : t.size ≤ 600) : fileB (s ++ ⟨#[10]⟩ ++ t) = if (fileB s).2.2 ≠ 0 then fileB s else if (fileB t).2.2 ≠ 0 then ([], (fileB t).2.1 + (splitT 10 s).length, (fileB t).2.2) else ((fileB s).1 ++ (fileB t).1.map (shiftR (splitT 10 s).length), 0, 0) := by
  have hsz : (s ++ ⟨#[10]⟩ ++ t).size = s.size + 1 + t.size := by
    rw [ByteArray.size_append, ByteArray.size_append]
    rfl
  rw [file_go (by omega), file_go (s := s) (by omega), file_go (s := t) (by omega), splitT_app, goL_app, goL_shift]
  generalize goL (splitT 10 s) 0 = S
  generalize goL (splitT 10 t) 0 = U
  by_cases h1 : S.2.2 = 0
  · by_cases h2 : U.2.2 = 0
    · simp [h1, h2]
    · simp [h1, h2]
  · simp [h1]
/-- how many lines -/
theorem split_count (c : UInt8) : ∀ (n : Nat) (l : List UInt8), l.length ≤ n → (Lib.split l [c]).length = l.count c + 1
  | n, l, h => by
    rcases first_of c l with h1 | ⟨x, q, rfl, h2⟩
    · rw [split_miss h1, List.count_eq_zero_of_not_mem h1]
      rfl
    · cases n with
      | zero => simp at h
      | succ n =>
        rw [split_hit q h2, List.length_cons, split_count c n q (by simp at h; omega), List.count_append, List.count_cons_self, List.count_eq_zero_of_not_mem h2]
        omega
theorem splitT_count (c : UInt8) (s : ByteArray) : (splitT c s).length = s.data.toList.count c + 1 := by
  rw [← split_count c _ _ (Nat.le_refl _), ← splitT_data, List.length_map]

/-- the lines' numbers -/
theorem goL_lines : ∀ (L : List ByteArray) (n : Nat), ((goL L n).2.1 ≤ n + L.length) ∧ (∀ x ∈ (goL L n).1, n < x.1 ∧ x.1 ≤ n + L.length) ∧ ((goL L n).1.map (·.1)).Pairwise (· < ·) ∧ (goL L n).1.length ≤ cntL L ∧ ∀ x ∈ (goL L n).1, ∃ t ∈ L, (lineB t).2 = some x.2
  | [], n => ⟨Nat.zero_le _, fun x hx => by simp [goL] at hx, List.Pairwise.nil, Nat.le_refl _, fun x hx => by simp [goL] at hx⟩
  | t :: r, n => by
    obtain ⟨i1, i2, i3, i4, i5⟩ := goL_lines r (n + 1)
    rw [List.length_cons]
    unfold cntL
    rcases line_ways t with ⟨h1, h2⟩ | ⟨h1, h2⟩ | ⟨a, b, fs, h1⟩
    · rw [goL_skip r n h1 h2, h1]
      exact ⟨by omega, fun x hx => by have := i2 x hx; omega, i3, by simpa using i4, fun x hx => let ⟨t', ht, e⟩ := i5 x hx; ⟨t', List.mem_cons_of_mem _ ht, e⟩⟩
    · rw [goL_bad r n h1 h2]
      exact ⟨by show n + 1 ≤ _; omega, fun x hx => (by simp at hx), List.Pairwise.nil, Nat.zero_le _, fun x hx => (by simp at hx)⟩
    · rw [goL_rec r n h1, h1]
      split
      · refine ⟨Nat.zero_le _, ?_, ?_, ?_, ?_⟩
        · intro x hx
          rcases List.mem_cons.1 hx with rfl | hx
          · exact ⟨Nat.lt_succ_self _, by show n + 1 ≤ _; omega⟩
          · have := i2 x hx
            omega
        · show (List.map (·.1) ((n + 1, a, b, fs) :: (goL r (n + 1)).1)).Pairwise _
          rw [List.map_cons, List.pairwise_cons]
          refine ⟨fun y hy => ?_, i3⟩
          obtain ⟨x, hx, rfl⟩ := List.mem_map.1 hy
          exact (i2 x hx).1
        · simp
          omega
        · intro x hx
          rcases List.mem_cons.1 hx with rfl | hx
          · exact ⟨t, List.mem_cons_self, h1⟩
          · obtain ⟨t', ht, e⟩ := i5 x hx
            exact ⟨t', List.mem_cons_of_mem _ ht, e⟩
      · exact ⟨by omega, fun x hx => by have := i2 x hx; omega, i3, by simp; omega, fun x hx => let ⟨t', ht, e⟩ := i5 x hx; ⟨t', List.mem_cons_of_mem _ ht, e⟩⟩
/-- a file's records and lines, few -/
theorem file_few {s : ByteArray} (h : s.size ≤ 600) : (fileB s).2.1 ≤ 601 ∧ (fileB s).1.length ≤ 101 ∧ ∀ x ∈ (fileB s).1, x.1 ≤ 601 := by
  rw [file_go (by omega)]
  obtain ⟨i1, i2, _, i4, _⟩ := goL_lines (splitT 10 s) 0
  have h1 := (splitT_len 10 s).2
  have h2 := cnt_sizes (splitT 10 s)
  rw [sizes_split 10 _ s (Nat.le_refl _)] at h2
  exact ⟨by omega, by omega, fun x hx => by have := i2 x hx; omega⟩
end Go.Proofs.YtdmkjchmcgjjmaaDoor
