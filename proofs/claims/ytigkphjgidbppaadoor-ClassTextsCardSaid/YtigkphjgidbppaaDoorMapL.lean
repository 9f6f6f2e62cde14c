/- Plain: the map of names and their numbers; when texts are names. No program in sight. -/
import Derived.Test.YtigkphjgidbppaaDoorAre
import Derived.Test.YtigkphjgidbppaaDoorOpen
import Derived.Maps.Views
namespace Go.Proofs.YtigkphjgidbppaaDoor
open Go Go.RowKit

theorem snocInd {α : Type} {p : List α → Prop} (h0 : p []) (h1 : ∀ l x, p l → p (l ++ [x])) (l : List α) : p l := by
  rw [← List.reverse_reverse l]
  induction l.reverse with
  | nil => exact h0
  | cons x r ih => rw [List.reverse_cons]; exact h1 _ _ ih

def keyS (s : ByteArray) : Lit := .string s.data.toList
theorem keyS_inj {s t : ByteArray} (h : keyS s = keyS t) : s = t := by
  unfold keyS at h
  injection h with h
  cases s; cases t
  simp only [ByteArray.mk.injEq]
  exact Array.toList_inj.1 h
theorem keyS_lit (s : ByteArray) : WideAt.IsKeyLit (keyS s) := by
  unfold keyS
  simp [WideAt.IsKeyLit]

theorem mapTo_tidy (ys : List (Int × ByteArray)) : Maps.Tidy (mapTo ys) := by
  induction ys using snocInd with
  | h0 => exact Maps.tidy_empty
  | h1 ys p ih => rw [mapTo_snoc]; exact ih.put (keyS_lit p.2) _

theorem mapTo_has (ys : List (Int × ByteArray)) (s : ByteArray) : Maps.has (mapTo ys) (keyS s) = true ↔ s ∈ ys.map Prod.snd := by
  induction ys using snocInd with
  | h0 => simp [mapTo, Maps.has]
  | h1 ys p ih =>
    rw [mapTo_snoc, List.map_append, List.mem_append]
    by_cases h : p.2 = s
    · subst h
      rw [show Lit.string p.2.data.toList = keyS p.2 from rfl, Maps.has_put_same (mapTo_tidy ys).isMap (keyS_lit _)]
      simp
    · rw [show Lit.string p.2.data.toList = keyS p.2 from rfl, Maps.has_put_other (fun e => h (keyS_inj e).symm), ih]
      simp [Ne.symm h]

theorem mapTo_size (ys : List (Int × ByteArray)) : Maps.size (mapTo ys) ≤ ys.length ∧ (Maps.size (mapTo ys) = ys.length ↔ (ys.map Prod.snd).Nodup) := by
  induction ys using snocInd with
  | h0 => simp [mapTo, Maps.size]
  | h1 ys p ih =>
    rw [mapTo_snoc, Maps.size_put (mapTo_tidy ys)]
    have hh := mapTo_has ys p.2
    rw [show Lit.string p.2.data.toList = keyS p.2 from rfl, List.map_append, List.map_cons, List.map_nil, List.length_append, List.length_cons, List.length_nil, List.nodup_append]
    by_cases h : Maps.has (mapTo ys) (keyS p.2) = true
    · rw [if_pos h]
      have hm := hh.1 h
      refine ⟨by omega, fun e => by omega, fun e => ?_⟩
      exact absurd rfl (e.2.2 _ hm _ (List.mem_singleton.2 rfl))
    · rw [if_neg h]
      have hm : p.2 ∉ ys.map Prod.snd := fun x => h (hh.2 x)
      refine ⟨by omega, fun e => ⟨ih.2.1 (by omega), by simp, fun a ha b hb => ?_⟩, fun e => by have := ih.2.2 e.1; omega⟩
      rw [List.mem_singleton.1 hb]
      exact fun e => hm (e ▸ ha)

theorem mapTo_at (ys : List (Int × ByteArray)) (hn : (ys.map Prod.snd).Nodup) (z : DataW Unit) (p : Int × ByteArray) (hp : p ∈ ys) : (mapTo ys).atKey (keyS p.2) z = .lit (.int .i64 p.1) := by
  induction ys using snocInd with
  | h0 => cases hp
  | h1 ys q ih =>
    rw [mapTo_snoc]
    rw [List.map_append, List.map_cons, List.map_nil, List.nodup_append] at hn
    by_cases h : p ∈ ys
    · have hne : keyS p.2 ≠ Lit.string q.2.data.toList := fun e => hn.2.2 _ (List.mem_map_of_mem h) _ (List.mem_singleton.2 rfl) (keyS_inj e)
      rw [Maps.atKey_put_other hne]
      exact ih hn.1 h
    · rw [List.mem_append, List.mem_singleton] at hp
      rcases hp with hp | rfl
      · exact absurd hp h
      · exact Maps.atKey_put_same (mapTo_tidy ys).isMap (keyS_lit _) _ z

theorem bwd_snd (l : List ByteArray) : ∀ j, j ≤ l.length → (bwdTo l j).map Prod.snd = (l.take j).reverse
  | 0, _ => by simp [bwdTo]
  | j + 1, h => by
    unfold bwdTo
    rw [List.map_cons, bwd_snd l j (by omega), List.take_succ_eq_append_getElem (by omega), List.reverse_append, getD_get (show j < l.length by omega)]
    rfl

theorem nodup_rev {α : Type} {l : List α} : l.reverse.Nodup ↔ l.Nodup := List.Perm.nodup_iff (List.reverse_perm l)

theorem upTo_snd (l : List ByteArray) : ∀ k, k ≤ l.length → (upTo l k).map Prod.snd = l.take k
  | 0, _ => by simp [upTo]
  | k + 1, h => by
    rw [upTo_step l (by omega), List.map_append, upTo_snd l k (by omega), List.take_succ_eq_append_getElem (by omega)]
    rfl
theorem upTo_mem (l : List ByteArray) {k : Nat} (h : k < l.length) : ((k : Int), l[k]) ∈ upTo l l.length := by
  unfold upTo
  rw [List.mem_map]
  exact ⟨k, List.mem_range.2 h, by rw [getD_get h]⟩

/-- the names' law -/
theorem names_iff (l : List ByteArray) : namesB l = true ↔ 1 ≤ l.length ∧ l.length ≤ 32 ∧ l.Nodup ∧ ∀ s ∈ l, isNameB s = true := by
  have hs := mapTo_size (bwdTo l l.length)
  rw [bwdTo_len, bwd_snd l l.length (Nat.le_refl _), List.take_length, nodup_rev] at hs
  unfold namesB
  simp only [Bool.and_eq_true, decide_eq_true_eq, Bool.not_eq_true', List.any_eq_false, hs.2]
  constructor
  · rintro ⟨a, b, c, d⟩; exact ⟨a, b, c, fun s h => by simpa using d s h⟩
  · rintro ⟨a, b, c, d⟩; exact ⟨a, b, c, fun s h => by simp [d s h]⟩

/-- a name's number -/
def numB (l : List ByteArray) (s : ByteArray) : Option Nat := l.findIdx? fun t => decide (t = s)
theorem num_some {l : List ByteArray} {s : ByteArray} {i : Nat} (h : numB l s = some i) : ∃ hi : i < l.length, l[i] = s := by
  unfold numB at h
  rw [List.findIdx?_eq_some_iff_getElem] at h
  obtain ⟨hi, h1, _⟩ := h
  exact ⟨hi, by simpa using h1⟩
theorem num_none {l : List ByteArray} {s : ByteArray} (h : numB l s = none) : s ∉ l := by
  unfold numB at h
  rw [List.findIdx?_eq_none_iff] at h
  intro hs
  have := h s hs
  simp at this
theorem num_at {l : List ByteArray} (hn : l.Nodup) {i : Nat} (hi : i < l.length) : numB l l[i] = some i := by
  cases h : numB l l[i] with
  | none => exact absurd (List.getElem_mem hi) (num_none h)
  | some j =>
    obtain ⟨hj, e⟩ := num_some h
    rw [(List.getElem_inj hn).1 e]

/-- what the reader's map says -/
theorem by_has (l : List ByteArray) (s : ByteArray) : Maps.has (mapTo (upTo l l.length)) (keyS s) = (numB l s).isSome := by
  have h := mapTo_has (upTo l l.length) s
  rw [upTo_snd l _ (Nat.le_refl _), List.take_length] at h
  cases hn : numB l s with
  | none =>
    rw [Option.isSome_none, Bool.eq_false_iff]
    exact fun e => num_none hn (h.1 e)
  | some i =>
    obtain ⟨hi, e⟩ := num_some hn
    rw [Option.isSome_some]
    exact h.2 (e ▸ List.getElem_mem hi)
theorem by_at (l : List ByteArray) (hn : l.Nodup) (s : ByteArray) : (mapTo (upTo l l.length)).atKey (keyS s) (.lit (.int .i64 0)) = .lit (.int .i64 ((numB l s).getD 0 : Nat)) := by
  cases h : numB l s with
  | none =>
    rw [Maps.atKey_of_not_has (by rw [by_has, h]; rfl)]
    rfl
  | some i =>
    obtain ⟨hi, e⟩ := num_some h
    have h2 := mapTo_at (upTo l l.length) (by rw [upTo_snd l _ (Nat.le_refl _), List.take_length]; exact hn) (.lit (.int .i64 0)) _ (upTo_mem l hi)
    rw [← e]
    exact h2
end Go.Proofs.YtigkphjgidbppaaDoor
