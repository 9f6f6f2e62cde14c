/- Plain: texts split by a byte. No program in sight. -/
import Derived.Test.YtdmkjchmcgjjmaaDoorSplit
namespace Go.Proofs.YtdmkjchmcgjjmaaDoor
open Go Go.RowKit

theorem byte_miss {c : UInt8} : ∀ {x : List UInt8}, c ∉ x → Lib.indexByte x c = -1
  | [], _ => rfl
  | b :: l, h => by
    have h1 : (b == c) = false := beq_eq_false_iff_ne.2 fun e => h (by simp [e])
    have h2 := byte_miss (c := c) (x := l) (fun e => h (by simp [e]))
    unfold Lib.indexByte
    rw [h1, h2]
    rfl
theorem byte_hit {c : UInt8} (r : List UInt8) : ∀ {x : List UInt8}, c ∉ x → Lib.indexByte (x ++ c :: r) c = (x.length : Nat)
  | [], _ => by simp [Lib.indexByte]
  | b :: l, h => by
    have h1 : (b == c) = false := beq_eq_false_iff_ne.2 fun e => h (by simp [e])
    have h2 := byte_hit r (c := c) (x := l) (fun e => h (by simp [e]))
    rw [List.cons_append]
    unfold Lib.indexByte
    rw [h1, h2, List.length_cons]
    rw [if_neg (by decide), if_neg (by rw [beq_iff_eq]; omega)]
    omega
theorem split_miss {c : UInt8} {x : List UInt8} (h : c ∉ x) : Lib.split x [c] = [x] := by
  have hi : Lib.index x [c] = -1 := by rw [Lib.index_one, byte_miss h]
  unfold Lib.split
  rw [Lib.count_miss hi]
  rfl
theorem split_hit {c : UInt8} {x : List UInt8} (r : List UInt8) (h : c ∉ x) : Lib.split (x ++ c :: r) [c] = x :: Lib.split r [c] := by
  have hi : Lib.index (x ++ c :: r) [c] = (x.length : Nat) := by rw [Lib.index_one, byte_hit r h]
  have hd : (x ++ c :: r).drop (x.length + ([c] : List UInt8).length) = r := by
    rw [← List.drop_drop]
    simp
  unfold Lib.split
  rw [Lib.count_hit (by simp) hi, hd, Nat.add_comm 1]
  conv => lhs; unfold Lib.splitK
  rw [if_neg (by rw [hi, beq_iff_eq]; omega), hi]
  rw [show ((x.length : Nat) : Int).toNat = x.length by omega, hd]
  rw [Nat.add_zero, List.take_left' rfl]
theorem splitT_data (c : UInt8) (s : ByteArray) : (splitT c s).map (·.data.toList) = Lib.split s.data.toList [c] := Lib.splitB_data ⟨#[c]⟩ 0 _ s
/-- a text has no byte c, or a first one -/
theorem first_of (c : UInt8) : ∀ l : List UInt8, c ∉ l ∨ ∃ x r, l = x ++ c :: r ∧ c ∉ x
  | [] => .inl (by simp)
  | b :: l => by
    by_cases h : b = c
    · exact .inr ⟨[], l, by rw [h]; rfl, by simp⟩
    · rcases first_of c l with h1 | ⟨x, r, rfl, h2⟩
      · exact .inl (by simp [Ne.symm h, h1])
      · exact .inr ⟨b :: x, r, rfl, by simp [Ne.symm h, h2]⟩
theorem split_app (c : UInt8) (r : List UInt8) : ∀ (n : Nat) (l : List UInt8), l.length ≤ n → Lib.split (l ++ c :: r) [c] = Lib.split l [c] ++ Lib.split r [c]
  | n, l, h => by
    rcases first_of c l with h1 | ⟨x, q, rfl, h2⟩
    · rw [split_hit r h1, split_miss h1]; rfl
    · cases n with
      | zero => simp at h
      | succ n =>
        rw [List.append_assoc, List.cons_append, split_hit _ h2, split_hit q h2, split_app c r n q (by simp at h; omega)]
        rfl
theorem splitT_app (c : UInt8) (s t : ByteArray) : splitT c (s ++ ⟨#[c]⟩ ++ t) = splitT c s ++ splitT c t := by
  apply (List.map_inj_right (f := fun x : ByteArray => x.data.toList) (fun _ _ => data_inj)).1
  rw [List.map_append, splitT_data, splitT_data, splitT_data, ← split_app c _ _ _ (Nat.le_refl _)]
  congr 1
  simp
theorem splitT_miss {c : UInt8} {s : ByteArray} (h : c ∉ s.data.toList) : splitT c s = [s] := by
  apply (List.map_inj_right (f := fun x : ByteArray => x.data.toList) (fun _ _ => data_inj)).1
  rw [splitT_data, split_miss h]
  rfl
theorem splitT_hit {c : UInt8} {x r : ByteArray} (h : c ∉ x.data.toList) : splitT c (x ++ ⟨#[c]⟩ ++ r) = x :: splitT c r := by
  rw [splitT_app, splitT_miss h]
  rfl
/-- a text's first part -/
theorem splitT_cons (c : UInt8) (s : ByteArray) : ∃ (x : ByteArray) (r : List ByteArray), splitT c s = x :: r ∧ c ∉ x.data.toList ∧ ((r = [] ∧ s = x) ∨ ∃ q, s = x ++ ⟨#[c]⟩ ++ q ∧ r = splitT c q) := by
  rcases first_of c s.data.toList with h | ⟨x, q, h1, h2⟩
  · exact ⟨s, [], splitT_miss h, h, .inl ⟨rfl, rfl⟩⟩
  · have e : s = ⟨x.toArray⟩ ++ ⟨#[c]⟩ ++ ⟨q.toArray⟩ := data_inj (by rw [h1]; simp)
    exact ⟨⟨x.toArray⟩, splitT c ⟨q.toArray⟩, by rw [e]; exact splitT_hit h2, h2, .inr ⟨_, e, rfl⟩⟩
end Go.Proofs.YtdmkjchmcgjjmaaDoor
