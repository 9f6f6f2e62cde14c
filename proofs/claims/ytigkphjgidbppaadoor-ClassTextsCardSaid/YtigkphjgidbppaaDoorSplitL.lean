/- Plain: texts joined by blanks and split again. No program in sight. -/
import Derived.Test.YtigkphjgidbppaaDoorPar
namespace Go.Proofs.YtigkphjgidbppaaDoor
open Go Go.RowKit

theorem byte_miss {c : UInt8} : ∀ {x : List UInt8}, c ∉ x → Lib.indexByte x c = -1
  | [], _ => rfl
  | b :: l, h => by
    have h1 : (b == c) = false := beq_eq_false_iff_ne.2 fun e => h (by simp [e])
    have h2 := byte_miss (c := c) (x := l) (fun e => h (by simp [e]))
    unfold Lib.indexByte
    rw [h1, h2]
    rfl
theorem byte_hit {c : UInt8} (r : List UInt8) : ∀ {x : List UInt8}, c ∉ x → Lib.indexByte (x ++ c :: r) c = (x.length : Nat)
  | [], _ => by simp [Lib.indexByte]
  | b :: l, h => by
    have h1 : (b == c) = false := beq_eq_false_iff_ne.2 fun e => h (by simp [e])
    have h2 := byte_hit r (c := c) (x := l) (fun e => h (by simp [e]))
    rw [List.cons_append]
    unfold Lib.indexByte
    rw [h1, h2, List.length_cons]
    rw [if_neg (by decide), if_neg (by rw [beq_iff_eq]; omega)]
    omega
theorem split_miss {x : List UInt8} (h : (32 : UInt8) ∉ x) : Lib.split x [32] = [x] := by
  have hi : Lib.index x [32] = -1 := by rw [Lib.index_one, byte_miss h]
  unfold Lib.split
  rw [Lib.count_miss hi]
  rfl
theorem split_hit {x : List UInt8} (r : List UInt8) (h : (32 : UInt8) ∉ x) : Lib.split (x ++ 32 :: r) [32] = x :: Lib.split r [32] := by
  have hi : Lib.index (x ++ 32 :: r) [32] = (x.length : Nat) := by rw [Lib.index_one, byte_hit r h]
  have hd : (x ++ 32 :: r).drop (x.length + ([32] : List UInt8).length) = r := by
    rw [← List.drop_drop]
    simp
  unfold Lib.split
  rw [Lib.count_hit (by simp) hi, hd, Nat.add_comm 1]
  conv => lhs; unfold Lib.splitK
  rw [if_neg (by rw [hi, beq_iff_eq]; omega), hi]
  rw [show ((x.length : Nat) : Int).toNat = x.length by omega, hd]
  rw [Nat.add_zero, List.take_left' rfl]
theorem splitT_data (s : ByteArray) : (splitT s).map (·.data.toList) = Lib.split s.data.toList [32] := Lib.splitB_data ⟨#[32]⟩ 0 _ s

theorem split_join : ∀ xs : List (List UInt8), xs ≠ [] → (∀ x ∈ xs, (32 : UInt8) ∉ x) → Lib.split (Lib.join xs [32]) [32] = xs
  | [], h, _ => absurd rfl h
  | [x], _, h => by rw [Lib.join_one, split_miss (h x (by simp))]
  | x :: y :: r, _, h => by
    have ih := split_join (y :: r) (by simp) (fun z hz => h z (by simp [hz]))
    have e : Lib.join (x :: y :: r) [32] = x ++ 32 :: Lib.join (y :: r) [32] := by
      rw [Lib.join_cons, Lib.join_cons]
      simp [Lib.joinTail]
    rw [e, split_hit _ (h x (by simp)), ih]
theorem data_inj {s t : ByteArray} (h : s.data.toList = t.data.toList) : s = t := Go.WideShapes.bytes_inj h
theorem joinB_data (xs : List ByteArray) : (joinB xs).data.toList = Lib.join (xs.map (·.data.toList)) [32] := by simp [joinB]
theorem splitT_join (xs : List ByteArray) (h0 : xs ≠ []) (h : ∀ x ∈ xs, (32 : UInt8) ∉ x.data.toList) : splitT (joinB xs) = xs := by
  have h1 := splitT_data (joinB xs)
  rw [joinB_data, split_join _ (by simpa using h0) (fun x hx => by
    obtain ⟨y, hy, rfl⟩ := List.mem_map.1 hx
    exact h y hy)] at h1
  exact (List.map_inj_right (fun _ _ => data_inj)).1 h1
end Go.Proofs.YtigkphjgidbppaaDoor
