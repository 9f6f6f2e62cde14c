/- Plain: a line's remark and its blanks count for nothing. No program in sight. -/
import Derived.Test.YtdmkjchmcgjjmaaDoorRecord
import Derived.Test.YtdmkjchmcgjjmaaDoorSplitL
namespace Go.Proofs.YtdmkjchmcgjjmaaDoor
open Go Go.RowKit

theorem cut1_miss {c : UInt8} {l : List UInt8} (h : c ∉ l) : Lib.cut l [c] = (l, [], false) := by
  unfold Lib.cut
  rw [Lib.index_one, byte_miss h]
  rfl
theorem cut1_hit {c : UInt8} {x : List UInt8} (r : List UInt8) (h : c ∉ x) : Lib.cut (x ++ c :: r) [c] = (x, r, true) := by
  unfold Lib.cut
  rw [Lib.index_one, byte_hit r h, if_pos (by omega), show ((x.length : Nat) : Int).toNat = x.length by omega, List.take_left' rfl, ← List.drop_drop, List.drop_left' rfl]
  rfl
theorem cutH_miss {c : UInt8} {s : ByteArray} (h : c ∉ s.data.toList) : cutH s ⟨#[c]⟩ = s := by
  unfold cutH
  rw [show (⟨#[c]⟩ : ByteArray).data.toList = [c] from rfl, cut1_miss h]
theorem cutH_hit {c : UInt8} {s : ByteArray} {x : List UInt8} (r : List UInt8) (h : c ∉ x) (e : s.data.toList = x ++ c :: r) : cutH s ⟨#[c]⟩ = ⟨x.toArray⟩ := by
  unfold cutH
  rw [show (⟨#[c]⟩ : ByteArray).data.toList = [c] from rfl, e, cut1_hit r h]
/-- the head has no such byte -/
theorem cutH_none (c : UInt8) (s : ByteArray) : c ∉ (cutH s ⟨#[c]⟩).data.toList := by
  rcases first_of c s.data.toList with h | ⟨x, r, e, h⟩
  · rw [cutH_miss h]; exact h
  · rw [cutH_hit r h e]; exact h

section
variable {cs : List UInt8} {b : UInt8} {x : List UInt8}
theorem trimS_snoc (hb : cs.contains b = true) : Lib.trimS (x ++ [b]) cs = Lib.trimS x cs := by
  unfold Lib.trimS Lib.trimRightS
  rw [List.reverse_append, List.reverse_cons, List.reverse_nil, List.nil_append, List.singleton_append, List.dropWhile_cons, if_pos hb]
theorem trimS_cons (hb : cs.contains b = true) : Lib.trimS (b :: x) cs = Lib.trimS x cs := by
  unfold Lib.trimS Lib.trimRightS Lib.trimLeftS
  rw [List.reverse_cons, List.dropWhile_append]
  split
  · rename_i h
    rw [List.isEmpty_iff] at h
    rw [h, List.dropWhile_cons, if_pos hb]
    rfl
  · rw [List.reverse_append, List.reverse_cons, List.reverse_nil, List.nil_append, List.singleton_append, List.dropWhile_cons, if_pos hb]
end
theorem trimT_of {s t : ByteArray} (h : Lib.trimS s.data.toList [32, 9, 13] = Lib.trimS t.data.toList [32, 9, 13]) : trimT s = trimT t := by
  unfold trimT
  rw [h]

/-- a line with a remark -/
theorem body_remark (s t : ByteArray) : bodyB (⟨#[32]⟩ ++ s ++ ⟨#[9, 35]⟩ ++ t) = bodyB s := by
  unfold bodyB
  have e : (⟨#[32]⟩ ++ s ++ ⟨#[9, 35]⟩ ++ t : ByteArray).data.toList = 32 :: (s.data.toList ++ 9 :: 35 :: t.data.toList) := by simp
  rcases first_of 35 s.data.toList with h | ⟨x, r, e1, h⟩
  · have e2 : (⟨#[32]⟩ ++ s ++ ⟨#[9, 35]⟩ ++ t : ByteArray).data.toList = (32 :: (s.data.toList ++ [9])) ++ 35 :: t.data.toList := by rw [e]; simp
    have h2 : (35 : UInt8) ∉ 32 :: (s.data.toList ++ [9]) := by
      intro hm
      rcases List.mem_cons.1 hm with hm | hm
      · exact absurd hm (by decide)
      · rcases List.mem_append.1 hm with hm | hm
        · exact h hm
        · exact absurd hm (by decide)
    rw [cutH_hit _ h2 e2, cutH_miss h]
    apply trimT_of
    show Lib.trimS (32 :: (s.data.toList ++ [9])) _ = _
    rw [trimS_cons rfl, trimS_snoc rfl]
  · have e2 : (⟨#[32]⟩ ++ s ++ ⟨#[9, 35]⟩ ++ t : ByteArray).data.toList = (32 :: x) ++ 35 :: (r ++ 9 :: 35 :: t.data.toList) := by rw [e, e1]; simp
    have h2 : (35 : UInt8) ∉ 32 :: x := by
      intro hm
      rcases List.mem_cons.1 hm with hm | hm
      · exact absurd hm (by decide)
      · exact h hm
    rw [cutH_hit _ h2 e2, cutH_hit r h e1]
    apply trimT_of
    show Lib.trimS (32 :: x) _ = Lib.trimS x _
    rw [trimS_cons rfl]
theorem line_of_body {s t : ByteArray} (h : bodyB s = bodyB t) : lineB s = lineB t := by
  unfold lineB partsB
  rw [h]
theorem line_remark (s t : ByteArray) : lineB (⟨#[32]⟩ ++ s ++ ⟨#[9, 35]⟩ ++ t) = lineB s := line_of_body (body_remark s t)
end Go.Proofs.YtdmkjchmcgjjmaaDoor
