/- The reference's list: a set's names, joined by blanks. Conditions: the slice reads as the texts; the set's classes are below their number. -/
import Derived.Test.YtigkphjgidbppaaDoorRefC
import Derived.Test.YtigkphjgidbppaaDoorRefN
import Derived.Test.YtigkphjgidbppaaDoorPrint
namespace Go.Proofs.YtigkphjgidbppaaDoor
open Go Go.RowKit

theorem joinB_one (x : ByteArray) : joinB [x] = x := Go.WideShapes.bytes_inj (by simp [joinB, Lib.join_one])
theorem joinB_snoc (xs : List ByteArray) (x : ByteArray) (h : xs ≠ []) : joinB (xs ++ [x]) = joinB xs ++ ⟨#[32]⟩ ++ x := by
  apply Go.WideShapes.bytes_inj
  cases xs with
  | nil => exact absurd rfl h
  | cons y r =>
    rw [List.cons_append]
    simp [joinB, Lib.join_cons, Lib.joinTail]

set_option maxRecDepth 100000 in
set_option maxHeartbeats 4000000 in
theorem refList_any (set : Int) (A : Option Addr) (n c : Nat) (l : List ByteArray) (w : World) (hr : Rds w w.heap.size 1 A n (strCells l)) (hP : ∀ c : Int, hasB set c = true → 0 ≤ c ∧ c < l.length) (hz : ∀ x ∈ l, x.size ≤ 40) :
    Calls Tryd.prog 34 #[.int .i64 set, .slice A n c] w (Freed w (.string (listB set l))) := by
  obtain rfl := hr.str_len
  have hmx := hr.2.1
  have hcl := cls_len set
  have hmem : ∀ c ∈ classesB set, 0 ≤ c ∧ c < l.length := fun c hc => hP c (classes_mem.1 hc)
  have HRC := hide (refClasses_any set w)
  have HLB := hide (show listB set l = joinB (namesOf l (classesB set)) from rfl)
  obtain ⟨S, hS⟩ : ∃ S, S = listB set l := ⟨_, rfl⟩
  rw [← hS] at HLB
  rw [← hS]
  clear hS hP
  generalize classesB set = cs at *
  go_enter Tryd.func34, Tryd.ntmps34
  go_wp2_with fail
  refine HRC.out.mono ?_
  rintro e w1 ⟨A1, c1, rfl, -, h1, b1⟩
  have HR1 := hide h1
  have HR := hide (hr.below b1)
  have hm1 := h1.2.1
  clear h1 hr HRC
  go_wp2_with fail
  go_loopw [5, 7] (fun s5 s7 wr => ∃ (i : Nat), i ≤ cs.length ∧ s7 = .int .i64 (i : Int) ∧ s5 = .string (joinB (namesOf l (cs.take i))) ∧ wr = w1) (fun _ i _ => cs.length - (intOf i).toNat)
  case atStart => exact ⟨0, Nat.zero_le _, rfl, rfl, rfl⟩
  case round =>
    obtain ⟨i, hi, rfl, rfl, rfl⟩ := hrel
    by_cases hlt : i < cs.length
    · obtain ⟨bb, oo, rfl, -, ck⟩ := HR1.out.int hlt
      obtain ⟨a0, a1⟩ := hmem _ (List.getElem_mem hlt)
      have HT := hide (show namesOf l (cs.take (i + 1)) = namesOf l (cs.take i) ++ [l.getD (cs[i]'hlt).toNat ByteArray.empty] by rw [List.take_succ_eq_append_getElem hlt, namesOf_snoc])
      generalize cs[i] = cc at *
      obtain ⟨d, rfl⟩ : ∃ d : Nat, cc = (d : Int) := ⟨cc.toNat, by omega⟩
      have hd : d < l.length := by omega
      obtain ⟨b2, o2, rfl, -, ck2⟩ := HR.out.str hd
      rw [show ((d : Nat) : Int).toNat = d by omega, getD_get hd] at HT
      have hls := hz _ (List.getElem_mem hd)
      have hjl := join_size (namesOf l (cs.take i)) 40 (fun x hx => by
        unfold namesOf at hx
        obtain ⟨c, hc, rfl⟩ := List.mem_map.1 hx
        obtain ⟨y0, y1⟩ := hmem c (List.mem_of_mem_take hc)
        rw [getD_get (show c.toNat < l.length by omega)]
        exact hz _ (List.getElem_mem _))
      rw [namesOf_length, List.length_take] at hjl
      have HLEN := hide (show (namesOf l (cs.take i)).length = min i cs.length by rw [namesOf_length, List.length_take])
      generalize l[d] = t at *
      generalize hxs : namesOf l (cs.take i) = xs at *
      by_cases h0 : i = 0
      · subst h0
        rw [Nat.add_zero] at ck
        have HJ := hide (show joinB (xs ++ [t]) = joinB xs ++ t by
          have : xs = [] := List.length_eq_zero_iff.1 (by rw [HLEN.out]; omega)
          rw [this, List.nil_append, joinB_one]
          exact Go.WideShapes.bytes_inj (by simp [joinB, Lib.join_nil]))
        generalize joinB xs = J at *
        clear hmem hxs
        go_wp2_with fail
        go_roundw
        case rel => exact ⟨1, by omega, by simp, by rw [HT.out, HJ.out], trivial⟩
        case measure => simp [intOf]; omega
      · have hp : (0 : Int) < (i : Int) := by omega
        have HJ := hide (joinB_snoc xs t (fun e => by have := HLEN.out; rw [e] at this; simp at this; omega))
        generalize joinB xs = J at *
        clear hmem h0 hxs
        have e32 : (⟨#[32]⟩ : ByteArray).size = 1 := rfl
        go_wp2_with fail
        go_roundw
        case rel => exact ⟨i + 1, by omega, by simp, by rw [HT.out, HJ.out], trivial⟩
        case measure => simp [intOf]; omega
    · obtain rfl : i = cs.length := by omega
      have HF := hide (show joinB (namesOf l (cs.take cs.length)) = S by rw [List.take_length, HLB.out])
      generalize joinB (namesOf l (cs.take cs.length)) = J at *
      go_wp2_with fail
      go_ret
      exact ⟨by rw [← HF.out]; rfl, b1⟩
end Go.Proofs.YtigkphjgidbppaaDoor
