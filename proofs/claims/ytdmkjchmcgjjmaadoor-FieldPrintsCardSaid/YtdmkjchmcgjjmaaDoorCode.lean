/- The program's field.Code. Conditions: the text is shorter than 2^62. -/
import Derived.Test.YtdmkjchmcgjjmaaDoorDig
namespace Go.Proofs.YtdmkjchmcgjjmaaDoor
open Go Go.RowKit

theorem fold_end (s : ByteArray) (n : Nat) : foldX (s.data.toList.drop s.size) n = some n := by
  rw [List.drop_of_length_le (by simp)]
  rfl
theorem fold_step {s : ByteArray} {k : Nat} (h : k < s.size) (n : Nat) : foldX (s.data.toList.drop k) n = match hexV ((s[k]'h).toNat : Int) with | none => none | some d => foldX (s.data.toList.drop (k + 1)) (n * 16 + d) := by
  have hk2 : k < s.data.toList.length := by simpa using h
  rw [drop_cons hk2, show s[k]'h = s.data.toList[k]'hk2 from rfl]
  rfl
theorem hex_big {v : Int} (h : 128 ≤ v) : hexV v = none := by
  unfold hexV
  rw [if_neg (by omega), if_neg (by omega), if_neg (by omega)]
/-- what a code answers -/
def codeV (o : Option Nat) : Value := .tuple #[.int .i64 ((o.getD 0 : Nat) : Int), .bool o.isSome]
theorem codeV_none {o : Option Nat} (h : o = none) : Ending.returned (.tuple #[.int .i64 0, .bool false]) = .returned (codeV o) := by subst h; rfl
theorem codeV_some {o : Option Nat} {n : Nat} (h : o = some n) : Ending.returned (.tuple #[.int .i64 (n : Int), .bool true]) = .returned (codeV o) := by subst h; rfl
theorem zero_i64 (w : World) : (zeroValue 3).run Tryd.prog w = .ok (.int .i64 0) w := Tryd.zeroValue3 w

set_option maxRecDepth 100000 in
set_option maxHeartbeats 4000000 in
theorem Code_any (s : ByteArray) (w : World) (hs : s.size ≤ 4611686018427387904) : Calls Tryd.prog 12 #[.string s] w (Freed w (codeV (codeB s))) := by
  have hdg := digits_any w
  by_cases h1 : s.size < 4
  · have HC := hide (show codeB s = none by unfold codeB; rw [if_neg (by omega)])
    have hb : decide ((s.size : Int) < 4) = true := decide_eq_true (by omega)
    clear hdg h1
    go_enter Tryd.func12, Tryd.ntmps12
    go_wp2_with fail
    go_ret2
    exact ⟨codeV_none HC.out, Below.refl _ _⟩
  by_cases h2 : 6 < s.size
  · have HC := hide (show codeB s = none by unfold codeB; rw [if_neg (by omega)])
    have hb : decide ((s.size : Int) < 4) = false := decide_eq_false (by omega)
    have hb2 : decide ((6 : Int) < (s.size : Int)) = true := decide_eq_true (by omega)
    clear hdg h1 h2
    go_enter Tryd.func12, Tryd.ntmps12
    go_wp2_with fail
    go_ret2
    exact ⟨codeV_none HC.out, Below.refl _ _⟩
  have HC := hide (show codeB s = foldX s.data.toList 0 by unfold codeB; rw [if_pos (by omega)])
  have hb : decide ((s.size : Int) < 4) = false := decide_eq_false (by omega)
  have hb2 : decide ((6 : Int) < (s.size : Int)) = false := decide_eq_false (by omega)
  have HSZ := hide (show s.size ≤ 6 by omega)
  clear h1 h2
  go_enter Tryd.func12, Tryd.ntmps12
  go_wp2_with fail
  refine hdg.mono ?_
  rintro e w1 ⟨bm, rfl, hbm, hm, hb1⟩
  clear hdg
  have hm0 : ∀ k : Nat, (w1.iter s k).ownsMap (H := Unit) Tryd.prog 21 (plainElem Tryd.prog 3) bm 22 (mapI (hexA ++ hexU)) := fun k => hm.alloc _
  have hi0 : ∀ k : Nat, Below w.heap.size w (w1.iter s k) := fun k => hb1.alloc hb1.size _
  clear hm
  go_wp2_with fail
  go_loopg [5] s.size (fun g s5 wx => ∃ (k n : Nat), g = s.size - k ∧ k ≤ s.size ∧ n < 16 ^ k ∧ s5 = .int .i64 (n : Int) ∧ foldX s.data.toList 0 = foldX (s.data.toList.drop k) n ∧ wx = w1.iter s k)
  case atStart => exact ⟨0, 0, rfl, Nat.zero_le _, by decide, rfl, rfl, rfl⟩
  case round =>
    obtain ⟨k, n, rfl, hk, hn, rfl, hf, rfl⟩ := hrel
    have HF := hide hf
    have HN := hide hn
    clear hf hn
    by_cases hlt : k < s.size
    · have hv : ∃ (v : Int) (p : Nat), (∀ ty, (Instr.next (.pointer (some ⟨w1.heap.size, 0, none⟩)) true ty).run Tryd.prog (w1.iter s k) = .ok (.tuple #[.bool true, .int .i64 k, .int .i32 v]) (w1.iter s p)) ∧ 0 ≤ v ∧ v ≤ 2147483647 ∧ (hexV v = hexV ((s[k]'hlt).toNat : Int)) ∧ (hexV v ≠ none → p = k + 1) := by
        by_cases ha : (s[k]'hlt).toNat < 128
        · exact ⟨_, _, fun ty => run_next_ascii (P := Tryd.prog) w1 s k ty hlt ha, by omega, by omega, rfl, fun _ => rfl⟩
        · have hh := decode_high s k hlt (by omega)
          have hl := decode_le s k
          have e1 : hexV (Utf8.decode s k).1 = none := hex_big (by have := hh.1; omega)
          have e2 : hexV ((s[k]'hlt).toNat : Int) = none := hex_big (by omega)
          exact ⟨_, _, fun ty => run_next_any (P := Tryd.prog) w1 s k ty hlt, by have := hh.1; omega, by omega, by rw [e1, e2], fun h => absurd e1 h⟩
      obtain ⟨v, p, hnx, hv0, hv1, hvb, hvp⟩ := hv
      have HVP := hide hvp
      have HST := hide (show foldX (s.data.toList.drop k) n = match hexV v with | none => none | some d => foldX (s.data.toList.drop (k + 1)) (n * 16 + d) by rw [hvb]; exact fold_step hlt n)
      have hwf : (Lit.int .i32 v).wf = true := by
        have e1 : IntKind.i32.min = -2147483648 := rfl
        have e2 : IntKind.i32.max = 2147483647 := rfl
        simp only [Lit.wf, Bool.and_eq_true, decide_eq_true_eq, e1, e2]
        omega
      have hkey : keyOf Tryd.prog 21 (.int .i32 v) = some (.int .i32 v) := Maps.keyOf_int_mk Tryd.underlying21 hwf
      have hmap := hm0 p
      have HL := hide hlt
      clear hvp hvb hwf hlt
      cases hd : hexV v with
      | none =>
        have hhas : Maps.has (mapI (hexA ++ hexU)) (.int .i32 v) = false := by rw [show Lit.int .i32 v = keyI v from rfl, hex_has, hd]; rfl
        have HR := hide (show foldX s.data.toList 0 = none by rw [HF.out, HST.out, hd])
        clear hd
        go_wp2_with (at_lookup; refine wpList_lookup_own_ok_int _ rfl _ _ 45 rfl 21 3 .i64 (Maps.int_keyed Tryd.underlying21) Tryd.underlying45 Tryd.underlying3 (zero_i64 _) bm 22 (mapI (hexA ++ hexU)) rfl hmap _ _ rfl hkey ?_; intro c hat hwc; rw [hhas])
        go_ret2
        exact ⟨codeV_none (HC.out.trans HR.out), hi0 p⟩
      | some d =>
        have hhas : Maps.has (mapI (hexA ++ hexU)) (.int .i32 v) = true := by rw [show Lit.int .i32 v = keyI v from rfl, hex_has, hd]; rfl
        have HR := hide (show foldX s.data.toList 0 = foldX (s.data.toList.drop (k + 1)) (n * 16 + d) by rw [HF.out, HST.out, hd])
        obtain rfl : p = k + 1 := HVP.out (by rw [hd]; simp)
        have HD := hide (hex_lt hd)
        have HAT := hide (fun c h => hex_at v c h)
        have HDD := hide hd
        clear hd
        have HK6 : Hid (16 ^ k ≤ 16 ^ 6) := Nat.pow_le_pow_right (by omega) (by have := HSZ.out; omega)
        have hno1 : -9223372036854775808 ≤ (n : Int) * 16 ∧ (n : Int) * 16 ≤ 9223372036854775807 := by
          have := HN.out; have := HK6.out; omega
        have hno2 : -9223372036854775808 ≤ (n : Int) * 16 + (d : Int) ∧ (n : Int) * 16 + (d : Int) ≤ 9223372036854775807 := by
          have := HN.out; have := HK6.out; have := HD.out; omega
        have hn1a := hno1.1
        have hn1b := hno1.2
        have hn2a := hno2.1
        have hn2b := hno2.2
        go_wp2_with (at_lookup; refine wpList_lookup_own_ok_int _ rfl _ _ 45 rfl 21 3 .i64 (Maps.int_keyed Tryd.underlying21) Tryd.underlying45 Tryd.underlying3 (zero_i64 _) bm 22 (mapI (hexA ++ hexU)) rfl hmap _ _ rfl hkey ?_; intro c hat hwc; rw [hhas]; obtain rfl : c = (d : Int) := by (rw [HAT.out c hat, HDD.out]; rfl))
        go_roundg (s.size - (k + 1))
        case measure => have := HL.out; omega
        case rel => exact ⟨k + 1, n * 16 + d, rfl, HL.out, by rw [Nat.pow_succ]; have := HN.out; have := HD.out; omega, congrArg (Value.int .i64) (by omega), HR.out, rfl⟩
    · obtain rfl : k = s.size := by omega
      have hnx := fun ty => run_next_end (P := Tryd.prog) w1 s s.size ty (by omega)
      have HR := hide (HF.out.trans (fold_end s n))
      clear hlt
      go_wp2_with fail
      go_ret2
      exact ⟨codeV_some (HC.out.trans HR.out), hi0 _⟩
end Go.Proofs.YtdmkjchmcgjjmaaDoor
