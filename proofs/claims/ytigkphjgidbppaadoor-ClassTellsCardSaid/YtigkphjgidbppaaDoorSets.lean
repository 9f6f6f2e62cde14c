/- The walk of the law ClassSets. Conditions: the law's shown is true; the slice reads as the list, and lies within its capacity. -/
import Derived.Test.YtigkphjgidbppaaDoorIter
import Derived.Deep.CutRange
import Derived.Deep.Cut
namespace Go.Proofs.YtigkphjgidbppaaDoor
open Go Go.RowKit

theorem Rds.int_take {w : World} {B n : Nat} {A : Option Addr} {l : List Int} (h : Rds w B 1 A n (intCells l)) (k : Nat) : Rds w B 1 A (min n k) (intCells (l.take k)) := by
  have hl := h.int_len
  refine ⟨by rw [intCells_length, List.length_take]; omega, by have := h.2.1; omega, fun h0 => ?_⟩
  obtain ⟨b, o, e, hb, hc⟩ := h.2.2 (by omega)
  refine ⟨b, o, e, hb, fun j u hu => hc j u ?_⟩
  simp only [intCells, List.map_take, List.getElem?_take] at hu
  split at hu
  · exact hu
  · cases hu
theorem has_or {L : List Int} (h : L.all okC = true) (c : Int) : hasB ((orS L 0 : Nat) : Int) c = L.contains c := by
  have hs := or_lt L 0 (by decide) h
  by_cases hc : 0 ≤ c ∧ c < 32
  · obtain ⟨d, rfl⟩ : ∃ d : Nat, c = d := ⟨c.toNat, by omega⟩
    rw [has_of hs (by omega), or_bit _ _ _ h, Nat.zero_testBit, Bool.false_or]
  · have h1 : hasB ((orS L 0 : Nat) : Int) c = false := by
      rw [Bool.eq_false_iff]
      intro e
      simp only [hasB, Bool.and_eq_true, decide_eq_true_eq] at e
      omega
    rw [h1, eq_comm, Bool.eq_false_iff]
    intro e
    rw [List.contains_iff_mem] at e
    rw [List.all_eq_true] at h
    have := h c e
    simp only [okC, Bool.and_eq_true, decide_eq_true_eq] at this
    exact hc this
theorem of_bad {L : List Int} (h : L.all okC = false) : ofB L = (0, 70) := by unfold ofB; rw [h]; rfl
theorem contains_step {L : List Int} {k : Nat} (h : k < L.length) (c : Int) : (L.take (k + 1)).contains c = ((L.take k).contains c || (L[k] == c)) := by
  rw [List.take_succ_eq_append_getElem h, Bool.eq_iff_iff]
  simp only [List.contains_iff_mem, List.mem_append, List.mem_singleton, Bool.or_eq_true, beq_iff_eq]
  exact or_congr Iff.rfl eq_comm

set_option maxRecDepth 100000 in
set_option maxHeartbeats 4000000 in
theorem classSets_any (A : Option Addr) (n cp : Nat) (l : List Int) (c : Int) (w : World) (hcp : n ≤ cp) (hr : Rds w w.heap.size 1 A n (intCells l)) (hsh : Calls Tryd.prog 10 #[] w (Freed w (.bool true))) :
    Calls Tryd.prog 4 #[.slice A n cp, .int .i64 c] w (Freed w (.bool true)) := by
  have hrN := hr.int_take 50
  have hmx := hr.2.1
  obtain ⟨L, hL⟩ : ∃ L, L = l.take 50 := ⟨_, rfl⟩
  rw [← hL] at hrN
  have hA : 0 < n → ∃ b o, A = some ⟨b, o, none⟩ := fun h => by obtain ⟨b, o, e, _⟩ := hr.2.2 h; exact ⟨b, o, e⟩
  have hh := fun w' (hb : Below w.heap.size w w') => (hrN.below hb).more hb.size
  have HH := hide hh
  have hll := hrN.int_len
  have HLL := hide hll
  have hl50 : L.length ≤ 50 := by omega
  clear hL hr hh hll hrN
  go_enter Tryd.func4, Tryd.ntmps4
  go_wp2_with fail
  refine hsh.mono ?_
  rintro e w1 ⟨rfl, hb1⟩
  go_upto_region 2 with fail
  go_cut [0] from 13 to 17 (fun s0 wx => s0 = .slice A (min n 50) cp ∧ wx = w1)
  case first =>
    rcases Nat.lt_or_ge 50 n with hn | hn
    · have e : min n 50 = 50 := by omega
      obtain ⟨b, o, rfl⟩ := hA (by omega)
      go_wp2_with fail
      go_meet
      exact ⟨by rw [e], rfl⟩
    · have e : min n 50 = n := by omega
      rcases Nat.eq_zero_or_pos n with h0 | h0
      · subst h0
        go_wp2_with fail
        go_meet
        exact ⟨rfl, rfl⟩
      · obtain ⟨b, o, rfl⟩ := hA h0
        go_wp2_with fail
        go_meet
        exact ⟨by rw [e], rfl⟩
  case rest =>
    obtain ⟨rfl, rfl⟩ := hcut
    have hlen := HLL.out
    clear hA hcp hmx HLL
    generalize min n 50 = N at *
    subst hlen
    have hrd := HH.out wc hb1
    have HR := hide hrd
    have hof := of_any A L.length cp L wc hrd
    cases hall : L.all okC with
    | false =>
      rw [of_bad hall] at hof
      simp only at hof
      clear hall hrd
      go_wp2_with fail
      refine hof.mono ?_
      rintro e _ ⟨rfl, q0, rfl⟩
      go_wp2_with fail
      go_loopw [8, 9] (fun s i wr => ∃ (k : Nat), k ≤ L.length ∧ i = .int .i64 k ∧ (∃ bb, s = .bool bb) ∧ ∃ q, wr = wc.drewN q) (fun _ i _ => L.length - (intOf i).toNat)
      case atStart => exact ⟨0, Nat.zero_le _, rfl, ⟨_, rfl⟩, q0, rfl⟩
      case round =>
        obtain ⟨k, hk, rfl, ⟨bb, rfl⟩, q, rfl⟩ := hrel
        by_cases hlt : k < L.length
        · obtain ⟨b, o, rfl, hbl, ck⟩ := HR.out.int hlt
          generalize L[k] = x at *
          rcases Int.lt_or_le x 0 with h0 | h0
          · have d0 : decide (x < 0) = true := decide_eq_true h0
            cases bb
            all_goals (
              go_wp2_with fail
              go_roundw
              case rel => exact ⟨k + 1, by omega, by simp, ⟨_, rfl⟩, q, rfl⟩
              case measure => simp [intOf]; omega)
          · have d0 : decide (x < 0) = false := decide_eq_false (by omega)
            rcases Int.lt_or_le 31 x with h3 | h3
            · have d1 : decide (31 < x) = true := decide_eq_true h3
              cases bb
              all_goals (
                go_wp2_with fail
                go_roundw
                case rel => exact ⟨k + 1, by omega, by simp, ⟨_, rfl⟩, q, rfl⟩
                case measure => simp [intOf]; omega)
            · have d1 : decide (31 < x) = false := decide_eq_false (by omega)
              cases bb
              all_goals (
                go_wp2_with fail
                go_roundw
                case rel => exact ⟨k + 1, by omega, by simp, ⟨_, rfl⟩, q, rfl⟩
                case measure => simp [intOf]; omega)
        · obtain rfl : k = L.length := by omega
          go_wp2_with fail
          go_ret
          exact ⟨rfl, below_drewN hb1 _⟩
    | true =>
      rw [of_ok hall] at hof
      simp only at hof
      have hlt32 := or_lt L 0 (by decide) hall
      have hho := has_or hall c
      have hoc := of_classes hlt32
      have hhas := fun w => has_any ((orS L 0 : Nat) : Int) c w
      have hcls := fun w => Classes_any ((orS L 0 : Nat) : Int) w
      have hofc := fun A cp w hr => of_any A (classesB ((orS L 0 : Nat) : Int)).length cp (classesB ((orS L 0 : Nat) : Int)) w hr
      rw [hoc] at hofc
      rw [hho] at hhas
      generalize classesB ((orS L 0 : Nat) : Int) = CL at *
      generalize orS L 0 = S at *
      simp only at hofc
      have hmem : ∀ k (h : k < L.length), okC L[k] = true := fun k h => by
        rw [List.all_eq_true] at hall
        exact hall _ (List.getElem_mem h)
      have HM := hide hmem
      have HHAS := hide hhas
      have HCLS := hide hcls
      have HOFC := hide hofc
      clear hall hrd hho hoc hhas hcls hofc hmem hlt32
      go_wp2_with fail
      refine hof.mono ?_
      rintro e _ ⟨rfl, q0, rfl⟩
      go_wp2_with fail
      go_loopw [8, 9] (fun s i wr => ∃ (k : Nat), k ≤ L.length ∧ i = .int .i64 k ∧ s = .bool ((L.take k).contains c) ∧ ∃ q, wr = wc.drewN q) (fun _ i _ => L.length - (intOf i).toNat)
      case atStart => exact ⟨0, Nat.zero_le _, rfl, rfl, q0, rfl⟩
      case round =>
        obtain ⟨k, hk, rfl, rfl, q, rfl⟩ := hrel
        by_cases hlt : k < L.length
        · obtain ⟨b, o, rfl, hbl, ck⟩ := HR.out.int hlt
          have hx := HM.out k hlt
          have HST := hide (contains_step hlt c)
          generalize L[k] = x at *
          simp only [okC, Bool.and_eq_true, decide_eq_true_eq] at hx
          have d0 : decide (x < 0) = false := decide_eq_false (by omega)
          have d1 : decide (31 < x) = false := decide_eq_false (by omega)
          generalize (L.take k).contains c = bb at *
          clear hx
          cases bb
          · go_wp2_with fail
            go_roundw
            case rel => exact ⟨k + 1, by omega, by simp, by rw [HST.out]; rfl, q, rfl⟩
            case measure => simp [intOf]; omega
          · go_wp2_with fail
            go_roundw
            case rel => exact ⟨k + 1, by omega, by simp, by rw [HST.out]; rfl, q, rfl⟩
            case measure => simp [intOf]; omega
        · obtain rfl : k = L.length := by omega
          have he := List.take_length (l := L)
          rw [he]
          clear he
          generalize L.contains c = bb at *
          go_wp2_with fail
          refine (HCLS.out _).mono ?_
          rintro e w2 ⟨A2, c2, rfl, _, hr2, hb2⟩
          have hb02 := (below_drewN hb1 q).trans (hb2.mono (by have := hb1.size; simpa using this))
          go_wp2_with fail
          refine (HOFC.out _ _ _ hr2).mono ?_
          rintro e _ ⟨rfl, q2, rfl⟩
          go_wp2_with fail
          refine (HHAS.out _).mono ?_
          rintro e _ ⟨rfl, rfl⟩
          go_wp2
          go_ret
          exact ⟨rfl, below_drewN hb02 _⟩
end Go.Proofs.YtigkphjgidbppaaDoor
