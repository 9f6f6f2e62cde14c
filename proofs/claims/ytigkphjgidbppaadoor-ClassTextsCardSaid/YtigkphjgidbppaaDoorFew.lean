/- The laws' Few and cut: few texts, cut short. Conditions: the slice reads as the texts. -/
import Derived.Test.YtigkphjgidbppaaDoorList
import Derived.Deep.CutRange
import Derived.Deep.Cut
import Derived.Laws.AppendOwn
namespace Go.Proofs.YtigkphjgidbppaaDoor
open Go Go.RowKit

def few1 (s : ByteArray) : ByteArray := s.extract 0 (min s.size 42)
def fewB (l : List ByteArray) : List ByteArray := (l.take 34).map few1
theorem few1_size (s : ByteArray) : (few1 s).size ≤ 42 := by unfold few1; rw [ByteArray.size_extract]; omega
theorem fewB_sizes (l : List ByteArray) : ∀ s ∈ fewB l, s.size ≤ 42 := by
  intro s hs
  unfold fewB at hs
  obtain ⟨x, _, rfl⟩ := List.mem_map.1 hs
  exact few1_size x
theorem fewB_len (l : List ByteArray) : (fewB l).length ≤ 34 := by unfold fewB; rw [List.length_map, List.length_take]; omega
def fewTo (l : List ByteArray) (j : Nat) : List ByteArray := (l.take j).map few1
theorem fewTo_len (l : List ByteArray) {j : Nat} (h : j ≤ l.length) : (fewTo l j).length = j := by unfold fewTo; rw [List.length_map, List.length_take]; omega
theorem fewTo_step (l : List ByteArray) {j : Nat} (h : j < l.length) : fewTo l (j + 1) = fewTo l j ++ [few1 l[j]] := by
  unfold fewTo
  rw [List.take_succ_eq_append_getElem h, List.map_append]
  rfl

def cutB (s : ByteArray) : ByteArray := s.extract 0 (min s.size 200)
theorem cutB_size (s : ByteArray) : (cutB s).size ≤ 200 := by unfold cutB; rw [ByteArray.size_extract]; omega
theorem cut_any (s : ByteArray) (w : World) (hs : s.size ≤ 9223372036854775807) : Calls Tryd.prog 26 #[.string s] w fun e w' => e = .returned (.string (cutB s)) ∧ w = w' := by
  unfold cutB
  go_enter Tryd.func26, Tryd.ntmps26
  have e : (min (s.size : Int) 200).toNat = min s.size 200 := by omega
  go_wp2
  go_ret
  exact ⟨by rw [← e]; rfl, rfl⟩

/-- Texts are handed back, in memory of one's own; what lay is as it was. -/
def OutS (w : World) (l : List ByteArray) (e : Ending) (w' : World) : Prop :=
  ∃ A c, e = .returned (.slice A l.length c) ∧ l.length ≤ c ∧ Rds w' w'.heap.size 1 A l.length (strCells l) ∧ Below w.heap.size w w'

set_option maxRecDepth 100000 in
set_option maxHeartbeats 2000000 in
theorem few_any (A : Option Addr) (len cap : Nat) (l : List ByteArray) (w : World) (hr : Rds w w.heap.size 1 A len (strCells l)) (hz : ∀ s ∈ l, s.size ≤ maxLen) : Calls Tryd.prog 22 #[.slice A len cap] w (OutS w (fewB l)) := by
  obtain ⟨i0, hi, hz0, hz1, hz2⟩ := info_parts info9
  obtain rfl := hr.str_len
  have hm := hr.2.1
  go_enter Tryd.func22, Tryd.ntmps22
  go_wp2_with fail
  go_loopw [3, 4] (fun s i wr => ∃ (j : Nat) (vs : Value), j ≤ l.length ∧ j ≤ 34 ∧ i = .int .i64 (j : Int) ∧ s = vs ∧ wr.ownsRow w.heap.size 9 1 vs j (strCells (fewTo l j)) ∧ Below w.heap.size w wr) (fun _ i _ => l.length - (intOf i).toNat)
  case atStart => exact ⟨0, _, Nat.zero_le _, Nat.zero_le _, rfl, rfl, World.ownsRow_nil _ _ _ _, Below.refl _ _⟩
  case round =>
    obtain ⟨j, vs, hj, hj4, rfl, rfl, hrow, hb⟩ := hrel
    by_cases hlt : j < l.length ∧ j < 34
    · obtain ⟨hlt, hlt4⟩ := hlt
      have h1' : (j : Int) < (l.length : Int) := by omega
      have h2' : (j : Int) < 34 := by omega
      obtain ⟨bb, oo, rfl, hbl, ck⟩ := (hr.below hb).str hlt
      have hzs : l[j].size ≤ 9223372036854775807 := Nat.le_trans (hz _ (List.getElem_mem hlt)) (by decide)
      have HST := hide (fewTo_step l hlt)
      generalize l[j] = t at *
      obtain ⟨mk, hmk⟩ : ∃ mk : Nat, mk = min t.size 42 := ⟨_, rfl⟩
      have HF := hide (show few1 t = t.extract 0 mk by unfold few1; rw [hmk])
      have HMK := hide (show (min (t.size : Int) 42).toNat = mk by omega)
      have hmk1 : mk ≤ t.size := by omega
      have hmk2 : (mk : Int) ≤ (t.size : Int) := by omega
      clear hmk hz
      have HROW := hide (show (wr.drew.alloc (.cells #[.string (t.extract 0 mk)] 9)).ownsRow w.heap.size 9 1 u3 j (strCells (fewTo l j)) from World.ownsRow.alloc (show wr.drew.ownsRow w.heap.size 9 1 u3 j (strCells (fewTo l j)) from hrow) _)
      clear hrow
      go_wp2_with fail
      have ck1 : wr.drew.cell? ⟨bb, oo + j, none⟩ = some (.string t) := ck
      refine wp_region_headsT (fun w' => w'.cell? ⟨bb, oo + j, none⟩ = some (.string t)) 12 1 (by kernel_rfl) (by kernel_rfl) (fun _ _ d _ _ h => by cases d <;> exact h) ck1 ?_
      simp only [List.take_succ_cons, List.take_zero, List.drop_succ_cons, List.drop_zero]
      refine heads_step (v := u3) rfl (fun W' hS' => by rfl) ?_
      go_frame
      refine heads_step (v := .slice (some ⟨bb, oo, none⟩) l.length cap) rfl (fun W' hS' => by rfl) ?_
      go_frame
      refine heads_step (v := .int .i64 (j : Int)) rfl (fun W' hS' => by rfl) ?_
      go_frame
      refine heads_step (v := .pointer (some ⟨bb, oo + j, none⟩)) rfl (fun W' hS' => by go_simp) ?_
      go_frame
      refine heads_step (v := .string t) rfl (fun W' hS' => by go_simp) ?_
      go_frame
      refine heads_step (v := .slice (some ⟨bb, oo, none⟩) l.length cap) rfl (fun W' hS' => by rfl) ?_
      go_frame
      refine heads_step (v := .int .i64 (j : Int)) rfl (fun W' hS' => by rfl) ?_
      go_frame
      refine heads_step (v := .pointer (some ⟨bb, oo + j, none⟩)) rfl (fun W' hS' => by go_simp) ?_
      go_frame
      refine heads_step (v := .string t) rfl (fun W' hS' => by go_simp) ?_
      go_frame
      refine heads_step (v := .int .i64 (t.size : Int)) rfl (fun W' hS' => by go_simp) ?_
      go_frame
      refine heads_step (v := .int .i64 (min (t.size : Int) 42)) rfl (fun W' hS' => by go_simp) ?_
      go_frame
      refine heads_step (v := .string (t.extract 0 mk)) rfl (fun W' hS' => by go_simp; rw [HMK.out, if_pos (by omega)]) ?_
      go_frame
      refine heads_nil ?_
      refine mid_step rfl (fun K hK1 => ?_)
      go_simp
      generalize t.extract 0 mk = tt at *
      have CN := hide (cell_one_new wr.drew (.string tt) 9)
      refine hK1 _ _ ⟨(World.cell?_alloc_lt wr.drew _ _ (World.block_lt_of_cell? wr.drew _ ck1)).trans ck1, ?_⟩
      refine mid_nil ?_
      have hsd : wr.drew.heap.size = wr.heap.size := rfl
      go_wp2_with (at_builtin; (refine wpList_append_own _ rfl (.tmp 15) (.tmp 27) 35 rfl w.heap.size 9 i0 (.string ⟨#[]⟩) 1 16 Tryd.underlying35 hi hz0 hz1 hz2 rfl (by decide) _ j (strCells (fewTo l j)) rfl HROW.out ⟨wr.heap.size, 0, none⟩ 1 1 [.string tt] rfl rfl CN.out (by simp [Value.oneCell']) (by unfold maxLen; omega) (by omega) (by have := hb.size; simp; omega) ?_); intro v' w1 hown1 hgrow1 _; have HO := hide hown1; have HG := hide hgrow1; clear hown1 hgrow1)
      go_roundw
      case rel =>
        refine ⟨j + 1, _, by omega, by omega, by simp, rfl, ?_, ?_⟩
        · rw [HST.out, HF.out]
          simpa [strCells] using HO.out
        · exact ((show Below w.heap.size w wr.drew from hb.trans ⟨rfl, rfl, rfl, Nat.le_refl _, fun _ _ => rfl⟩).alloc (by have := hb.size; omega) _).grown HG.out (by have := hb.size; simp; omega) (fun k e => (HROW.out.lt k e).1)
      case measure => simp [intOf]; omega
    · have HROW := hide hrow
      clear hrow hz
      have hfin : fewB l = fewTo l j := by
        unfold fewB fewTo
        rw [show l.take 34 = l.take j by
          rcases Nat.lt_or_ge j 34 with h | h
          · rw [List.take_of_length_le (by omega), List.take_of_length_le (by omega)]
          · rw [show j = 34 by omega]]
      have hfl := fewTo_len l hj
      have HFN := hide hfin
      clear hfin
      have fin : ∀ V, V = u3 → wr.ownsRow w.heap.size 9 1 u3 j (strCells (fewTo l j)) → OutS w (fewB l) (.returned V) wr := fun V hV hrow => by
        subst hV
        obtain ⟨A', c', e1, e2, e3⟩ := own_rds hrow (Nat.le_refl _) (by omega)
        rw [HFN.out]
        exact ⟨A', c', by rw [e1, hfl], by rw [hfl]; exact e2, by rw [hfl]; exact e3, hb⟩
      by_cases h1 : j < l.length
      · have h1' : (j : Int) < (l.length : Int) := by omega
        have h2' : ¬ (j : Int) < 34 := by omega
        go_wp2_with fail
        go_ret
        exact fin _ rfl HROW.out
      · have h1' : ¬ (j : Int) < (l.length : Int) := by omega
        go_wp2_with fail
        go_ret
        exact fin _ rfl HROW.out
end Go.Proofs.YtigkphjgidbppaaDoor
