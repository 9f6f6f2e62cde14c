/- The program's (*reader).load. Conditions: the reader's block holds a text and a truth. -/
import Derived.Test.YtibndkkbmgbogaaDoorProg
import Derived.Test.YtibndkkbmgbogaaDoorBase
import Derived.Test.YtibndkkbmgbogaaDoorPut
import Derived.Test.YtibndkkbmgbogaaDoorRight
import Derived.Test.YtibndkkbmgbogaaDoorRegionL
import Derived.Test.YtibndkkbmgbogaaDoorPFill
import Derived.Test.YtibndkkbmgbogaaDoorPFillT
import Derived.Sort.CutIn
import Derived.WalkMore
import Derived.Outline
namespace Go.Proofs.YtibndkkbmgbogaaDoor
open Go Go.RowKit

/-- so many blocks; none: the text was too short -/
def rBlocks : Nat → List (List Int) → RS → Option (List (List Int)) × RS
  | 0, bl, s => (some bl, s)
  | k + 1, bl, s => if s.2 then (none, s) else rBlocks k (bl ++ [(rFill rOne 256 257 [] (0, 0) s).1]) (rFill rOne 256 257 [] (0, 0) s).2
/-- the trie of bytes behind the mark -/
def rLoad (s : RS) : Option Tr :=
  if 300 < (rTwo s).1 then none else
  match rBlocks (rTwo s).1 [] (rTwo s).2 with
  | (none, _) => none
  | (some bl, s1) =>
    let r := rFill rTwo 4352 4353 [] (0, 0) s1
    if r.2.2 = false ∧ r.2.1 = [] ∧ (⟨r.1, bl⟩ : Tr).rightB = true then some ⟨r.1, bl⟩ else none

theorem rFill_rest (take : RS → Nat × RS) (ht : ∀ s, (take s).2.1.length ≤ s.1.length) (n : Nat) : ∀ (f : Nat) (out : List Int) (last : Nat × Int) (s : RS), (rFill take n f out last s).2.1.length ≤ s.1.length
  | 0, out, last, s => Nat.le_refl _
  | f + 1, out, last, s => by
    have h1 := ht s
    have h2 := ht (take s).2
    unfold rFill
    split
    · split
      · exact Nat.le_trans h2 h1
      · exact Nat.le_trans (rFill_rest take ht n f _ _ _) (Nat.le_trans h2 h1)
    · exact Nat.le_refl _

theorem Kept.grownBy {g : Nat} {w w' : World} (h : Kept w.heap.size g g w w') : w.grownBy w' (some g) := ⟨h.os, h.tape, h.output, h.size, fun k hk hr => h.block k hk (fun e => hr (by rw [e])) (fun e => hr (by rw [e]))⟩

/-- A slice of rows is one's own, and so are the rows. -/
def Lo (w : World) (n0 : Nat) (vb : Value) (bl : List (List Int)) : Prop :=
  ∃ ss : List (Option Addr × Nat × Nat), w.ownsRow n0 24 1 vb bl.length (ss.map sv) ∧ ss.length = bl.length ∧ ∀ i (h : i < ss.length) (h' : i < bl.length), w.ownsRow n0 3 1 (sv ss[i]) bl[i].length (intCells bl[i])
theorem turn_own {w w' : World} {row : Option Nat} {n0 e s n : Nat} {v : Value} {xs : List Value} (ho : w.ownsRow n0 e s v n xs) (hg : w.grownBy w' row) (hr : ∀ g, row = some g → ∃ t cs, Blk w g t cs ∧ t ≠ e) : w'.ownsRow n0 e s v n xs :=
  ho.kept hg (by
    cases row with
    | none => cases v.ownBlock <;> simp
    | some g =>
      right
      obtain ⟨t, cs, hb, h1⟩ := hr g rfl
      exact fun e' => own_ne ho hb (Ne.symm h1) e'.symm)
theorem Lo.turn {w w' : World} {row : Option Nat} {n0 : Nat} {vb : Value} {bl : List (List Int)} (h : Lo w n0 vb bl) (hg : w.grownBy w' row) (hr : ∀ g, row = some g → ∃ t cs, Blk w g t cs ∧ t ≠ 3 ∧ t ≠ 24) : Lo w' n0 vb bl := by
  obtain ⟨ss, b1, b2, b3⟩ := h
  exact ⟨ss, turn_own b1 hg (fun g e => by obtain ⟨t, cs, q1, q2, q3⟩ := hr g e; exact ⟨t, cs, q1, q3⟩), b2, fun i hi hi' => turn_own (b3 i hi hi') hg (fun g e => by obtain ⟨t, cs, q1, q2, q3⟩ := hr g e; exact ⟨t, cs, q1, q2⟩)⟩
theorem Lo.nil (w : World) (n0 : Nat) : Lo w n0 (.slice none 0 0) [] := ⟨[], World.ownsRow_nil _ _ _ _, rfl, fun i h => by cases h⟩
theorem Lo.push {w w1 : World} {n0 : Nat} {vb v' : Value} {bl : List (List Int)} {x : List Int} {s : Option Addr × Nat × Nat} {ss : List (Option Addr × Nat × Nat)}
    (h1 : w.ownsRow n0 24 1 vb bl.length (ss.map sv)) (h2 : ss.length = bl.length) (h3 : ∀ i (h : i < ss.length) (h' : i < bl.length), w.ownsRow n0 3 1 (sv ss[i]) bl[i].length (intCells bl[i]))
    (hown : w1.ownsRow n0 24 1 v' (bl.length + 1) (ss.map sv ++ [sv s])) (hg : w.grownBy w1 vb.ownBlock) (hrow : w.ownsRow n0 3 1 (sv s) x.length (intCells x)) : Lo w1 n0 v' (bl ++ [x]) := by
  refine ⟨ss ++ [s], by simpa using hown, by simp [h2], fun j hj hj' => ?_⟩
  by_cases hjl : j < ss.length
  · have hjl' : j < bl.length := by omega
    simp only [List.getElem_append_left hjl, List.getElem_append_left hjl']
    exact (h3 j hjl hjl').kept hg (own_types (h3 j hjl hjl') h1 (by decide))
  · have hje : j = bl.length := by simp at hj'; omega
    subst hje
    have e1 : (ss ++ [s])[bl.length] = s := by rw [List.getElem_append_right (by omega)]; simp [h2]
    have e2 : (bl ++ [x])[bl.length] = x := by simp
    simp only [e1, e2]
    exact hrow.kept hg (own_types hrow h1 (by decide))
theorem Lo.rows {w : World} {n0 : Nat} {vb : Value} {bl : List (List Int)} (h : Lo w n0 vb bl) (h2 : bl.length ≤ 5000) (h3 : ∀ b ∈ bl, b.length ≤ 5000) :
    ∃ A n c, vb = .slice A n c ∧ n ≤ c ∧ n = bl.length ∧ Rows w w.heap.size A n bl := by
  obtain ⟨ss, o, hl, hs⟩ := h
  obtain ⟨A, c, f1, f2, f3⟩ := own_rds o (Nat.le_refl _) (by omega)
  refine ⟨A, _, c, f1, f2, rfl, ss, f3, hl, fun i hi hi' => ?_⟩
  obtain ⟨Ar, cr, q1, q2, q3⟩ := own_rds (hs i hi hi') (Nat.le_refl _) (by have := h3 _ (List.getElem_mem hi'); omega)
  unfold sv at q1
  injection q1 with q1 q4 _
  rw [q1, q4]
  exact q3
end Go.Proofs.YtibndkkbmgbogaaDoor
