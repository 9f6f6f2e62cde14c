/- How a list of texts comes in. -/
import Derived.Test.YtigkphjgidbppaaDoorFrame
namespace Go.Proofs.YtigkphjgidbppaaDoor
open Go Go.ChangeShapes Go.WideShapes Go.ChangeAt Go.RowKit Go.Deep

set_option maxRecDepth 100000 in
/-- an argument of texts -/
theorem open_strl {H : Type} {enc : TypeId × Value → H} {W : World} {base : Nat} {v : Value} {d : DataW H} {p : List MemPlace} (h : DataW.Trod enc Tryd.prog W 0 (fun _ => true) true 35 v d p) (hv : Value.okWide Tryd.prog W .any base 35 v) :
    ∃ A n c l, v = .slice A n c ∧ n ≤ c ∧ (∀ s ∈ l, ByteArray.size s ≤ maxLen) ∧ Rds W W.heap.size 1 A n (strCells l) := by
  obtain ⟨A, n, c, rfl⟩ := okWide_slice Tryd.underlying35 hv
  obtain ⟨fuel, h⟩ := h
  rcases open_strs Tryd.underlying35 Tryd.underlying9 (by kernel_rfl) h with ⟨hcs, _⟩ | ⟨a, len, cap, m, Sx, hcs, _, hl, hm, hmm, _, hcell⟩
  · simp [Value.cells] at hcs
    obtain ⟨rfl, rfl, rfl⟩ := hcs
    exact ⟨none, 0, 0, [], rfl, Nat.le_refl _, (fun _ h => by cases h), rfl, (by omega), (fun h => by omega)⟩
  · simp [Value.cells] at hcs
    obtain ⟨rfl, rfl, rfl⟩ := hcs
    simp only [if_true] at hmm
    subst hmm
    have hlen : (strCells ((List.range n).map Sx)).length = n := by rw [strCells_length]; simp
    refine ⟨some a, n, m, (List.range n).map Sx, rfl, hl, fun s hs => ?_, (by rw [hlen]; omega), (by unfold maxLen at hm; omega), fun h0 => addr_of h0 hlen fun j u hu => ?_⟩
    · obtain ⟨i, hi, rfl⟩ := List.mem_map.1 hs
      exact (hcell i (by have := List.mem_range.1 hi; omega)).2
    · have hj : j < n := by have := (List.getElem?_eq_some_iff.1 hu).1; omega
      rw [(hcell j (by omega)).1, ← hu]
      simp [strCells, hj]
end Go.Proofs.YtigkphjgidbppaaDoor
