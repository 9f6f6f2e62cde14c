/- How a trie, and a list of numbers, come in: for the frames of the trie laws. -/
import Derived.Test.YtibndkkbmgbogaaDoorFrame
import Derived.Test.YtibndkkbmgbogaaDoorTable
import Derived.Deep.Matrix
import Derived.Lib.SmallJoins
import Derived.ChangeSlices
namespace Go.Proofs.YtibndkkbmgbogaaDoor
open Go Go.ChangeShapes Go.WideShapes Go.ChangeAt Go.RowKit Go.Deep

theorem addr_of {W : World} {a : Addr} {n : Nat} {xs : List Value} (h0 : 0 < n) (hl : xs.length = n) (hc : ∀ j u, xs[j]? = some u → W.cell? (a.add j) = some u) :
    ∃ b o, some a = some ⟨b, o, none⟩ ∧ b < W.heap.size ∧ ∀ j u, xs[j]? = some u → W.cell? ⟨b, o + j, none⟩ = some u := by
  obtain ⟨b, o, sp⟩ := a
  have p0 := hc 0 xs[0] (List.getElem?_eq_getElem (by omega))
  have hsp : sp = none ∧ b < W.heap.size := by
    have e : (⟨b, o, sp⟩ : Addr).add 0 = ⟨b, o, sp⟩ := by unfold Addr.add; split <;> simp_all
    rw [e] at p0
    unfold World.cell? at p0
    cases hh : W.heap[b]? with
    | none => rw [hh] at p0; cases p0
    | some ob =>
      rw [hh] at p0
      refine ⟨?_, (Array.getElem?_eq_some_iff.1 hh).1⟩
      cases ob <;> simp at p0
      exact p0.1
  obtain ⟨rfl, hb⟩ := hsp
  refine ⟨b, o, rfl, hb, fun j u hu => ?_⟩
  have := hc j u hu
  have hadd : (⟨b, o, none⟩ : Addr).add j = ⟨b, o + j, none⟩ := by unfold Addr.add; split <;> simp_all
  rwa [hadd] at this

section
variable {H : Type} {enc : TypeId × Value → H} {W : World}
theorem ints_of {fuel : Nat} {v : Value} {x : DataW H × List MemPlace} (h : DataW.trod enc Tryd.prog W 0 (fun _ => true) true fuel 24 [v] = some x) :
    ∃ A n c l, v = .slice A n c ∧ n ≤ c ∧ Rds W W.heap.size 1 A n (intCells l) := by
  rcases open_ints Tryd.underlying24 Tryd.underlying3 (by kernel_rfl) h with ⟨hcs, _⟩ | ⟨a, len, cap, zs, hcs, _, hl, hm, hz, _, hcell, _⟩
  · simp at hcs
    exact ⟨none, 0, 0, [], hcs, Nat.le_refl _, rfl, by omega, fun h => by omega⟩
  · simp at hcs
    simp only [if_true] at hz
    have hlen : (intCells (zs.take len)).length = len := by rw [intCells_length, List.length_take]; omega
    refine ⟨some a, len, cap, zs.take len, hcs, hl, by rw [hlen]; omega, by unfold maxLen at hm; omega, fun h0 => addr_of h0 hlen fun j u hu => ?_⟩
    have hj : j < len := by have := (List.getElem?_eq_some_iff.1 hu).1; omega
    rw [hcell j (by omega)]
    rw [← hu]
    unfold intCells
    rw [List.map_take, List.getElem?_take, if_pos hj, List.getElem?_map, List.getElem?_eq_getElem (by omega), List.getD_eq_getElem?_getD, List.getElem?_eq_getElem (by omega)]
    rfl
theorem rowsC_of {fuel : Nat} {v : Value} {x : DataW H × List MemPlace} (h : DataW.trod enc Tryd.prog W 0 (fun _ => true) true fuel 25 [v] = some x) :
    ∃ A n c ll, v = .slice A n c ∧ n ≤ c ∧ RowsC W W.heap.size A n ll := by
  rcases open_int_rows Tryd.underlying25 Tryd.underlying24 Tryd.underlying3 (by kernel_rfl) (by kernel_rfl) h with ⟨hcs, _⟩ | ⟨a, len, cap, A, L, C, Z, hcs, _, hl, hm, _, hr⟩
  · simp at hcs
    exact ⟨none, 0, 0, [], hcs, Nat.le_refl _, [], ⟨rfl, by omega, fun h => by omega⟩, rfl, fun i h => by cases h⟩
  · simp at hcs
    refine ⟨some a, len, cap, (List.range len).map fun r => (Z r).take (L r), hcs, hl, (List.range len).map fun r => (A r, L r, C r), ⟨by simp, by unfold maxLen at hm; omega, fun h0 => addr_of h0 (by simp) fun j u hu => ?_⟩, by simp, fun i hi hi' => ?_⟩
    · simp only [List.map_map] at hu
      obtain ⟨hj, hu'⟩ := List.getElem?_eq_some_iff.1 hu
      simp at hj hu'
      rw [(hr j (by omega)).1, ← hu']
    · simp only [List.getElem_map, List.getElem_range]
      have hil : i < len := by simpa using hi
      obtain ⟨_, hLC, hCm, hZ, _, hnone, hsome⟩ := hr i (by omega)
      have hlen : (intCells ((Z i).take (L i))).length = L i := by rw [intCells_length, List.length_take]; omega
      refine ⟨⟨by rw [hlen]; omega, by unfold maxLen at hCm; omega, fun h0 => ?_⟩, hLC⟩
      cases hA : A i with
      | none => have := hnone hA; omega
      | some a' =>
        refine addr_of h0 hlen fun j u hu => ?_
        have hj : j < L i := by have := (List.getElem?_eq_some_iff.1 hu).1; omega
        rw [(hsome a' hA).2 j (by omega), ← hu]
        unfold intCells
        rw [List.map_take, List.getElem?_take, if_pos hj, List.getElem?_map, List.getElem?_eq_getElem (by omega), List.getD_eq_getElem?_getD, List.getElem?_eq_getElem (by omega)]
        rfl

set_option maxRecDepth 100000 in
/-- an argument of numbers -/
theorem open_intsl {base : Nat} {v : Value} {d : DataW H} {p : List MemPlace} (h : DataW.Trod enc Tryd.prog W 0 (fun _ => true) true 24 v d p) (hv : Value.okWide Tryd.prog W .any base 24 v) :
    ∃ A n c l, v = .slice A n c ∧ n ≤ c ∧ Rds W W.heap.size 1 A n (intCells l) := by
  obtain ⟨A, n, c, rfl⟩ := okWide_slice Tryd.underlying24 hv
  obtain ⟨fuel, hf⟩ := h
  exact ints_of hf
set_option maxRecDepth 100000 in
/-- an argument that is a trie -/
theorem open_trie {base : Nat} {v : Value} {d : DataW H} {p : List MemPlace} (h : DataW.Trod enc Tryd.prog W 0 (fun _ => true) true 27 v d p) (hv : Value.okWide Tryd.prog W .any base 27 v) :
    ∃ A n c B m e T, v = .agg #[.slice A n c, .slice B m e] ∧ n ≤ c ∧ Rds W W.heap.size 1 A n (intCells (Tr.ix T)) ∧ RowsC W W.heap.size B m (Tr.bl T) := by
  obtain ⟨v0, v1, y0, y1, n, rfl, _, _, h0, h1⟩ := Joins.open_agg2 Tryd.underlying27 (by kernel_rfl) (by kernel_rfl) hv h
  obtain ⟨A, n0, c0, l, rfl, hc, hr⟩ := ints_of h0
  obtain ⟨B, m, e, ll, rfl, _, hx⟩ := rowsC_of h1
  exact ⟨A, n0, c0, B, m, e, ⟨l, ll⟩, rfl, hc, hr, hx⟩
end
end Go.Proofs.YtibndkkbmgbogaaDoor
