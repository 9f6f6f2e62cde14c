/- How numbers, texts, lists of them, and the package's variables come in: for the frames of the class laws. -/
import Derived.Test.YtigkphjgidbppaaDoorCards
import Derived.Test.YtigkphjgidbppaaDoorTie
import Derived.WalkKit
import Derived.ProofKit
import Derived.OpenShut
import Derived.Carry
import Derived.OpenVars
import Derived.Deep.DeepHandedRow
import Derived.Lib.LaidTab
import Derived.Stop.LaidTwo
import Derived.Stop.Texts
import Derived.Stop.LaidErr
import Derived.Deep.Slices
import Derived.Deep.Fields
import Derived.Deep.Strs
import Derived.ChangeSame
import Derived.Lib.SmallJoins
import Derived.ChangeSlices
import Derived.LaidHandle
import Derived.ChangeMaps5
import Derived.Shelf.Vars
import Derived.Test.YtigkphjgidbppaaDoorEnv
namespace Go.Proofs.YtigkphjgidbppaaDoor
open Go Go.ChangeShapes Go.WideShapes Go.ChangeAt Go.RowKit Go.Deep

theorem addr_of {W : World} {a : Addr} {n : Nat} {xs : List Value} (h0 : 0 < n) (hl : xs.length = n) (hc : ∀ j u, xs[j]? = some u → W.cell? (a.add j) = some u) :
    ∃ b o, some a = some ⟨b, o, none⟩ ∧ b < W.heap.size ∧ ∀ j u, xs[j]? = some u → W.cell? ⟨b, o + j, none⟩ = some u := by
  obtain ⟨b, o, sp⟩ := a
  have p0 := hc 0 xs[0] (List.getElem?_eq_getElem (by omega))
  have hsp : sp = none ∧ b < W.heap.size := by
    have e : (⟨b, o, sp⟩ : Addr).add 0 = ⟨b, o, sp⟩ := by unfold Addr.add; split <;> simp_all
    rw [e] at p0
    unfold World.cell? at p0
    cases hh : W.heap[b]? with
    | none => rw [hh] at p0; cases p0
    | some ob =>
      rw [hh] at p0
      refine ⟨?_, (Array.getElem?_eq_some_iff.1 hh).1⟩
      cases ob <;> simp at p0
      exact p0.1
  obtain ⟨rfl, hb⟩ := hsp
  refine ⟨b, o, rfl, hb, fun j u hu => ?_⟩
  have := hc j u hu
  have hadd : (⟨b, o, none⟩ : Addr).add j = ⟨b, o + j, none⟩ := by unfold Addr.add; split <;> simp_all
  rwa [hadd] at this

section
variable {H : Type} {enc : TypeId × Value → H} {W : World}
set_option maxRecDepth 100000 in
/-- an argument of numbers -/
theorem open_intsl {base : Nat} {v : Value} {d : DataW H} {p : List MemPlace} (h : DataW.Trod enc Tryd.prog W 0 (fun _ => true) true 25 v d p) (hv : Value.okWide Tryd.prog W .any base 25 v) :
    ∃ A n c l, v = .slice A n c ∧ n ≤ c ∧ (A = none → c = 0) ∧ Rds W W.heap.size 1 A n (intCells l) := by
  obtain ⟨A, n, c, rfl⟩ := okWide_slice Tryd.underlying25 hv
  obtain ⟨fuel, h⟩ := h
  rcases open_ints Tryd.underlying25 Tryd.underlying3 (by kernel_rfl) h with ⟨hcs, _⟩ | ⟨a, len, cap, zs, hcs, _, hl, hm, hz, _, hcell, _⟩
  · simp [Value.cells] at hcs
    obtain ⟨rfl, rfl, rfl⟩ := hcs
    exact ⟨none, 0, 0, [], rfl, Nat.le_refl _, fun _ => rfl, rfl, by omega, fun h => by omega⟩
  · simp [Value.cells] at hcs
    obtain ⟨rfl, rfl, rfl⟩ := hcs
    simp only [if_true] at hz
    have hlen : (intCells (zs.take n)).length = n := by rw [intCells_length, List.length_take]; omega
    refine ⟨some a, n, c, zs.take n, rfl, hl, (fun e => by cases e), (by rw [hlen]; omega), by unfold maxLen at hm; omega, fun h0 => addr_of h0 hlen fun j u hu => ?_⟩
    have hj : j < n := by have := (List.getElem?_eq_some_iff.1 hu).1; omega
    rw [hcell j (by omega)]
    rw [← hu]
    unfold intCells
    rw [List.map_take, List.getElem?_take, if_pos hj, List.getElem?_map, List.getElem?_eq_getElem (by omega), List.getD_eq_getElem?_getD, List.getElem?_eq_getElem (by omega)]
    rfl
set_option maxRecDepth 100000 in
/-- an argument of a text -/
theorem open_str {base : Nat} {v : Value} {d : DataW H} {p : List MemPlace} (h : DataW.Trod enc Tryd.prog W 0 (fun _ => true) true 9 v d p) (hv : Value.okWide Tryd.prog W .any base 9 v) :
    ∃ s : ByteArray, v = .string s ∧ d = .lit (.string s.data.toList) ∧ p = [] ∧ s.size ≤ maxLen := Go.ChangeMaps.open_string Tryd.underlying9 hv h
end

theorem gP : Tryd.prog.globalNamed "virama/class.errClass" = some 0 := by kernel_rfl
theorem gPType : (Tryd.prog.globals[0]?).map (·.type) = some 49 := by kernel_rfl
theorem gE : Tryd.prog.globalNamed "errors.errorType" = some 1 := by kernel_rfl
theorem rtE : (Tryd.prog.cutTypes.find? (·.1 == "internal/reflectlite.rtype")).map (·.2) = some 101 := by kernel_rfl
theorem sizeT : Tryd.prog.types.size = 174 := by kernel_rfl
theorem oneRowE : ((List.range 174).filter fun t => Tryd.prog.rowNamed t [101, 114, 114, 111, 114]) = [49] := by kernel_rfl
theorem handleE : typeHandle Tryd.prog 49 = .pointer (some ⟨5, 49, none⟩) := by kernel_rfl
theorem cellsStr : Tryd.prog.cellsOf 162 = 1 := by kernel_rfl
theorem cellsS : Tryd.prog.cellsOf 9 = 1 := by kernel_rfl
theorem star : "*" ++ "errors.errorString" = "*errors.errorString" := by decide
theorem rowStr (u : TypeId) (h : Tryd.prog.typeName? 3 u = some "*errors.errorString") : u = 143 :=
  typeName_ptr_named (nm := "errors.errorString") (by rw [star]; kernel_rfl) (by kernel_rfl) (by decide) u (by rw [star]; exact h)

theorem handle_cell {W : World} (h : handlesMet Tryd.prog [("errors.errorType", Rows.laid_errors_errorType)] W) : W.cell? ⟨1, 0, none⟩ = some (.iface 101 (.agg #[.pointer (some ⟨5, 49, none⟩)])) := by
  obtain ⟨name, u, ty, e1, e2, e3, e4, e5⟩ := h _ (List.mem_singleton.2 rfl)
  have en : name = [101, 114, 114, 111, 114] := (Option.some.inj e1).symm
  subst en
  obtain rfl := Option.some.inj (rtE.symm.trans e2)
  have hm : ty ∈ (List.range 174).filter fun t => Tryd.prog.rowNamed t [101, 114, 114, 111, 114] := List.mem_filter.2 ⟨List.mem_range.2 (by rw [← sizeT]; exact e3), e4⟩
  rw [oneRowE] at hm
  obtain rfl := List.mem_singleton.1 hm
  rw [handleE] at e5
  simpa using World.var?_cell gE e5 0

/-- what the listed variables, and the world's shape, give -/
theorem cenv_of {W : World} (h : laidMetH Tryd.prog [("unicode/utf8.acceptRanges", Rows.laid_unicode_utf8_acceptRanges), ("errors.errorType", Rows.laid_errors_errorType), ("virama/class.errClass", Rows.laid_virama_class_errClass), ("unicode/utf8.first", Rows.laid_unicode_utf8_first)] W) (hS : W.ShapedOpen Tryd.prog) : ∃ z m, CEnv W W.heap.size z m := by
  have h' : laidMet Tryd.prog [("unicode/utf8.acceptRanges", Rows.laid_unicode_utf8_acceptRanges), ("virama/class.errClass", Rows.laid_virama_class_errClass), ("unicode/utf8.first", Rows.laid_unicode_utf8_first)] W ∧ handlesMet Tryd.prog [("errors.errorType", Rows.laid_errors_errorType)] W := h
  obtain ⟨a, s, hv, _, _, _⟩ := laid_sentinel h'.1.tail gP gPType Tryd.underlying49 rowStr Tryd.underlying143 Tryd.underlying162 rfl rfl Tryd.underlying9 cellsStr cellsS
  have c0 := handle_cell h'.2
  have c1 : W.cell? ⟨0, 0, none⟩ = some (.iface 143 (.pointer (some a))) := by simpa using World.var?_cell gP hv 0
  obtain ⟨m, c2⟩ : ∃ m, W.cell? ⟨2, 0, none⟩ = some (.int .i64 m) := Go.Proofs.cell_of_shapedOpen_int (zero := #[.int .i64 0]) (t := 3) hS (of_decide_eq_true (by kernel_rfl)) (by kernel_rfl) rfl (by kernel_rfl) (by kernel_rfl) Tryd.underlying3
  exact ⟨_, m, c0, c1, c2, World.block_lt_of_cell? _ _ c0, World.block_lt_of_cell? _ _ c1, World.block_lt_of_cell? _ _ c2⟩
end Go.Proofs.YtigkphjgidbppaaDoor
