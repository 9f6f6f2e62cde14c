/- How numbers, texts, lists of them, and the package's variables come in: for the frames of the field laws. -/
import Derived.Test.YtdmkjchmcgjjmaaDoorCards
import Derived.Test.YtdmkjchmcgjjmaaDoorTie
import Derived.WalkKit
import Derived.ProofKit
import Derived.OpenShut
import Derived.Carry
import Derived.OpenVars
import Derived.Deep.DeepHandedRow
import Derived.Lib.LaidTab
import Derived.Stop.LaidTwo
import Derived.Stop.Texts
import Derived.Stop.LaidErr
import Derived.Deep.Slices
import Derived.Deep.Fields
import Derived.Deep.Strs
import Derived.ChangeSame
import Derived.Lib.SmallJoins
import Derived.ChangeSlices
import Derived.LaidHandle
import Derived.ChangeMaps5
import Derived.Shelf.Vars
import Derived.Test.YtdmkjchmcgjjmaaDoorSplit
namespace Go.Proofs.YtdmkjchmcgjjmaaDoor
open Go Go.ChangeShapes Go.WideShapes Go.ChangeAt Go.RowKit Go.Deep

section
variable {H : Type} {enc : TypeId × Value → H} {W : World}
set_option maxRecDepth 100000 in
/-- an argument of a text -/
theorem open_str {base : Nat} {v : Value} {d : DataW H} {p : List MemPlace} (h : DataW.Trod enc Tryd.prog W 0 (fun _ => true) true 9 v d p) (hv : Value.okWide Tryd.prog W .any base 9 v) :
    ∃ s : ByteArray, v = .string s ∧ d = .lit (.string s.data.toList) ∧ p = [] ∧ s.size ≤ maxLen := Go.ChangeMaps.open_string Tryd.underlying9 hv h
end

theorem gE : Tryd.prog.globalNamed "errors.errorType" = some 0 := by kernel_rfl
theorem rtE : (Tryd.prog.cutTypes.find? (·.1 == "internal/reflectlite.rtype")).map (·.2) = some 121 := by kernel_rfl
theorem sizeT : Tryd.prog.types.size = 172 := by kernel_rfl
theorem oneRowE : ((List.range 172).filter fun t => Tryd.prog.rowNamed t [101, 114, 114, 111, 114]) = [52] := by kernel_rfl
theorem handleE : typeHandle Tryd.prog 52 = .pointer (some ⟨4, 52, none⟩) := by kernel_rfl
theorem handle_cell {W : World} (h : handlesMet Tryd.prog [("errors.errorType", Rows.laid_errors_errorType)] W) : W.cell? ⟨0, 0, none⟩ = some (.iface 121 (.agg #[.pointer (some ⟨4, 52, none⟩)])) := by
  obtain ⟨name, u, ty, e1, e2, e3, e4, e5⟩ := h _ (List.mem_singleton.2 rfl)
  have en : name = [101, 114, 114, 111, 114] := (Option.some.inj e1).symm
  subst en
  obtain rfl := Option.some.inj (rtE.symm.trans e2)
  have hm : ty ∈ (List.range 172).filter fun t => Tryd.prog.rowNamed t [101, 114, 114, 111, 114] := List.mem_filter.2 ⟨List.mem_range.2 (by rw [← sizeT]; exact e3), e4⟩
  rw [oneRowE] at hm
  obtain rfl := List.mem_singleton.1 hm
  rw [handleE] at e5
  simpa using World.var?_cell gE e5 0

/-- what the listed variables, and the world's shape, give -/
theorem fenv_of {W : World} (h : laidMetH Tryd.prog [("unicode/utf8.acceptRanges", Rows.laid_unicode_utf8_acceptRanges), ("errors.errorType", Rows.laid_errors_errorType), ("unicode/utf8.first", Rows.laid_unicode_utf8_first)] W) (hS : W.ShapedOpen Tryd.prog) : ∃ m, FEnv W W.heap.size m := by
  have h' : laidMet Tryd.prog [("unicode/utf8.acceptRanges", Rows.laid_unicode_utf8_acceptRanges), ("unicode/utf8.first", Rows.laid_unicode_utf8_first)] W ∧ handlesMet Tryd.prog [("errors.errorType", Rows.laid_errors_errorType)] W := h
  have c0 := handle_cell h'.2
  obtain ⟨m, c2⟩ : ∃ m, W.cell? ⟨1, 0, none⟩ = some (.int .i64 m) := Go.Proofs.cell_of_shapedOpen_int (zero := #[.int .i64 0]) (t := 3) hS (of_decide_eq_true (by kernel_rfl)) (by kernel_rfl) rfl (by kernel_rfl) (by kernel_rfl) Tryd.underlying3
  exact ⟨m, c0, c2, World.block_lt_of_cell? _ _ c0, World.block_lt_of_cell? _ _ c2⟩
end Go.Proofs.YtdmkjchmcgjjmaaDoor
