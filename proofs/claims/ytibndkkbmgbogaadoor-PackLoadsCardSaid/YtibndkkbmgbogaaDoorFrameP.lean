/- How a text, and the two variables of pack's errors, come in: for the frames of the pack laws. -/
import Derived.Test.YtibndkkbmgbogaaDoorFrame
import Derived.Test.YtibndkkbmgbogaaDoorPPack
import Derived.LaidHandle
import Derived.ChangeMaps5
namespace Go.Proofs.YtibndkkbmgbogaaDoor
open Go Go.ChangeShapes Go.WideShapes Go.ChangeAt Go.RowKit Go.Deep

theorem gP : Tryd.prog.globalNamed "virama/pack.errPack" = some 2 := by kernel_rfl
theorem gPType : (Tryd.prog.globals[2]?).map (·.type) = some 65 := by kernel_rfl
theorem gE : Tryd.prog.globalNamed "errors.errorType" = some 3 := by kernel_rfl
theorem rtE : (Tryd.prog.cutTypes.find? (·.1 == "internal/reflectlite.rtype")).map (·.2) = some 136 := by kernel_rfl
theorem sizeT : Tryd.prog.types.size = 196 := by kernel_rfl
theorem oneRowE : ((List.range 196).filter fun t => Tryd.prog.rowNamed t [101, 114, 114, 111, 114]) = [65] := by kernel_rfl
theorem handleE : typeHandle Tryd.prog 65 = .pointer (some ⟨4, 65, none⟩) := by kernel_rfl

theorem handle_cell {W : World} (h : handlesMet Tryd.prog [("errors.errorType", Rows.laid_errors_errorType)] W) : W.cell? ⟨3, 0, none⟩ = some (.iface 136 (.agg #[.pointer (some ⟨4, 65, none⟩)])) := by
  obtain ⟨name, u, ty, e1, e2, e3, e4, e5⟩ := h _ (List.mem_singleton.2 rfl)
  have en : name = [101, 114, 114, 111, 114] := (Option.some.inj e1).symm
  subst en
  obtain rfl := Option.some.inj (rtE.symm.trans e2)
  have hm : ty ∈ (List.range 196).filter fun t => Tryd.prog.rowNamed t [101, 114, 114, 111, 114] := List.mem_filter.2 ⟨List.mem_range.2 (by rw [← sizeT]; exact e3), e4⟩
  rw [oneRowE] at hm
  obtain rfl := List.mem_singleton.1 hm
  rw [handleE] at e5
  simpa using World.var?_cell gE e5 0

theorem penv_cells {W : World} {r : List (String × DataW Unit)} (h : laidMet Tryd.prog (("virama/pack.errPack", Rows.laid_virama_pack_errPack) :: r) W) (hh : handlesMet Tryd.prog [("errors.errorType", Rows.laid_errors_errorType)] W) : ∃ z, PEnv W W.heap.size z := by
  obtain ⟨a, s, hv, _, _, _⟩ := laid_sentinel h gP gPType Tryd.underlying65 rowStr Tryd.underlying164 Tryd.underlying184 rfl rfl Tryd.underlying9 cellsStr cellsS
  have c0 := handle_cell hh
  have c1 : W.cell? ⟨2, 0, none⟩ = some (.iface 164 (.pointer (some a))) := by simpa using World.var?_cell gP hv 0
  exact ⟨_, c0, c1, World.block_lt_of_cell? _ _ c0, World.block_lt_of_cell? _ _ c1⟩

/-- five of the laws -/
theorem penv_of {W : World} (h : laidMetH Tryd.prog [("errors.errorType", Rows.laid_errors_errorType), ("virama/pack.errPack", Rows.laid_virama_pack_errPack)] W) : ∃ z, PEnv W W.heap.size z := by
  have h' : laidMet Tryd.prog [("virama/pack.errPack", Rows.laid_virama_pack_errPack)] W ∧ handlesMet Tryd.prog [("errors.errorType", Rows.laid_errors_errorType)] W := h
  exact penv_cells h'.1 h'.2
/-- the two laws over trie.Build -/
theorem penv_of2 {W : World} (h : laidMetH Tryd.prog [("errors.errorType", Rows.laid_errors_errorType), ("virama/trie.errTrie", Rows.laid_virama_trie_errTrie), ("virama/trie.errRange", Rows.laid_virama_trie_errRange), ("virama/pack.errPack", Rows.laid_virama_pack_errPack)] W) : (∃ z, PEnv W W.heap.size z) ∧ ∃ a0 a1, Errs W W.heap.size a0 a1 := by
  have h' : laidMet Tryd.prog [("virama/trie.errTrie", Rows.laid_virama_trie_errTrie), ("virama/trie.errRange", Rows.laid_virama_trie_errRange), ("virama/pack.errPack", Rows.laid_virama_pack_errPack)] W ∧ handlesMet Tryd.prog [("errors.errorType", Rows.laid_errors_errorType)] W := h
  exact ⟨penv_cells h'.1.tail.tail h'.2, errs_of h'.1⟩
set_option maxRecDepth 100000 in
/-- an argument of a text -/
theorem open_str {H : Type} {enc : TypeId × Value → H} {W : World} {base : Nat} {v : Value} {d : DataW H} {p : List MemPlace} (h : DataW.Trod enc Tryd.prog W 0 (fun _ => true) true 9 v d p) (hv : Value.okWide Tryd.prog W .any base 9 v) :
    ∃ s : ByteArray, v = .string s ∧ d = .lit (.string s.data.toList) ∧ p = [] ∧ s.size ≤ maxLen := Go.ChangeMaps.open_string Tryd.underlying9 hv h
end Go.Proofs.YtibndkkbmgbogaaDoor
