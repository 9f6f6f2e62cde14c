/- How a list of ranges, and the two error variables, come in: for the frames of the trie laws. -/
import Derived.Test.YtibndkkbmgbogaaDoorCards
import Derived.Test.YtibndkkbmgbogaaDoorTie
import Derived.WalkKit
import Derived.ProofKit
import Derived.OpenShut
import Derived.Carry
import Derived.OpenVars
import Derived.Deep.DeepHandedRow
import Derived.Lib.LaidTab
import Derived.Stop.LaidTwo
import Derived.Stop.Texts
import Derived.Stop.LaidErr
import Derived.Deep.Slices
import Derived.Deep.Fields
import Derived.ChangeSame
import Derived.Test.YtibndkkbmgbogaaDoorTold
namespace Go.Proofs.YtibndkkbmgbogaaDoor
open Go Go.ChangeShapes Go.WideShapes Go.ChangeAt Go.RowKit Go.Deep

section
variable {H : Type} {enc : TypeId × Value → H} {P : Program} {w : World} {base : Nat} {spare : Nat → Bool} {held : Bool}
theorem open_slice_fields {t e : TypeId} {fs : Array Field} {fuel : Nat} {cs : List Value} {x : DataW H × List MemPlace} (ht : P.underlying t = some (.slice e)) (he : P.underlying e = some (.struct fs))
    (hone : oneCellFields P fs = true) (hC : P.cellsOf e = fs.size) (h : DataW.trod enc P w base spare held fuel t cs = some x) :
    (cs = [.slice none 0 0] ∧ x = (.nil, [])) ∨
    ∃ (a : Addr) (len cap m : Nat) (D : Nat → DataW H) (Pl : Nat → List MemPlace), cs = [.slice (some a) len cap] ∧ base ≤ a.block ∧ len ≤ cap ∧ cap ≤ maxLen ∧ m = (if spare a.block then cap else len) ∧
      x = (.slice ((List.range len).map D) ((List.range (m - len)).map fun j => D (len + j)), MemPlace.row a (m * fs.size) ++ (List.range m).flatMap Pl) ∧
      ∀ i, i < m → ∃ (ys : List (DataW H × List MemPlace)) (n : Nat), D i = .agg (ys.map (·.1)) ∧ Pl i = ys.flatMap (·.2) ∧ ys.length = fs.size ∧
        ∀ (j : Nat) (f : Field), fs[j]? = some f → ∃ (v : Value) (y : DataW H × List MemPlace), w.cell? (a.add (i * fs.size + j)) = some v ∧ ys[j]? = some y ∧ DataW.trod enc P w base spare held n f.type [v] = some y := by
  rcases open_slice ht h with h0 | ⟨a, len, cap, m, n, D, Pl, hcs, hb, hl, hm, hmm, hx, hi⟩
  · exact .inl h0
  · refine .inr ⟨a, len, cap, m, D, Pl, hcs, hb, hl, hm, hmm, by rw [hC] at hx; exact hx, fun i him => ?_⟩
    obtain ⟨cs', hc, ht'⟩ := hi i him
    rw [hC] at hc
    obtain ⟨ys, n', hn', hy, hlen, hyl, hf⟩ := DataW.trod_struct he ht'
    obtain ⟨_, hcl, hat⟩ := World.cells?_some hc
    simp only [Prod.mk.injEq] at hy
    refine ⟨ys, n', hy.1, hy.2, hyl, fun j f hj => ?_⟩
    obtain ⟨ho, hk⟩ := hone_of hone j f hj
    have hjl : j < fs.size := (Array.getElem?_eq_some_iff.1 hj).1
    have hcell := hat j hjl
    have hv : cs'[j]? = some (cs'[j]'(by omega)) := List.getElem?_eq_getElem (by omega)
    have h1 := hf j f hj
    rw [ho, hk] at h1
    have hone' : (cs'.drop j).take 1 = [cs'[j]'(by omega)] := by
      rw [List.drop_eq_getElem_cons (by omega)]
      rfl
    rw [hone'] at h1
    have hys : ys[j]? = some (ys[j]'(by omega)) := List.getElem?_eq_getElem (by omega)
    refine ⟨_, _, ?_, hys, h1.trans hys⟩
    rw [← Go.Deep.add_add, hcell, hv]
end

theorem list_of {α : Type} (n : Nat) (p : Nat → α → Prop) (h : ∀ i, i < n → ∃ x, p i x) : ∃ l : List α, l.length = n ∧ ∀ i (hi : i < l.length), p i l[i] := by
  induction n with
  | zero => exact ⟨[], rfl, fun i hi => by cases hi⟩
  | succ n ih =>
    obtain ⟨l, hl, hp⟩ := ih (fun i hi => h i (by omega))
    obtain ⟨x, hx⟩ := h n (by omega)
    refine ⟨l ++ [x], by simp [hl], fun i hi => ?_⟩
    by_cases hil : i < l.length
    · rw [List.getElem_append_left hil]; exact hp i hil
    · have : i = n := by simp at hi; omega
      subst this
      rw [List.getElem_append_right (by omega)]
      simp only [hl, Nat.sub_self, List.getElem_cons_zero]
      exact hx

set_option maxRecDepth 100000 in
/-- an argument of ranges -/
theorem open_rgs {H : Type} {enc : TypeId × Value → H} {W : World} {base : Nat} {v : Value} {d : DataW H} {p : List MemPlace} (h : DataW.Trod enc Tryd.prog W 0 (fun _ => true) true 22 v d p) (hv : Value.okWide Tryd.prog W .any base 22 v) :
    ∃ A n c l, v = .slice A n c ∧ n ≤ c ∧ Rds W W.heap.size 3 A n (rgCells l) := by
  obtain ⟨A, n, c, rfl⟩ := okWide_slice Tryd.underlying22 hv
  obtain ⟨fuel, hf⟩ := h
  rcases open_slice_fields Tryd.underlying22 Tryd.underlying62 (by kernel_rfl) (by kernel_rfl) hf with ⟨hcs, _⟩ | ⟨a, len, cap, m, D, Pl, hcs, _, hl, hm, hmm, _, hi⟩
  · simp [Value.cells] at hcs
    obtain ⟨rfl, rfl, rfl⟩ := hcs
    exact ⟨none, 0, 0, [], rfl, Nat.le_refl _, rfl, by omega, fun h => by omega⟩
  · simp [Value.cells] at hcs
    obtain ⟨rfl, rfl, rfl⟩ := hcs
    simp only [if_true] at hmm
    have hall : ∀ i, i < n → ∃ x : Rg, W.cell? (a.add (i * 3)) = some (.int .i64 x.fr) ∧ W.cell? (a.add (i * 3 + 1)) = some (.int .i64 x.to) ∧ W.cell? (a.add (i * 3 + 2)) = some (.int .i64 x.vl) := fun i hin => by
      obtain ⟨ys, nn, _, _, _, hfl⟩ := hi i (by omega)
      obtain ⟨v0, y0, e0, _, t0⟩ := hfl 0 _ rfl
      obtain ⟨v1, y1, e1, _, t1⟩ := hfl 1 _ rfl
      obtain ⟨v2, y2, e2, _, t2⟩ := hfl 2 _ rfl
      obtain ⟨z0, c0, _, _⟩ := DataW.trod_int Tryd.underlying3 t0
      obtain ⟨z1, c1, _, _⟩ := DataW.trod_int Tryd.underlying3 t1
      obtain ⟨z2, c2, _, _⟩ := DataW.trod_int Tryd.underlying3 t2
      injection c0 with c0 _
      injection c1 with c1 _
      injection c2 with c2 _
      subst c0 c1 c2
      exact ⟨⟨z0, z1, z2⟩, e0, e1, e2⟩
    obtain ⟨l, hll, hp⟩ := list_of n _ hall
    refine ⟨some a, n, c, l, rfl, hl, by rw [rgCells_length]; omega, by unfold maxLen at hm; omega, fun h0 => ?_⟩
    obtain ⟨p0, _, _⟩ := hp 0 (by omega)
    obtain ⟨b, o, sp⟩ := a
    have hsp : sp = none ∧ b < W.heap.size := by
      have e : (⟨b, o, sp⟩ : Addr).add (0 * 3) = ⟨b, o, sp⟩ := by unfold Addr.add; split <;> simp_all
      rw [e] at p0
      unfold World.cell? at p0
      cases hh : W.heap[b]? with
      | none => rw [hh] at p0; cases p0
      | some ob =>
        rw [hh] at p0
        refine ⟨?_, (Array.getElem?_eq_some_iff.1 hh).1⟩
        cases ob <;> simp at p0
        exact p0.1
    obtain ⟨rfl, hb⟩ := hsp
    have hadd : ∀ i, (⟨b, o, none⟩ : Addr).add i = ⟨b, o + i, none⟩ := fun i => by unfold Addr.add; split <;> simp_all
    refine ⟨b, o, rfl, hb, fun j u hu => ?_⟩
    have hj : j < 3 * l.length := by
      have := (List.getElem?_eq_some_iff.1 hu).1
      rwa [rgCells_length] at this
    have hjl : j / 3 < l.length := by omega
    obtain ⟨q0, q1, q2⟩ := hp (j / 3) hjl
    obtain ⟨g0, g1, g2⟩ := rgCells_get l (j / 3) hjl
    rw [hadd] at q0 q1 q2
    rcases (by omega : j = 3 * (j / 3) ∨ j = 3 * (j / 3) + 1 ∨ j = 3 * (j / 3) + 2) with e | e | e
    · rw [e, g0] at hu
      rw [e, ← hu, ← q0, Nat.mul_comm]
    · rw [e, g1] at hu
      rw [e, ← hu, ← q1, Nat.mul_comm]
    · rw [e, g2] at hu
      rw [e, ← hu, ← q2, Nat.mul_comm]

theorem gT : Tryd.prog.globalNamed "virama/trie.errTrie" = some 1 := by kernel_rfl
theorem gR : Tryd.prog.globalNamed "virama/trie.errRange" = some 0 := by kernel_rfl
theorem gTType : (Tryd.prog.globals[1]?).map (·.type) = some 65 := by kernel_rfl
theorem gRType : (Tryd.prog.globals[0]?).map (·.type) = some 65 := by kernel_rfl
theorem cellsStr : Tryd.prog.cellsOf 184 = 1 := by kernel_rfl
theorem cellsS : Tryd.prog.cellsOf 9 = 1 := by kernel_rfl
theorem star : "*" ++ "errors.errorString" = "*errors.errorString" := by decide
theorem rowStr (u : TypeId) (h : Tryd.prog.typeName? 3 u = some "*errors.errorString") : u = 164 :=
  typeName_ptr_named (nm := "errors.errorString") (by rw [star]; kernel_rfl) (by kernel_rfl) (by decide) u (by rw [star]; exact h)

/-- what the two listed variables give -/
theorem errs_of {W : World} {r : List (String × DataW Unit)} (h : laidMet Tryd.prog (("virama/trie.errTrie", Rows.laid_virama_trie_errTrie) :: ("virama/trie.errRange", Rows.laid_virama_trie_errRange) :: r) W) : ∃ a0 a1, Errs W W.heap.size a0 a1 := by
  obtain ⟨a0, a1, s0, s1, c0, c1, t0, t1, hv0, hv1, _, _, _, _, _, _, hne, hb0, hb1⟩ := laid_sentinels2 h gT gTType gR gRType Tryd.underlying65 rowStr Tryd.underlying164 Tryd.underlying184 rfl rfl Tryd.underlying9 cellsStr cellsS
  refine ⟨a1, a0, ?_, ?_, fun e => hne e.symm, ⟨_, _, hb1⟩, ⟨_, _, hb0⟩, ?_, (Array.getElem?_eq_some_iff.1 hb1).1, (Array.getElem?_eq_some_iff.1 hb0).1⟩
  · simpa using World.var?_cell gR hv1 0
  · simpa using World.var?_cell gT hv0 0
  · have b0 : W.cell? ⟨1, 0, none⟩ = some (.iface 164 (.pointer (some a0))) := by simpa using World.var?_cell gT hv0 0
    have b1 : W.cell? ⟨0, 0, none⟩ = some (.iface 164 (.pointer (some a1))) := by simpa using World.var?_cell gR hv1 0
    exact ⟨World.block_lt_of_cell? _ _ b1, World.block_lt_of_cell? _ _ b0⟩
end Go.Proofs.YtibndkkbmgbogaaDoor
