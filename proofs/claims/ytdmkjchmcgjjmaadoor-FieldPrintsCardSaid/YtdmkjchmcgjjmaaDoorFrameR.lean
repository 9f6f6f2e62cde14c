/- How a list of records comes in: for the frame of FieldPrints. -/
import Derived.Test.YtdmkjchmcgjjmaaDoorFrame
import Derived.Test.YtdmkjchmcgjjmaaDoorPrints
namespace Go.Proofs.YtdmkjchmcgjjmaaDoor
open Go Go.ChangeShapes Go.WideShapes Go.ChangeAt Go.RowKit Go.Deep

section
variable {H : Type} {enc : TypeId × Value → H} {P : Program} {w : World} {base : Nat} {spare : Nat → Bool} {held : Bool}
theorem open_slice_fields {t e : TypeId} {fs : Array Field} {fuel : Nat} {cs : List Value} {x : DataW H × List MemPlace} (ht : P.underlying t = some (.slice e)) (he : P.underlying e = some (.struct fs))
    (hone : oneCellFields P fs = true) (hC : P.cellsOf e = fs.size) (h : DataW.trod enc P w base spare held fuel t cs = some x) :
    (cs = [.slice none 0 0] ∧ x = (.nil, [])) ∨
    ∃ (a : Addr) (len cap m : Nat) (D : Nat → DataW H) (Pl : Nat → List MemPlace), cs = [.slice (some a) len cap] ∧ base ≤ a.block ∧ len ≤ cap ∧ cap ≤ maxLen ∧ m = (if spare a.block then cap else len) ∧
      x = (.slice ((List.range len).map D) ((List.range (m - len)).map fun j => D (len + j)), MemPlace.row a (m * fs.size) ++ (List.range m).flatMap Pl) ∧
      ∀ i, i < m → ∃ (ys : List (DataW H × List MemPlace)) (n : Nat), D i = .agg (ys.map (·.1)) ∧ Pl i = ys.flatMap (·.2) ∧ ys.length = fs.size ∧
        ∀ (j : Nat) (f : Field), fs[j]? = some f → ∃ (v : Value) (y : DataW H × List MemPlace), w.cell? (a.add (i * fs.size + j)) = some v ∧ ys[j]? = some y ∧ DataW.trod enc P w base spare held n f.type [v] = some y := by
  rcases open_slice ht h with h0 | ⟨a, len, cap, m, n, D, Pl, hcs, hb, hl, hm, hmm, hx, hi⟩
  · exact .inl h0
  · refine .inr ⟨a, len, cap, m, D, Pl, hcs, hb, hl, hm, hmm, by rw [hC] at hx; exact hx, fun i him => ?_⟩
    obtain ⟨cs', hc, ht'⟩ := hi i him
    rw [hC] at hc
    obtain ⟨ys, n', hn', hy, hlen, hyl, hf⟩ := DataW.trod_struct he ht'
    obtain ⟨_, hcl, hat⟩ := World.cells?_some hc
    simp only [Prod.mk.injEq] at hy
    refine ⟨ys, n', hy.1, hy.2, hyl, fun j f hj => ?_⟩
    obtain ⟨ho, hk⟩ := hone_of hone j f hj
    have hjl : j < fs.size := (Array.getElem?_eq_some_iff.1 hj).1
    have hcell := hat j hjl
    have hv : cs'[j]? = some (cs'[j]'(by omega)) := List.getElem?_eq_getElem (by omega)
    have h1 := hf j f hj
    rw [ho, hk] at h1
    have hone' : (cs'.drop j).take 1 = [cs'[j]'(by omega)] := by
      rw [List.drop_eq_getElem_cons (by omega)]
      rfl
    rw [hone'] at h1
    have hys : ys[j]? = some (ys[j]'(by omega)) := List.getElem?_eq_getElem (by omega)
    refine ⟨_, _, ?_, hys, h1.trans hys⟩
    rw [← Go.Deep.add_add, hcell, hv]
end

theorem list_of {α : Type} (n : Nat) (p : Nat → α → Prop) (h : ∀ i, i < n → ∃ x, p i x) : ∃ l : List α, l.length = n ∧ ∀ i (hi : i < l.length), p i l[i] := by
  induction n with
  | zero => exact ⟨[], rfl, fun i hi => by cases hi⟩
  | succ n ih =>
    obtain ⟨l, hl, hp⟩ := ih (fun i hi => h i (by omega))
    obtain ⟨x, hx⟩ := h n (by omega)
    refine ⟨l ++ [x], by simp [hl], fun i hi => ?_⟩
    by_cases hil : i < l.length
    · rw [List.getElem_append_left hil]; exact hp i hil
    · have : i = n := by simp at hi; omega
      subst this
      rw [List.getElem_append_right (by omega)]
      simp only [hl, Nat.sub_self, List.getElem_cons_zero]
      exact hx

theorem addr_of {W : World} {a : Addr} {n : Nat} {xs : List Value} (h0 : 0 < n) (hl : xs.length = n) (hc : ∀ j u, xs[j]? = some u → W.cell? (a.add j) = some u) :
    ∃ b o, some a = some ⟨b, o, none⟩ ∧ b < W.heap.size ∧ ∀ j u, xs[j]? = some u → W.cell? ⟨b, o + j, none⟩ = some u := by
  obtain ⟨b, o, sp⟩ := a
  have p0 := hc 0 xs[0] (List.getElem?_eq_getElem (by omega))
  have hsp : sp = none ∧ b < W.heap.size := by
    have e : (⟨b, o, sp⟩ : Addr).add 0 = ⟨b, o, sp⟩ := by unfold Addr.add; split <;> simp_all
    rw [e] at p0
    unfold World.cell? at p0
    cases hh : W.heap[b]? with
    | none => rw [hh] at p0; cases p0
    | some ob =>
      rw [hh] at p0
      refine ⟨?_, (Array.getElem?_eq_some_iff.1 hh).1⟩
      cases ob <;> simp at p0
      exact p0.1
  obtain ⟨rfl, hb⟩ := hsp
  refine ⟨b, o, rfl, hb, fun j u hu => ?_⟩
  have := hc j u hu
  have hadd : (⟨b, o, none⟩ : Addr).add j = ⟨b, o + j, none⟩ := by unfold Addr.add; split <;> simp_all
  rwa [hadd] at this


theorem int_of_wf {z : Int} (h : (Lit.int .i64 z).wf = true) : -9223372036854775808 ≤ z ∧ z ≤ 9223372036854775807 := by
  have e1 : IntKind.i64.min = -9223372036854775808 := rfl
  have e2 : IntKind.i64.max = 9223372036854775807 := rfl
  simp only [Lit.wf, Bool.and_eq_true, decide_eq_true_eq, e1, e2] at h
  exact h

section
variable {H : Type} {enc : TypeId × Value → H} {W : World}
/-- a field of texts -/
theorem field_strs {base fuel : Nat} {v : Value} {x : DataW H × List MemPlace} (h : DataW.trod enc Tryd.prog W base (fun _ => true) true fuel 29 [v] = some x) :
    ∃ A c l, v = .slice A (List.length l) c ∧ (∀ s ∈ l, ByteArray.size s ≤ maxLen) ∧ Rds W W.heap.size 1 A l.length (strCells l) := by
  rcases open_strs Tryd.underlying29 Tryd.underlying9 (by kernel_rfl) h with ⟨hcs, _⟩ | ⟨a, len, cap, m, Sx, hcs, _, hl, hm, hmm, _, hcell⟩
  · injection hcs with hcs
    subst hcs
    exact ⟨none, 0, [], rfl, (fun _ h => by cases h), rfl, (by decide), (fun h => absurd h (by decide))⟩
  · injection hcs with hcs
    subst hcs
    simp only [if_true] at hmm
    subst hmm
    have hlen : ((List.range len).map Sx).length = len := by simp
    have hlen2 : (strCells ((List.range len).map Sx)).length = len := by rw [strCells_length]; exact hlen
    refine ⟨some a, m, (List.range len).map Sx, by rw [hlen], fun s hs => ?_, ?_⟩
    · obtain ⟨i, hi, rfl⟩ := List.mem_map.1 hs
      exact (hcell i (by have := List.mem_range.1 hi; omega)).2
    · rw [hlen]
      refine ⟨by rw [hlen2]; omega, by unfold maxLen at hm; omega, fun h0 => addr_of h0 hlen2 fun j u hu => ?_⟩
      have hj : j < len := by have := (List.getElem?_eq_some_iff.1 hu).1; omega
      rw [(hcell j (by omega)).1, ← hu]
      simp [strCells, hj]

set_option maxRecDepth 100000 in
/-- an argument of records -/
theorem open_recs {base : Nat} {v : Value} {d : DataW H} {p : List MemPlace} (h : DataW.Trod enc Tryd.prog W 0 (fun _ => true) true 35 v d p) (hv : Value.okWide Tryd.prog W .any base 35 v) :
    ∃ A n c X, v = .slice A n c ∧ n ≤ c ∧ Rds W W.heap.size 4 A n (zCells X) ∧ Zflds W W.heap.size X ∧ (∀ x ∈ X, ∀ f ∈ x.fs, ByteArray.size f ≤ 9223372036854775807) ∧ (∀ x ∈ X, IntOk x) := by
  obtain ⟨A, n, c, rfl⟩ := okWide_slice Tryd.underlying35 hv
  obtain ⟨fuel, hf⟩ := h
  rcases open_slice_fields Tryd.underlying35 Tryd.underlying31 (by kernel_rfl) (by kernel_rfl) hf with ⟨hcs, _⟩ | ⟨a, len, cap, m, D, Pl, hcs, _, hl, hm, hmm, _, hi⟩
  · simp [Value.cells] at hcs
    obtain ⟨rfl, rfl, rfl⟩ := hcs
    exact ⟨none, 0, 0, [], rfl, Nat.le_refl _, ⟨rfl, by omega, fun h => by omega⟩, (fun x hx => by cases hx), (fun x hx => by cases hx), (fun x hx => by cases hx)⟩
  · simp [Value.cells] at hcs
    obtain ⟨rfl, rfl, rfl⟩ := hcs
    simp only [if_true] at hmm
    have hall : ∀ i, i < n → ∃ x : RZ, (W.cell? (a.add (i * 4)) = some (.int .i64 x.line) ∧ W.cell? (a.add (i * 4 + 1)) = some (.int .i64 x.a) ∧ W.cell? (a.add (i * 4 + 2)) = some (.int .i64 x.b) ∧ W.cell? (a.add (i * 4 + 3)) = some (.slice x.A x.fs.length x.c)) ∧
        Rds W W.heap.size 1 x.A x.fs.length (strCells x.fs) ∧ (∀ f ∈ x.fs, ByteArray.size f ≤ 9223372036854775807) ∧ IntOk x := fun i hin => by
      obtain ⟨ys, nn, _, _, _, hfl⟩ := hi i (by omega)
      obtain ⟨v0, y0, e0, _, t0⟩ := hfl 0 _ rfl
      obtain ⟨v1, y1, e1, _, t1⟩ := hfl 1 _ rfl
      obtain ⟨v2, y2, e2, _, t2⟩ := hfl 2 _ rfl
      obtain ⟨v3, y3, e3, _, t3⟩ := hfl 3 _ rfl
      obtain ⟨z0, c0, _, w0⟩ := DataW.trod_int Tryd.underlying3 t0
      obtain ⟨z1, c1, _, w1⟩ := DataW.trod_int Tryd.underlying3 t1
      obtain ⟨z2, c2, _, w2⟩ := DataW.trod_int Tryd.underlying3 t2
      obtain ⟨A3, c3, l3, rfl, hz3, hr3⟩ := field_strs t3
      injection c0 with c0 _
      injection c1 with c1 _
      injection c2 with c2 _
      subst c0 c1 c2
      refine ⟨⟨z0, z1, z2, l3, A3, c3⟩, ⟨e0, e1, e2, e3⟩, hr3, fun f hf => Nat.le_trans (hz3 f hf) (by decide), ?_⟩
      first
      | exact ⟨int_of_wf w1, int_of_wf w2⟩
      | exact ⟨w1, w2⟩
    obtain ⟨l, hll, hp⟩ := list_of n _ hall
    have hmem : ∀ x ∈ l, ∃ i, ∃ h : i < l.length, x = l[i] := fun x hx => by
      obtain ⟨i, h, e⟩ := List.mem_iff_getElem.1 hx
      exact ⟨i, h, e.symm⟩
    refine ⟨some a, n, c, l, rfl, hl, ⟨by rw [zCells_length]; omega, by unfold maxLen at hm; omega, fun h0 => ?_⟩, fun x hx => ?_, fun x hx => ?_, fun x hx => ?_⟩
    · refine addr_of (n := 4 * l.length) (by omega) (zCells_length l) fun j u hu => ?_
      have hj : j < 4 * l.length := by
        have := (List.getElem?_eq_some_iff.1 hu).1
        rwa [zCells_length] at this
      have hjl : j / 4 < l.length := by omega
      obtain ⟨⟨q0, q1, q2, q3⟩, _⟩ := hp (j / 4) hjl
      have g := fun k hk => zCells_get l (j / 4) k hjl hk
      rcases (by omega : j = 4 * (j / 4) + 0 ∨ j = 4 * (j / 4) + 1 ∨ j = 4 * (j / 4) + 2 ∨ j = 4 * (j / 4) + 3) with e | e | e | e
      · rw [e, g 0 (by decide)] at hu
        rw [e, ← hu, Nat.mul_comm, Nat.add_zero, q0]
        rfl
      · rw [e, g 1 (by decide)] at hu
        rw [e, ← hu, Nat.mul_comm, q1]
        rfl
      · rw [e, g 2 (by decide)] at hu
        rw [e, ← hu, Nat.mul_comm, q2]
        rfl
      · rw [e, g 3 (by decide)] at hu
        rw [e, ← hu, Nat.mul_comm, q3]
        rfl
    · obtain ⟨i, h, rfl⟩ := hmem x hx
      exact (hp i h).2.1
    · obtain ⟨i, h, rfl⟩ := hmem x hx
      exact (hp i h).2.2.1
    · obtain ⟨i, h, rfl⟩ := hmem x hx
      exact (hp i h).2.2.2
end
end Go.Proofs.YtdmkjchmcgjjmaaDoor
