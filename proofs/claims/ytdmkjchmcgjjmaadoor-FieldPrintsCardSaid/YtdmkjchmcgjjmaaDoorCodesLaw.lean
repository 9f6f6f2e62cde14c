/- The walk of the law FieldCodes. Conditions: the packages' variables hold what they hold. -/
import Derived.Test.YtdmkjchmcgjjmaaDoorShown
import Derived.Test.YtdmkjchmcgjjmaaDoorCodesL
import Derived.Laws.IdiomStrings
namespace Go.Proofs.YtdmkjchmcgjjmaaDoor
open Go Go.RowKit

theorem own_cellsR {w : World} {base e n : Nat} {v : Value} {xs : List Value} (h : w.ownsRow base e 1 v n xs) (hn : 0 < n) : ∃ g c, v = .slice (some ⟨g, 0, none⟩) n c ∧ ∀ j u, xs[j]? = some u → w.cell? ((⟨g, 0, none⟩ : Addr).add j) = some u := by
  obtain ⟨g, c, rfl⟩ := own_some h hn
  exact ⟨g, c, rfl, fun j u hu => h.cells (g := g) rfl j u hu⟩
theorem intCells_one (l : List Int) : ∀ u ∈ intCells l, u.oneCell' = true := by
  intro u hu
  obtain ⟨x, _, rfl⟩ := List.mem_map.1 hu
  rfl
theorem intCells_app (a b : List Int) : intCells a ++ intCells b = intCells (a ++ b) := by simp [intCells]

/-- rows of different ages are apart -/
theorem own_apart {w : World} {base e size n : Nat} {v u : Value} {xs : List Value} (h : w.ownsRow base e size v n xs) (hu : ∀ k, u.ownBlock = some k → k < base) : v.ownBlock = none ∨ v.ownBlock ≠ u.ownBlock := by
  cases hv : v.ownBlock with
  | none => exact .inl rfl
  | some k =>
    right
    intro e
    have h1 := hu k e.symm
    have h2 := (h.lt k hv).1
    omega
theorem own_rds_at {w : World} {base e size n n' c : Nat} {A : Option Addr} {xs : List Value} (h : w.ownsRow base e size (.slice A n' c) n xs) (hn : n ≤ 9223372036854775807) : Rds w w.heap.size size A n xs := by
  obtain ⟨A', c', e1, _, h3⟩ := own_rds h (Nat.le_refl _) hn
  injection e1 with e1 e2 e3
  rw [e1]
  exact h3

section
variable {P : Program} (w : World)
theorem wpList_wanted {ops : Array Oper} {rest : List Oper} {o : Oper} {a : Act} {Q : Exit → Act → World → Prop} {w : World} (hw : Region.wanted o (yielded ops a.tmps) = true)
    (h : ∀ K : Act → World → Prop, (∀ a w, wpList P ops Q rest a w → K a w) → o.wp P a w K Q) : wpList P ops Q (o :: rest) a w :=
  wpList_step fun K hK => by rw [if_pos hw]; exact h K hK
/-- an append behind a guard -/
theorem wpList_append_own_g {ops : Array Oper} {rest : List Oper} {o : Oper} {a : Act} {Q : Exit → Act → World → Prop} (hgd : Region.wanted o (yielded ops a.tmps) = true) (s x : Operand) (t : TypeId)
    (ho : o.op = .call { callee := .builtin .append, args := #[s, x], argTypes := #[t, t] })
    (base : Nat) (e : TypeId) (i : TypeInfo) (z : Value) (size bytes : Nat) (ht : P.underlying t = some (.slice e)) (hi : P.info? e = some i) (hz : i.zero = some z)
    (hsize : i.size = size) (hby : i.bytes = bytes) (hzs : z.cells.size = size) (hsz : 0 < size)
    (v : Value) (n : Nat) (xs : List Value) (hs : a.eval s = v) (hown : w.ownsRow base e size v n xs)
    (ad : Addr) (m c : Nat) (news : List Value) (hx : a.eval x = .slice (some ad) m c) (hl : news.length = m * size) (hnews : ∀ j u, news[j]? = some u → w.cell? (ad.add j) = some u) (h1 : ∀ u ∈ news, u.oneCell' = true)
    (h63 : n + m ≤ maxLen) (hbytes : (n + m) * bytes ≤ 140737488355328) (hbase : base ≤ w.heap.size)
    (h : ∀ v' w', w'.ownsRow base e size v' (n + m) (xs ++ news) → w.grownBy w' v.ownBlock → (v' = .slice none 0 0 ↔ v = .slice none 0 0 ∧ m = 0) → wpList P ops Q rest (a.put o.dst v') w') : wpList P ops Q (o :: rest) a w :=
  wpList_wanted hgd fun _ hK => wp_append_own w s x t ho base e i z size bytes ht hi hz hsize hby hzs hsz v n xs hs hown ad m c news hx hl hnews h1 h63 hbytes hbase fun v' w' h2 h3 h4 => hK _ _ (h v' w' h2 h3 h4)
end

set_option maxRecDepth 100000 in
set_option maxHeartbeats 4000000 in
theorem codesLaw_any (s0 t0 : ByteArray) (B : Nat) (m : Int) (w : World) (hE : FEnv w B m) (hB : B ≤ w.heap.size) : Calls Tryd.prog 4 #[.string s0, .string t0] w (Freed w (.bool true)) := by
  obtain ⟨i0, hi, hz0, hz1, hz2⟩ := info_parts info3
  have hsh := shown_any B m w hE hB
  go_enter Tryd.func4, Tryd.ntmps4
  go_wp2_with fail
  refine hsh.mono ?_
  rintro e w1 ⟨rfl, b1⟩
  clear hsh
  have HE1 := hide (hE.below (b1.mono hB))
  have hB1 := Nat.le_trans hB b1.size
  clear hE
  go_wp2_with fail
  have hs : (s0.extract 0 (min (s0.size : Int) 60).toNat).size ≤ 60 := by rw [ByteArray.size_extract]; omega
  generalize s0.extract 0 (min (s0.size : Int) 60).toNat = s at *
  go_wp2_with fail
  have ht : (t0.extract 0 (min (t0.size : Int) 60).toNat).size ≤ 60 := by rw [ByteArray.size_extract]; omega
  generalize t0.extract 0 (min (t0.size : Int) 60).toNat = t at *
  have hc1 := Codes_any s B m w1 HE1.out hB1 (by omega)
  go_wp2_with fail
  refine hc1.mono ?_
  rintro e w2 ⟨v2, rfl, h2, b2⟩
  clear hc1
  have c2 := b1.trans (b2.mono b1.size)
  have HE2 := hide (HE1.out.below (b2.mono hB1))
  have hB2 := Nat.le_trans hB1 b2.size
  have hc2 := Codes_any t B m w2 HE2.out hB2 (by omega)
  have H2 := hide h2
  clear h2
  go_wp2_with fail
  refine hc2.mono ?_
  rintro e w3 ⟨v3, rfl, h3, b3⟩
  clear hc2
  have c3 := c2.trans (b3.mono c2.size)
  have HE3 := hide (HE2.out.below (b3.mono hB2))
  have hB3 := Nat.le_trans hB2 b3.size
  have hsz : (s ++ ⟨#[32]⟩ ++ t).size ≤ 121 := by
    rw [ByteArray.size_append, ByteArray.size_append]
    show s.size + 1 + t.size ≤ 121
    omega
  have hc3 := Codes_any (s ++ ⟨#[32]⟩ ++ t) B m w3 HE3.out hB3 (by omega)
  have hvb : ∀ k, v2.ownBlock = some k → k < w3.heap.size := fun k e => Nat.lt_of_lt_of_le (H2.out.lt k e).2 b3.size
  have HVB := hide hvb
  clear hvb
  have H23 := hide (own_below H2.out b3)
  have H3 := hide h3
  clear h3 H2
  go_wp2_with fail
  refine hc3.mono ?_
  rintro e w4 ⟨v4, rfl, h4, b4⟩
  clear hc3
  have c4 := c3.trans (b4.mono c3.size)
  have hsize4 := c4.size
  have hsize14 : w1.heap.size ≤ w4.heap.size := Nat.le_trans b2.size (Nat.le_trans b3.size b4.size)
  have H24 := hide (own_below H23.out b4)
  have H34 := hide (own_below H3.out b4)
  have H4 := hide h4
  have C4 := hide c4
  clear H23 H3 h4 c4 c3 c2 b2 b3 b4
  cases hoa : codesB s with
  | none =>
    clear hoa H24 H34
    dsimp only [Option.isSome_none]
    cases hoc : codesB (s ++ ⟨#[32]⟩ ++ t) with
    | none =>
      rw [hoc] at H4
      obtain ⟨A4, k4, rfl⟩ := own0 H4.out
      dsimp only [Option.isSome_none]
      clear hoc H4
      go_wp2_with fail
      go_ret
      exact ⟨rfl, C4.out⟩
    | some c =>
      clear hoc H4
      dsimp only [Option.isSome_some]
      go_wp2_with fail
      go_ret
      exact ⟨rfl, C4.out⟩
  | some a =>
    cases hob : codesB t with
    | none =>
      clear hob H24 H34
      dsimp only [Option.isSome_none, Option.isSome_some]
      cases hoc : codesB (s ++ ⟨#[32]⟩ ++ t) with
      | none =>
        rw [hoc] at H4
        obtain ⟨A4, k4, rfl⟩ := own0 H4.out
        dsimp only [Option.isSome_none]
        clear hoc H4
        go_wp2_with fail
        go_ret
        exact ⟨rfl, C4.out⟩
      | some c =>
        clear hoc H4
        dsimp only [Option.isSome_some]
        go_wp2_with fail
        go_ret
        exact ⟨rfl, C4.out⟩
    | some b =>
      dsimp only [Option.isSome_some]
      by_cases hse : s = ⟨#[]⟩
      · have q1 : (s.toList == []) = true := list_eq_true hse
        clear hse hoa hob H24 H34
        cases hoc : codesB (s ++ ⟨#[32]⟩ ++ t) with
        | none =>
          rw [hoc] at H4
          obtain ⟨A4, k4, rfl⟩ := own0 H4.out
          dsimp only [Option.isSome_none]
          clear hoc H4
          go_wp2_with fail
          go_ret
          exact ⟨rfl, C4.out⟩
        | some c =>
          clear hoc H4
          dsimp only [Option.isSome_some]
          go_wp2_with fail
          go_ret
          exact ⟨rfl, C4.out⟩
      · have q1 : (s.toList == []) = false := list_eq_false hse
        by_cases hte : t = ⟨#[]⟩
        · have q2 : (t.toList == []) = true := list_eq_true hte
          clear hte hse hoa hob H24 H34
          cases hoc : codesB (s ++ ⟨#[32]⟩ ++ t) with
          | none =>
            rw [hoc] at H4
            obtain ⟨A4, k4, rfl⟩ := own0 H4.out
            dsimp only [Option.isSome_none]
            clear hoc H4
            go_wp2_with fail
            go_ret
            exact ⟨rfl, C4.out⟩
          | some c =>
            clear hoc H4
            dsimp only [Option.isSome_some]
            go_wp2_with fail
            go_ret
            exact ⟨rfl, C4.out⟩
        · have q2 : (t.toList == []) = false := list_eq_false hte
          have hcc := codes_app hse hte hoa hob
          have hbn := codes_ne hte hob
          have hal := codes_len hoa
          have hbl := codes_len hob
          rw [hcc] at H4 ⊢
          rw [hoa] at H24
          rw [hob] at H34
          dsimp only [Option.getD_some, Option.isSome_some] at H4 H24 H34 ⊢
          obtain ⟨g3, k3, rfl, r3⟩ := own_cellsR H34.out hbn
          obtain ⟨A4, k4, rfl, hk4, r4⟩ := own_rds H4.out (Nat.le_refl _) (by rw [List.length_append]; omega)
          have HA := hide (show a.length ≤ 61 ∧ b.length ≤ 61 by omega)
          have N1 := hide (intCells_one b)
          clear hcc hoa hob hse hte hbn hal hbl
          have HLB := hide (show (intCells b).length = b.length * 1 by rw [intCells_length]; omega)
          have HBS := hide (show w1.heap.size ≤ w4.heap.size by omega)
          go_wp2_with (at_builtin; (refine wpList_append_own_g _ rfl (.tmp 70) (.tmp 71) 26 rfl w1.heap.size 3 i0 (.int .i64 0) 1 8 Tryd.underlying26 hi hz0 hz1 hz2 rfl (by decide) _ a.length (intCells a) rfl H24.out ⟨g3, 0, none⟩ b.length k3 (intCells b) rfl HLB.out r3 N1.out (by have := HA.out; unfold maxLen; omega) (by have := HA.out; omega) HBS.out ?_); intro v' w5 hown1 hgrow1 _; have HO := hide hown1; have HG := hide hgrow1; clear hown1 hgrow1)
          obtain ⟨A5, k5, rfl, hk5, r5⟩ := own_rds HO.out (Nat.le_refl _) (by have := HA.out; omega)
          have h45 := H4.out.kept HG.out (own_apart H4.out HVB.out)
          have hG5 := own_rds_at h45 (by have := HA.out; rw [List.length_append]; omega)
          rw [intCells_app] at r5
          have hin := ints_any A4 A5 _ k4 _ k5 _ _ w5 hG5 r5
          rw [decide_eq_true rfl] at hin
          have C5 := hide (C4.out.grown HG.out C4.out.size (fun k e => Nat.le_trans b1.size (H24.out.lt k e).1))
          clear r5 hG5 h45
          rw [List.length_append] at hin
          go_wp2_with fail
          refine hin.mono ?_
          rintro e w6 ⟨rfl, q, rfl⟩
          go_wp2_with fail
          go_ret
          exact ⟨rfl, below_drewN C5.out q⟩
end Go.Proofs.YtdmkjchmcgjjmaaDoor
