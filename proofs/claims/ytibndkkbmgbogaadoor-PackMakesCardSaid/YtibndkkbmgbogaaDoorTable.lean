/- The trie laws' Table: a trie, cut. Conditions: the trie's slices read as lists and lie within their capacities. -/
import Derived.Test.YtibndkkbmgbogaaDoorProg
import Derived.Test.YtibndkkbmgbogaaDoorBase
import Derived.Test.YtibndkkbmgbogaaDoorPut
import Derived.Deep.AppendLies
import Derived.Outline
namespace Go.Proofs.YtibndkkbmgbogaaDoor
open Go Go.RowKit

/-- rows within their capacities -/
def RowsC (w : World) (B : Nat) (A : Option Addr) (n : Nat) (ll : List (List Int)) : Prop :=
  ∃ ss : List (Option Addr × Nat × Nat), Rds w B 1 A n (ss.map fun s => .slice s.1 s.2.1 s.2.2) ∧ ss.length = ll.length ∧ ∀ i (h : i < ss.length) (h' : i < ll.length), Rds w B 1 ss[i].1 ss[i].2.1 (intCells ll[i]) ∧ ss[i].2.1 ≤ ss[i].2.2
theorem RowsC.rows {w : World} {B : Nat} {A : Option Addr} {n : Nat} {ll : List (List Int)} (h : RowsC w B A n ll) : Rows w B A n ll := by
  obtain ⟨ss, h1, h2, h3⟩ := h
  exact ⟨ss, h1, h2, fun i hi hi' => (h3 i hi hi').1⟩
theorem RowsC.keep {w w' : World} {B n : Nat} {A : Option Addr} {ll : List (List Int)} (h : RowsC w B A n ll) (hk : ∀ p : Addr, p.block < B → w'.cell? p = w.cell? p) : RowsC w' B A n ll := by
  obtain ⟨ss, h, hl, hr⟩ := h
  exact ⟨ss, h.keep hk, hl, fun i h1 h2 => ⟨(hr i h1 h2).1.keep hk, (hr i h1 h2).2⟩⟩
theorem RowsC.more {w : World} {B B' n : Nat} {A : Option Addr} {ll : List (List Int)} (h : RowsC w B A n ll) (hB : B ≤ B') : RowsC w B' A n ll := by
  obtain ⟨ss, h, hl, hr⟩ := h
  exact ⟨ss, h.more hB, hl, fun i h1 h2 => ⟨(hr i h1 h2).1.more hB, (hr i h1 h2).2⟩⟩
theorem RowsC.below {w w' : World} {B n : Nat} {A : Option Addr} {ll : List (List Int)} (h : RowsC w B A n ll) (hb : Below B w w') : RowsC w' B A n ll := h.keep fun _ hp => hb.cell hp
theorem RowsC.row {w : World} {B n : Nat} {A : Option Addr} {ll : List (List Int)} (h : RowsC w B A n ll) {k : Nat} (hk : k < ll.length) :
    ∃ b o A' n' c', A = some ⟨b, o, none⟩ ∧ b < B ∧ w.cell? ⟨b, o + k, none⟩ = some (.slice A' n' c') ∧ Rds w B 1 A' n' (intCells ll[k]) ∧ n' ≤ c' := by
  have hn := h.rows.len
  obtain ⟨ss, h, hl, hr⟩ := h
  obtain ⟨b, o, e, hb, hc⟩ := h.2.2 (by omega)
  have hk2 : k < ss.length := by omega
  exact ⟨b, o, ss[k].1, ss[k].2.1, ss[k].2.2, e, hb, hc k _ (by rw [List.getElem?_map, List.getElem?_eq_getElem hk2]; rfl), (hr k hk2 hk).1, (hr k hk2 hk).2⟩

theorem Rds.int_take {w : World} {B n : Nat} {A : Option Addr} {l : List Int} (h : Rds w B 1 A n (intCells l)) (k : Nat) : Rds w B 1 A (min n k) (intCells (l.take k)) := by
  have hl := h.int_len
  refine ⟨by rw [intCells_length, List.length_take]; omega, by have := h.2.1; omega, fun h0 => ?_⟩
  obtain ⟨b, o, e, hb, hc⟩ := h.2.2 (by omega)
  refine ⟨b, o, e, hb, fun j u hu => hc j u ?_⟩
  unfold intCells at hu ⊢
  rw [List.map_take, List.getElem?_take] at hu
  split at hu
  · exact hu
  · cases hu

/-- a trie, cut -/
def tableB (T : Tr) : Tr := ⟨T.ix.take 4360, (T.bl.take 30).map fun b => b.take 260⟩

theorem tableB_bl (T : Tr) (i : Nat) (h : i < (tableB T).bl.length) (h' : i < T.bl.length) : (tableB T).bl[i] = T.bl[i].take 260 := by simp [tableB]

def OutT (w : World) (B : Nat) (T : Tr) (e : Ending) (w' : World) : Prop :=
  ∃ A n c A' n' c', e = .returned (.agg #[.slice A n c, .slice A' n' c']) ∧ TrAt w' w'.heap.size A n A' n' T ∧ n ≤ c ∧ n' ≤ c' ∧ Below w.heap.size w w' ∧ ∀ (g : Nat) (w2 : World), B ≤ g → g < w.heap.size → w'.grownBy w2 (some g) → TrAt w2 w2.heap.size A n A' n' T

/-- the rows laid by the first k rounds -/
def RowsTo (w : World) (B : Nat) (T : Tr) (ss : List (Option Addr × Nat × Nat)) (k : Nat) : Prop :=
  ss.length = k ∧ ∀ i (h : i < ss.length) (h' : i < T.bl.length), Rds w B 1 ss[i].1 ss[i].2.1 (intCells (T.bl[i].take 260))

set_option maxRecDepth 100000 in
set_option maxHeartbeats 2000000 in
theorem table_any (A A' : Option Addr) (n c n' c' B : Nat) (T : Tr) (w : World) (hB : B ≤ w.heap.size) (hix : Rds w B 1 A n (intCells T.ix)) (hc : n ≤ c) (hbl : RowsC w B A' n' T.bl) :
    Calls Tryd.prog 21 #[.agg #[.slice A n c, .slice A' n' c']] w (OutT w B (tableB T)) := by
  obtain ⟨i1, hi', hz0', hz1', hz2'⟩ := info_parts info24
  obtain rfl := hix.int_len
  obtain rfl := hbl.rows.len
  have hmx := hix.2.1
  have hmx' := hbl.rows.max
  go_enter Tryd.func21, Tryd.ntmps21
  by_cases h4 : T.ix.length ≤ 4360
  · go_wp2_with fail
    obtain ⟨W0, hW0⟩ : ∃ W0 : World, W0 = ((w.alloc (.cells #[.slice A T.ix.length c, .slice A' T.bl.length c'] 27)).alloc (.cells #[.slice none 0 0, .slice none 0 0] 27)).alloc (.cells #[.slice A T.ix.length c, .slice none 0 0] 27) := ⟨_, rfl⟩
    have hb0 : Below w.heap.size w W0 := by rw [hW0]; exact (((Below.refl _ _).alloc (Nat.le_refl _) _).alloc (by simp) _).alloc (by simp; omega) _
    have hs0 : w.heap.size + 3 ≤ W0.heap.size := by rw [hW0]; simp
    have kB0 : Blk W0 w.heap.size 27 #[.slice A T.ix.length c, .slice A' T.bl.length c'] := by rw [hW0]; exact ((Blk.new _ _ _).alloc _).alloc _
    have kR0 : Blk W0 (w.heap.size + 1) 27 #[.slice none 0 0, .slice none 0 0] := by
      rw [hW0]
      have := Blk.new (w.alloc (.cells #[.slice A T.ix.length c, .slice A' T.bl.length c'] 27)) 27 #[.slice none 0 0, .slice none 0 0]
      rw [World.size_alloc] at this
      exact this.alloc _
    have kU0 : Blk W0 (w.heap.size + 1 + 1) 27 #[.slice A T.ix.length c, .slice none 0 0] := by
      rw [hW0]
      have := Blk.new ((w.alloc (.cells #[.slice A T.ix.length c, .slice A' T.bl.length c'] 27)).alloc (.cells #[.slice none 0 0, .slice none 0 0] 27)) 27 #[.slice A T.ix.length c, .slice none 0 0]
      simp only [World.size_alloc] at this
      exact this
    rw [← hW0]
    clear hW0
    go_loopw [4] (fun i wr => ∃ (k : Nat) (vb : Value) (ss : List (Option Addr × Nat × Nat)), k ≤ T.bl.length ∧ k ≤ 30 ∧ i = .int .i64 k ∧ wr.ownsRow W0.heap.size 24 1 vb k (ss.map sv) ∧ RowsTo w B T ss k ∧ Blk wr (w.heap.size + 1 + 1) 27 #[.slice A T.ix.length c, vb] ∧ Kept W0.heap.size (w.heap.size + 1 + 1) (w.heap.size + 1 + 1) W0 wr) (fun i _ => 30 - (intOf i).toNat)
    case atStart => exact ⟨0, _, [], Nat.zero_le _, Nat.zero_le _, rfl, World.ownsRow_nil _ _ _ _, ⟨rfl, fun i h => by cases h⟩, kU0, ⟨rfl, rfl, rfl, Nat.le_refl _, fun _ _ _ _ => rfl⟩⟩
    case round =>
      obtain ⟨k, vb, ss, hk, hk3, rfl, hvb, hss, hkU, hK⟩ := hrel
      have hbr : Below w.heap.size w wr := hb0.trans (hK.below (by omega) (by omega) (by omega))
      have hsr := hK.size
      have kBr : Blk wr w.heap.size 27 _ := (hK.block _ (by omega) (by omega) (by omega)).trans kB0
      have b1 := kBr.cell 1
      have u0 := hkU.cell 0
      have u1 := hkU.cell 1
      have bl0 := kBr.lt
      have ul := hkU.lt
      simp only [List.getElem?_toArray, List.getElem?_cons_zero, List.getElem?_cons_succ] at b1 u0 u1
      have HSS := hide hss
      have HVB := hide hvb
      clear hss hvb
      have hfinal : (∃ A1 c1, vb = .slice A1 k c1 ∧ k ≤ c1 ∧ Rds wr wr.heap.size 1 A1 k (ss.map sv)) := by
        obtain ⟨A1, c1, e1, e2, e3⟩ := own_rds HVB.out (Nat.le_refl _) (by omega)
        exact ⟨A1, c1, e1, e2, e3⟩
      by_cases hlt : k < T.bl.length ∧ k < 30
      · obtain ⟨hlt, hlt3⟩ := hlt
        obtain ⟨b, o, A2, n2, c2, rfl, hbl2, c0w, hrow, hcap⟩ := hbl.row hlt
        have hbl2' : b < w.heap.size := Nat.lt_of_lt_of_le hbl2 hB
        have c0 := (hbr.cell (p := ⟨b, o + k, none⟩) hbl2').trans c0w
        have hx1 := hrow.2.1
        have hA2 : 0 < n2 → ∃ b2 o2, A2 = some ⟨b2, o2, none⟩ := fun h => by obtain ⟨b2, o2, e, _⟩ := hrow.2.2 h; exact ⟨b2, o2, e⟩
        have HR := hide (hrow.int_take 260)
        clear hrow c0w hfinal
        have kUd : Blk wr.drew (w.heap.size + 1 + 1) 27 #[.slice A T.ix.length c, vb] := hkU
        have kBd : Blk wr.drew w.heap.size 27 _ := kBr
        go_wp2_with fail
        have hS : wr.drew.cell? ⟨w.heap.size + 1 + 1, 1, none⟩ = some vb ∧ wr.drew.cell? ⟨w.heap.size, 1, none⟩ = some (.slice (some ⟨b, o, none⟩) T.bl.length c') ∧ wr.drew.cell? ⟨b, o + k, none⟩ = some (.slice A2 n2 c2) := ⟨u1, b1, c0⟩
        refine wp_region_heads (fun w' => w'.cell? ⟨w.heap.size + 1 + 1, 1, none⟩ = some vb ∧ w'.cell? ⟨w.heap.size, 1, none⟩ = some (.slice (some ⟨b, o, none⟩) T.bl.length c') ∧ w'.cell? ⟨b, o + k, none⟩ = some (.slice A2 n2 c2)) 15 2 (by kernel_rfl) (by kernel_rfl) (fun _ _ d _ _ h => by cases d <;> exact h) hS ?_
        simp only [List.take_succ_cons, List.take_zero, List.drop_succ_cons, List.drop_zero]
        refine heads_step (v := .pointer (some ⟨w.heap.size + 1 + 1, 1, none⟩)) rfl (fun W' hS' => by first | rfl | (obtain ⟨hS1, hS2, hS3⟩ := hS'; go_simp)) ?_
        go_frame
        refine heads_step (v := vb) rfl (fun W' hS' => by obtain ⟨hS1, hS2, hS3⟩ := hS'; go_simp) ?_
        go_frame
        refine heads_step (v := .pointer (some ⟨w.heap.size, 1, none⟩)) rfl (fun W' hS' => by first | rfl | (obtain ⟨hS1, hS2, hS3⟩ := hS'; go_simp)) ?_
        go_frame
        refine heads_step (v := .slice (some ⟨b, o, none⟩) T.bl.length c') rfl (fun W' hS' => by obtain ⟨hS1, hS2, hS3⟩ := hS'; go_simp) ?_
        go_frame
        refine heads_step (v := .int .i64 k) rfl (fun W' hS' => by first | rfl | (obtain ⟨hS1, hS2, hS3⟩ := hS'; go_simp)) ?_
        go_frame
        refine heads_step (v := .pointer (some ⟨b, o + k, none⟩)) rfl (fun W' hS' => by first | rfl | (obtain ⟨hS1, hS2, hS3⟩ := hS'; go_simp; try (intro hh; exact absurd hh (by omega)))) ?_
        go_frame
        refine heads_step (v := .slice A2 n2 c2) rfl (fun W' hS' => by obtain ⟨hS1, hS2, hS3⟩ := hS'; go_simp) ?_
        go_frame
        refine heads_step (v := .pointer (some ⟨w.heap.size, 1, none⟩)) rfl (fun W' hS' => by first | rfl | (obtain ⟨hS1, hS2, hS3⟩ := hS'; go_simp)) ?_
        go_frame
        refine heads_step (v := .slice (some ⟨b, o, none⟩) T.bl.length c') rfl (fun W' hS' => by obtain ⟨hS1, hS2, hS3⟩ := hS'; go_simp) ?_
        go_frame
        refine heads_step (v := .int .i64 k) rfl (fun W' hS' => by first | rfl | (obtain ⟨hS1, hS2, hS3⟩ := hS'; go_simp)) ?_
        go_frame
        refine heads_step (v := .pointer (some ⟨b, o + k, none⟩)) rfl (fun W' hS' => by first | rfl | (obtain ⟨hS1, hS2, hS3⟩ := hS'; go_simp; try (intro hh; exact absurd hh (by omega)))) ?_
        go_frame
        refine heads_step (v := .slice A2 n2 c2) rfl (fun W' hS' => by obtain ⟨hS1, hS2, hS3⟩ := hS'; go_simp) ?_
        go_frame
        refine heads_step (v := .int .i64 n2) rfl (fun W' hS' => by first | rfl | (obtain ⟨hS1, hS2, hS3⟩ := hS'; go_simp)) ?_
        go_frame
        by_cases h260 : n2 ≤ 260
        · refine heads_step (v := .int .i64 n2) rfl (fun W' hS' => by obtain ⟨hS1, hS2, hS3⟩ := hS'; go_simp; try (intro hh; omega)) ?_
          go_frame
          refine heads_step (v := .slice A2 n2 c2) rfl (fun W' hS' => by obtain ⟨hS1, hS2, hS3⟩ := hS'; go_simp; try omega) ?_
          go_frame
          refine heads_nil ?_
          refine mid_step rfl (fun K hK1 => ?_)
          go_simp
          have hbW : b < wr.drew.heap.size := (by show b < wr.heap.size; omega)
          refine hK1 _ _ ⟨⟨(World.cell?_alloc_lt _ _ _ ul).trans u1, (World.cell?_alloc_lt _ _ _ bl0).trans b1, (World.cell?_alloc_lt _ _ _ hbW).trans c0⟩, ?_⟩
          try go_frame
          have hgU := own_ne ((HVB.out.kept (show wr.grownBy wr.drew none from ⟨rfl, rfl, rfl, Nat.le_refl _, fun _ _ _ => rfl⟩) (by cases vb.ownBlock <;> simp)).alloc (.cells #[.slice A2 n2 c2] 24)) (kUd.alloc _) (by decide)
          have hgB := own_ne ((HVB.out.kept (show wr.grownBy wr.drew none from ⟨rfl, rfl, rfl, Nat.le_refl _, fun _ _ _ => rfl⟩) (by cases vb.ownBlock <;> simp)).alloc (.cells #[.slice A2 n2 c2] 24)) (kBd.alloc _) (by decide)
          have o5 := HVB.out.kept (show wr.grownBy wr.drew none from ⟨rfl, rfl, rfl, Nat.le_refl _, fun _ _ _ => rfl⟩) (by cases vb.ownBlock <;> simp)
          refine mid_step rfl (fun K3 hK3 => ?_)
          refine wp_append_lies _ (.tmp 25) (.tmp 39) 25 rfl W0.heap.size 24 i1 (.slice none 0 0) 1 24 Tryd.underlying25 hi' hz0' hz1' hz2' rfl (by decide) vb k (ss.map sv) rfl (o5.alloc _) ⟨wr.drew.heap.size, 0, none⟩ 1 1 [.slice A2 n2 c2] rfl rfl (cell_one_new _ _ _) (by simp [Value.oneCell']) (by omega) (by unfold maxLen; omega) (by omega) (by simp; exact Nat.le_succ_of_le hsr) _ rfl ?_
          intro g6 cap6 w6 hown6 hgrow6 hblk6 hlt6
          have k16 := (kUd.alloc _).grown hgrow6 hgU
          have k26 := (kBd.alloc _).grown hgrow6 hgB
          have t1 := k16.cell 1
          have t2 := k26.cell 1
          simp only [List.getElem?_toArray, List.getElem?_cons_zero, List.getElem?_cons_succ] at t1 t2
          have hb6 : Kept W0.heap.size (w.heap.size + 1 + 1) (w.heap.size + 1 + 1) W0 w6 := hK.trans ((Kept.of_below ((drewN_below _ _ 1).alloc hsr _)).trans (Kept.grown hgrow6 (by simp; exact Nat.le_succ_of_le hsr) (fun k e => .inl (o5.lt k e).1)))
          have t3 : w6.cell? ⟨b, o + k, none⟩ = some (.slice A2 n2 c2) := (World.cell?_of_block (a := ⟨b, o + k, none⟩) (hgrow6.block b (by simp; exact Nat.lt_succ_of_lt hbW) (fun e => by have := (o5.lt _ e.symm).1; omega))).trans ((World.cell?_alloc_lt _ _ _ hbW).trans c0)
          refine hK3 _ _ ⟨⟨t1, t2, t3⟩, ?_⟩
          try go_frame
          refine mid_nil ?_
          have tf := k16.frozen 1
          have tl := k16.lt
          have HB6 := hide hb6
          have HO6 := hide hown6
          clear hown6 hgrow6 hblk6 hb6 u0 u1 b1 c0 hS t2 t3
          go_wp2
          go_roundw
          case rel =>
            refine ⟨k + 1, _, ss ++ [(A2, n2, c2)], by omega, by omega, by go_num, ?_, ?_, k16.set_ 1 _, HB6.out.trans (Kept.grown (grownBy_setCell _ _ _ _) HB6.out.size (fun k e => by cases e; exact .inr (.inl rfl)))⟩
            · have := HO6.out.kept (grownBy_setCell w6 (w.heap.size + 1 + 1) 1 (.slice (some ⟨g6, 0, none⟩) (k + 1) cap6)) (.inr (fun e => by
                have hh := own_ne HO6.out k16 (by decide)
                exact hh e.symm))
              simpa [sv] using this
            · refine ⟨by simp [HSS.out.1], fun i hi hi2 => ?_⟩
              by_cases hik : i < ss.length
              · rw [List.getElem_append_left hik]; exact HSS.out.2 i hik hi2
              · have : i = k := by simp at hi; have := HSS.out.1; omega
                subst this
                rw [List.getElem_append_right (by omega)]
                simp only [HSS.out.1, Nat.sub_self, List.getElem_cons_zero]
                have := HR.out
                rwa [show min n2 260 = n2 by omega] at this
          case measure => simp [intOf]; omega
        · obtain ⟨b2, o2, rfl⟩ := hA2 (by omega)
          refine heads_step (v := .int .i64 260) rfl (fun W' hS' => by obtain ⟨hS1, hS2, hS3⟩ := hS'; go_simp; try (intro hh; omega)) ?_
          go_frame
          refine heads_step (v := .slice (some ⟨b2, o2, none⟩) 260 c2) rfl (fun W' hS' => by obtain ⟨hS1, hS2, hS3⟩ := hS'; go_simp; try omega) ?_
          go_frame
          refine heads_nil ?_
          refine mid_step rfl (fun K hK1 => ?_)
          go_simp
          have hbW : b < wr.drew.heap.size := (by show b < wr.heap.size; omega)
          refine hK1 _ _ ⟨⟨(World.cell?_alloc_lt _ _ _ ul).trans u1, (World.cell?_alloc_lt _ _ _ bl0).trans b1, (World.cell?_alloc_lt _ _ _ hbW).trans c0⟩, ?_⟩
          try go_frame
          have hgU := own_ne ((HVB.out.kept (show wr.grownBy wr.drew none from ⟨rfl, rfl, rfl, Nat.le_refl _, fun _ _ _ => rfl⟩) (by cases vb.ownBlock <;> simp)).alloc (.cells #[.slice (some ⟨b2, o2, none⟩) 260 c2] 24)) (kUd.alloc _) (by decide)
          have hgB := own_ne ((HVB.out.kept (show wr.grownBy wr.drew none from ⟨rfl, rfl, rfl, Nat.le_refl _, fun _ _ _ => rfl⟩) (by cases vb.ownBlock <;> simp)).alloc (.cells #[.slice (some ⟨b2, o2, none⟩) 260 c2] 24)) (kBd.alloc _) (by decide)
          have o5 := HVB.out.kept (show wr.grownBy wr.drew none from ⟨rfl, rfl, rfl, Nat.le_refl _, fun _ _ _ => rfl⟩) (by cases vb.ownBlock <;> simp)
          refine mid_step rfl (fun K3 hK3 => ?_)
          refine wp_append_lies _ (.tmp 25) (.tmp 39) 25 rfl W0.heap.size 24 i1 (.slice none 0 0) 1 24 Tryd.underlying25 hi' hz0' hz1' hz2' rfl (by decide) vb k (ss.map sv) rfl (o5.alloc _) ⟨wr.drew.heap.size, 0, none⟩ 1 1 [.slice (some ⟨b2, o2, none⟩) 260 c2] rfl rfl (cell_one_new _ _ _) (by simp [Value.oneCell']) (by omega) (by unfold maxLen; omega) (by omega) (by simp; exact Nat.le_succ_of_le hsr) _ rfl ?_
          intro g6 cap6 w6 hown6 hgrow6 hblk6 hlt6
          have k16 := (kUd.alloc _).grown hgrow6 hgU
          have k26 := (kBd.alloc _).grown hgrow6 hgB
          have t1 := k16.cell 1
          have t2 := k26.cell 1
          simp only [List.getElem?_toArray, List.getElem?_cons_zero, List.getElem?_cons_succ] at t1 t2
          have hb6 : Kept W0.heap.size (w.heap.size + 1 + 1) (w.heap.size + 1 + 1) W0 w6 := hK.trans ((Kept.of_below ((drewN_below _ _ 1).alloc hsr _)).trans (Kept.grown hgrow6 (by simp; exact Nat.le_succ_of_le hsr) (fun k e => .inl (o5.lt k e).1)))
          have t3 : w6.cell? ⟨b, o + k, none⟩ = some (.slice (some ⟨b2, o2, none⟩) n2 c2) := (World.cell?_of_block (a := ⟨b, o + k, none⟩) (hgrow6.block b (by simp; exact Nat.lt_succ_of_lt hbW) (fun e => by have := (o5.lt _ e.symm).1; omega))).trans ((World.cell?_alloc_lt _ _ _ hbW).trans c0)
          refine hK3 _ _ ⟨⟨t1, t2, t3⟩, ?_⟩
          try go_frame
          refine mid_nil ?_
          have tf := k16.frozen 1
          have tl := k16.lt
          have HB6 := hide hb6
          have HO6 := hide hown6
          clear hown6 hgrow6 hblk6 hb6 u0 u1 b1 c0 hS t2 t3
          go_wp2
          go_roundw
          case rel =>
            refine ⟨k + 1, _, ss ++ [((some ⟨b2, o2, none⟩), 260, c2)], by omega, by omega, by go_num, ?_, ?_, k16.set_ 1 _, HB6.out.trans (Kept.grown (grownBy_setCell _ _ _ _) HB6.out.size (fun k e => by cases e; exact .inr (.inl rfl)))⟩
            · have := HO6.out.kept (grownBy_setCell w6 (w.heap.size + 1 + 1) 1 (.slice (some ⟨g6, 0, none⟩) (k + 1) cap6)) (.inr (fun e => by
                have hh := own_ne HO6.out k16 (by decide)
                exact hh e.symm))
              simpa [sv] using this
            · refine ⟨by simp [HSS.out.1], fun i hi hi2 => ?_⟩
              by_cases hik : i < ss.length
              · rw [List.getElem_append_left hik]; exact HSS.out.2 i hik hi2
              · have : i = k := by simp at hi; have := HSS.out.1; omega
                subst this
                rw [List.getElem_append_right (by omega)]
                simp only [HSS.out.1, Nat.sub_self, List.getElem_cons_zero]
                have := HR.out
                rwa [show min n2 260 = 260 by omega] at this
          case measure => simp [intOf]; omega
      · obtain ⟨A1, c1, rfl, hkc, hrr⟩ := hfinal
        have kRr : Blk wr (w.heap.size + 1) 27 _ := (hK.block _ (by omega) (by omega) (by omega)).trans kR0
        have s0 := kRr.frozen 0
        have s1 := kRr.frozen 1
        have t0 := kRr.cell 0
        have t1 := kRr.cell 1
        have tl := kRr.lt
        simp only [List.getElem?_toArray, List.getElem?_cons_zero, List.getElem?_cons_succ] at t0 t1
        have hend : ∀ w3 : World, (∀ p : Addr, p.block < B → w3.cell? p = w.cell? p) → w3.ownsRow W0.heap.size 24 1 (.slice A1 k c1) k (ss.map sv) → w.heap.size ≤ w3.heap.size → TrAt w3 w3.heap.size A T.ix.length A1 k (tableB T) := fun w3 hk3' ho3 hs3 => by
          obtain ⟨A5, c5, e5, _, h5⟩ := own_rds ho3 (Nat.le_refl _) (by omega)
          injection e5 with e5 _ _
          subst e5
          refine ⟨?_, ss, h5, ?_, fun i hi hi2 => ?_⟩
          · have := ((hix.keep hk3').more (Nat.le_trans hB hs3)).int_take 4360
            rwa [show min T.ix.length 4360 = T.ix.length by omega] at this
          · rw [HSS.out.1]
            show k = ((T.bl.take 30).map _).length
            rw [List.length_map, List.length_take]
            omega
          · have hi3 : i < T.bl.length := by have := HSS.out.1; omega
            have e := tableB_bl T i hi2 hi3
            rw [e]
            exact ((HSS.out.2 i hi hi3).keep hk3').more (Nat.le_trans hB hs3)
        have HE := hide hend
        clear hend hrr
        have hfin : ∀ w2, w2 = (wr.setCell ⟨w.heap.size + 1, 0, none⟩ (.slice A T.ix.length c)).setCell ⟨w.heap.size + 1, 1, none⟩ (.slice A1 k c1) → OutT w B (tableB T) (.returned (.agg #[.slice A T.ix.length c, .slice A1 k c1])) w2 := fun w2 e => by
          subst e
          have hg1 := grownBy_setCell wr (w.heap.size + 1) 0 (.slice A T.ix.length c)
          have hb5 : Below w.heap.size w ((wr.setCell ⟨w.heap.size + 1, 0, none⟩ (.slice A T.ix.length c)).setCell ⟨w.heap.size + 1, 1, none⟩ (.slice A1 k c1)) := (hbr.setCell (p := ⟨w.heap.size + 1, 0, none⟩) (by show w.heap.size ≤ w.heap.size + 1; omega) _).setCell (p := ⟨w.heap.size + 1, 1, none⟩) (by show w.heap.size ≤ w.heap.size + 1; omega) _
          have hown := (HVB.out.kept hg1 (.inr (fun e => own_ne HVB.out kRr (by decide) e.symm))).kept (grownBy_setCell (wr.setCell ⟨w.heap.size + 1, 0, none⟩ (.slice A T.ix.length c)) (w.heap.size + 1) 1 (.slice A1 k c1)) (.inr (fun e => own_ne HVB.out kRr (by decide) e.symm))
          have hcl : ∀ p : Addr, p.block < B → ((wr.setCell ⟨w.heap.size + 1, 0, none⟩ (.slice A T.ix.length c)).setCell ⟨w.heap.size + 1, 1, none⟩ (.slice A1 k c1)).cell? p = w.cell? p := fun p hp => hb5.cell (Nat.lt_of_lt_of_le hp hB)
          refine ⟨A, T.ix.length, c, A1, k, c1, rfl, HE.out _ hcl hown hb5.size, by omega, hkc, hb5, fun g w2 hg1' hg2' hgr => HE.out w2 (fun p hp => ?_) (hown.kept hgr (.inr (fun e => ?_))) (Nat.le_trans hb5.size hgr.size)⟩
          · exact (World.cell?_of_block (hgr.block p.block (Nat.lt_of_lt_of_le hp (Nat.le_trans hB hb5.size)) (fun e => by injection e with e; omega))).trans (hcl p hp)
          · have := (HVB.out.lt _ e).1
            omega
        have HFIN := hide hfin
        clear hfin
        by_cases hkl : k < T.bl.length
        · obtain rfl : k = 30 := by omega
          go_wp2
          have k3 := kRr.set_ 0 (.slice A T.ix.length c)
          have k4 := k3.set_ 1 (.slice A1 30 c1)
          exact bodyPost_ret (results_cell_row rfl _ _ (w.heap.size + 1) 27 _ (0, 0) _ rfl k4 Tryd.underlying27 rfl (by kernel_rfl)) rfl (HFIN.out _ rfl)
        · obtain rfl : k = T.bl.length := by omega
          go_wp2
          have k3 := kRr.set_ 0 (.slice A T.ix.length c)
          have k4 := k3.set_ 1 (.slice A1 T.bl.length c1)
          exact bodyPost_ret (results_cell_row rfl _ _ (w.heap.size + 1) 27 _ (0, 0) _ rfl k4 Tryd.underlying27 rfl (by kernel_rfl)) rfl (HFIN.out _ rfl)
  · obtain ⟨ba, oa, rfl⟩ : ∃ ba oa, A = some ⟨ba, oa, none⟩ := by
      obtain ⟨b, o, e, _⟩ := hix.2.2 (by omega)
      exact ⟨b, o, e⟩
    go_wp2_with fail
    obtain ⟨W0, hW0⟩ : ∃ W0 : World, W0 = ((w.alloc (.cells #[.slice (some ⟨ba, oa, none⟩) T.ix.length c, .slice A' T.bl.length c'] 27)).alloc (.cells #[.slice none 0 0, .slice none 0 0] 27)).alloc (.cells #[.slice (some ⟨ba, oa, none⟩) 4360 c, .slice none 0 0] 27) := ⟨_, rfl⟩
    have hb0 : Below w.heap.size w W0 := by rw [hW0]; exact (((Below.refl _ _).alloc (Nat.le_refl _) _).alloc (by simp) _).alloc (by simp; omega) _
    have hs0 : w.heap.size + 3 ≤ W0.heap.size := by rw [hW0]; simp
    have kB0 : Blk W0 w.heap.size 27 #[.slice (some ⟨ba, oa, none⟩) T.ix.length c, .slice A' T.bl.length c'] := by rw [hW0]; exact ((Blk.new _ _ _).alloc _).alloc _
    have kR0 : Blk W0 (w.heap.size + 1) 27 #[.slice none 0 0, .slice none 0 0] := by
      rw [hW0]
      have := Blk.new (w.alloc (.cells #[.slice (some ⟨ba, oa, none⟩) T.ix.length c, .slice A' T.bl.length c'] 27)) 27 #[.slice none 0 0, .slice none 0 0]
      rw [World.size_alloc] at this
      exact this.alloc _
    have kU0 : Blk W0 (w.heap.size + 1 + 1) 27 #[.slice (some ⟨ba, oa, none⟩) 4360 c, .slice none 0 0] := by
      rw [hW0]
      have := Blk.new ((w.alloc (.cells #[.slice (some ⟨ba, oa, none⟩) T.ix.length c, .slice A' T.bl.length c'] 27)).alloc (.cells #[.slice none 0 0, .slice none 0 0] 27)) 27 #[.slice (some ⟨ba, oa, none⟩) 4360 c, .slice none 0 0]
      simp only [World.size_alloc] at this
      exact this
    rw [← hW0]
    clear hW0
    go_loopw [4] (fun i wr => ∃ (k : Nat) (vb : Value) (ss : List (Option Addr × Nat × Nat)), k ≤ T.bl.length ∧ k ≤ 30 ∧ i = .int .i64 k ∧ wr.ownsRow W0.heap.size 24 1 vb k (ss.map sv) ∧ RowsTo w B T ss k ∧ Blk wr (w.heap.size + 1 + 1) 27 #[.slice (some ⟨ba, oa, none⟩) 4360 c, vb] ∧ Kept W0.heap.size (w.heap.size + 1 + 1) (w.heap.size + 1 + 1) W0 wr) (fun i _ => 30 - (intOf i).toNat)
    case atStart => exact ⟨0, _, [], Nat.zero_le _, Nat.zero_le _, rfl, World.ownsRow_nil _ _ _ _, ⟨rfl, fun i h => by cases h⟩, kU0, ⟨rfl, rfl, rfl, Nat.le_refl _, fun _ _ _ _ => rfl⟩⟩
    case round =>
      obtain ⟨k, vb, ss, hk, hk3, rfl, hvb, hss, hkU, hK⟩ := hrel
      have hbr : Below w.heap.size w wr := hb0.trans (hK.below (by omega) (by omega) (by omega))
      have hsr := hK.size
      have kBr : Blk wr w.heap.size 27 _ := (hK.block _ (by omega) (by omega) (by omega)).trans kB0
      have b1 := kBr.cell 1
      have u0 := hkU.cell 0
      have u1 := hkU.cell 1
      have bl0 := kBr.lt
      have ul := hkU.lt
      simp only [List.getElem?_toArray, List.getElem?_cons_zero, List.getElem?_cons_succ] at b1 u0 u1
      have HSS := hide hss
      have HVB := hide hvb
      clear hss hvb
      have hfinal : (∃ A1 c1, vb = .slice A1 k c1 ∧ k ≤ c1 ∧ Rds wr wr.heap.size 1 A1 k (ss.map sv)) := by
        obtain ⟨A1, c1, e1, e2, e3⟩ := own_rds HVB.out (Nat.le_refl _) (by omega)
        exact ⟨A1, c1, e1, e2, e3⟩
      by_cases hlt : k < T.bl.length ∧ k < 30
      · obtain ⟨hlt, hlt3⟩ := hlt
        obtain ⟨b, o, A2, n2, c2, rfl, hbl2, c0w, hrow, hcap⟩ := hbl.row hlt
        have hbl2' : b < w.heap.size := Nat.lt_of_lt_of_le hbl2 hB
        have c0 := (hbr.cell (p := ⟨b, o + k, none⟩) hbl2').trans c0w
        have hx1 := hrow.2.1
        have hA2 : 0 < n2 → ∃ b2 o2, A2 = some ⟨b2, o2, none⟩ := fun h => by obtain ⟨b2, o2, e, _⟩ := hrow.2.2 h; exact ⟨b2, o2, e⟩
        have HR := hide (hrow.int_take 260)
        clear hrow c0w hfinal
        have kUd : Blk wr.drew (w.heap.size + 1 + 1) 27 #[.slice (some ⟨ba, oa, none⟩) 4360 c, vb] := hkU
        have kBd : Blk wr.drew w.heap.size 27 _ := kBr
        go_wp2_with fail
        have hS : wr.drew.cell? ⟨w.heap.size + 1 + 1, 1, none⟩ = some vb ∧ wr.drew.cell? ⟨w.heap.size, 1, none⟩ = some (.slice (some ⟨b, o, none⟩) T.bl.length c') ∧ wr.drew.cell? ⟨b, o + k, none⟩ = some (.slice A2 n2 c2) := ⟨u1, b1, c0⟩
        refine wp_region_heads (fun w' => w'.cell? ⟨w.heap.size + 1 + 1, 1, none⟩ = some vb ∧ w'.cell? ⟨w.heap.size, 1, none⟩ = some (.slice (some ⟨b, o, none⟩) T.bl.length c') ∧ w'.cell? ⟨b, o + k, none⟩ = some (.slice A2 n2 c2)) 15 2 (by kernel_rfl) (by kernel_rfl) (fun _ _ d _ _ h => by cases d <;> exact h) hS ?_
        simp only [List.take_succ_cons, List.take_zero, List.drop_succ_cons, List.drop_zero]
        refine heads_step (v := .pointer (some ⟨w.heap.size + 1 + 1, 1, none⟩)) rfl (fun W' hS' => by first | rfl | (obtain ⟨hS1, hS2, hS3⟩ := hS'; go_simp)) ?_
        go_frame
        refine heads_step (v := vb) rfl (fun W' hS' => by obtain ⟨hS1, hS2, hS3⟩ := hS'; go_simp) ?_
        go_frame
        refine heads_step (v := .pointer (some ⟨w.heap.size, 1, none⟩)) rfl (fun W' hS' => by first | rfl | (obtain ⟨hS1, hS2, hS3⟩ := hS'; go_simp)) ?_
        go_frame
        refine heads_step (v := .slice (some ⟨b, o, none⟩) T.bl.length c') rfl (fun W' hS' => by obtain ⟨hS1, hS2, hS3⟩ := hS'; go_simp) ?_
        go_frame
        refine heads_step (v := .int .i64 k) rfl (fun W' hS' => by first | rfl | (obtain ⟨hS1, hS2, hS3⟩ := hS'; go_simp)) ?_
        go_frame
        refine heads_step (v := .pointer (some ⟨b, o + k, none⟩)) rfl (fun W' hS' => by first | rfl | (obtain ⟨hS1, hS2, hS3⟩ := hS'; go_simp; try (intro hh; exact absurd hh (by omega)))) ?_
        go_frame
        refine heads_step (v := .slice A2 n2 c2) rfl (fun W' hS' => by obtain ⟨hS1, hS2, hS3⟩ := hS'; go_simp) ?_
        go_frame
        refine heads_step (v := .pointer (some ⟨w.heap.size, 1, none⟩)) rfl (fun W' hS' => by first | rfl | (obtain ⟨hS1, hS2, hS3⟩ := hS'; go_simp)) ?_
        go_frame
        refine heads_step (v := .slice (some ⟨b, o, none⟩) T.bl.length c') rfl (fun W' hS' => by obtain ⟨hS1, hS2, hS3⟩ := hS'; go_simp) ?_
        go_frame
        refine heads_step (v := .int .i64 k) rfl (fun W' hS' => by first | rfl | (obtain ⟨hS1, hS2, hS3⟩ := hS'; go_simp)) ?_
        go_frame
        refine heads_step (v := .pointer (some ⟨b, o + k, none⟩)) rfl (fun W' hS' => by first | rfl | (obtain ⟨hS1, hS2, hS3⟩ := hS'; go_simp; try (intro hh; exact absurd hh (by omega)))) ?_
        go_frame
        refine heads_step (v := .slice A2 n2 c2) rfl (fun W' hS' => by obtain ⟨hS1, hS2, hS3⟩ := hS'; go_simp) ?_
        go_frame
        refine heads_step (v := .int .i64 n2) rfl (fun W' hS' => by first | rfl | (obtain ⟨hS1, hS2, hS3⟩ := hS'; go_simp)) ?_
        go_frame
        by_cases h260 : n2 ≤ 260
        · refine heads_step (v := .int .i64 n2) rfl (fun W' hS' => by obtain ⟨hS1, hS2, hS3⟩ := hS'; go_simp; try (intro hh; omega)) ?_
          go_frame
          refine heads_step (v := .slice A2 n2 c2) rfl (fun W' hS' => by obtain ⟨hS1, hS2, hS3⟩ := hS'; go_simp; try omega) ?_
          go_frame
          refine heads_nil ?_
          refine mid_step rfl (fun K hK1 => ?_)
          go_simp
          have hbW : b < wr.drew.heap.size := (by show b < wr.heap.size; omega)
          refine hK1 _ _ ⟨⟨(World.cell?_alloc_lt _ _ _ ul).trans u1, (World.cell?_alloc_lt _ _ _ bl0).trans b1, (World.cell?_alloc_lt _ _ _ hbW).trans c0⟩, ?_⟩
          try go_frame
          have hgU := own_ne ((HVB.out.kept (show wr.grownBy wr.drew none from ⟨rfl, rfl, rfl, Nat.le_refl _, fun _ _ _ => rfl⟩) (by cases vb.ownBlock <;> simp)).alloc (.cells #[.slice A2 n2 c2] 24)) (kUd.alloc _) (by decide)
          have hgB := own_ne ((HVB.out.kept (show wr.grownBy wr.drew none from ⟨rfl, rfl, rfl, Nat.le_refl _, fun _ _ _ => rfl⟩) (by cases vb.ownBlock <;> simp)).alloc (.cells #[.slice A2 n2 c2] 24)) (kBd.alloc _) (by decide)
          have o5 := HVB.out.kept (show wr.grownBy wr.drew none from ⟨rfl, rfl, rfl, Nat.le_refl _, fun _ _ _ => rfl⟩) (by cases vb.ownBlock <;> simp)
          refine mid_step rfl (fun K3 hK3 => ?_)
          refine wp_append_lies _ (.tmp 25) (.tmp 39) 25 rfl W0.heap.size 24 i1 (.slice none 0 0) 1 24 Tryd.underlying25 hi' hz0' hz1' hz2' rfl (by decide) vb k (ss.map sv) rfl (o5.alloc _) ⟨wr.drew.heap.size, 0, none⟩ 1 1 [.slice A2 n2 c2] rfl rfl (cell_one_new _ _ _) (by simp [Value.oneCell']) (by omega) (by unfold maxLen; omega) (by omega) (by simp; exact Nat.le_succ_of_le hsr) _ rfl ?_
          intro g6 cap6 w6 hown6 hgrow6 hblk6 hlt6
          have k16 := (kUd.alloc _).grown hgrow6 hgU
          have k26 := (kBd.alloc _).grown hgrow6 hgB
          have t1 := k16.cell 1
          have t2 := k26.cell 1
          simp only [List.getElem?_toArray, List.getElem?_cons_zero, List.getElem?_cons_succ] at t1 t2
          have hb6 : Kept W0.heap.size (w.heap.size + 1 + 1) (w.heap.size + 1 + 1) W0 w6 := hK.trans ((Kept.of_below ((drewN_below _ _ 1).alloc hsr _)).trans (Kept.grown hgrow6 (by simp; exact Nat.le_succ_of_le hsr) (fun k e => .inl (o5.lt k e).1)))
          have t3 : w6.cell? ⟨b, o + k, none⟩ = some (.slice A2 n2 c2) := (World.cell?_of_block (a := ⟨b, o + k, none⟩) (hgrow6.block b (by simp; exact Nat.lt_succ_of_lt hbW) (fun e => by have := (o5.lt _ e.symm).1; omega))).trans ((World.cell?_alloc_lt _ _ _ hbW).trans c0)
          refine hK3 _ _ ⟨⟨t1, t2, t3⟩, ?_⟩
          try go_frame
          refine mid_nil ?_
          have tf := k16.frozen 1
          have tl := k16.lt
          have HB6 := hide hb6
          have HO6 := hide hown6
          clear hown6 hgrow6 hblk6 hb6 u0 u1 b1 c0 hS t2 t3
          go_wp2
          go_roundw
          case rel =>
            refine ⟨k + 1, _, ss ++ [(A2, n2, c2)], by omega, by omega, by go_num, ?_, ?_, k16.set_ 1 _, HB6.out.trans (Kept.grown (grownBy_setCell _ _ _ _) HB6.out.size (fun k e => by cases e; exact .inr (.inl rfl)))⟩
            · have := HO6.out.kept (grownBy_setCell w6 (w.heap.size + 1 + 1) 1 (.slice (some ⟨g6, 0, none⟩) (k + 1) cap6)) (.inr (fun e => by
                have hh := own_ne HO6.out k16 (by decide)
                exact hh e.symm))
              simpa [sv] using this
            · refine ⟨by simp [HSS.out.1], fun i hi hi2 => ?_⟩
              by_cases hik : i < ss.length
              · rw [List.getElem_append_left hik]; exact HSS.out.2 i hik hi2
              · have : i = k := by simp at hi; have := HSS.out.1; omega
                subst this
                rw [List.getElem_append_right (by omega)]
                simp only [HSS.out.1, Nat.sub_self, List.getElem_cons_zero]
                have := HR.out
                rwa [show min n2 260 = n2 by omega] at this
          case measure => simp [intOf]; omega
        · obtain ⟨b2, o2, rfl⟩ := hA2 (by omega)
          refine heads_step (v := .int .i64 260) rfl (fun W' hS' => by obtain ⟨hS1, hS2, hS3⟩ := hS'; go_simp; try (intro hh; omega)) ?_
          go_frame
          refine heads_step (v := .slice (some ⟨b2, o2, none⟩) 260 c2) rfl (fun W' hS' => by obtain ⟨hS1, hS2, hS3⟩ := hS'; go_simp; try omega) ?_
          go_frame
          refine heads_nil ?_
          refine mid_step rfl (fun K hK1 => ?_)
          go_simp
          have hbW : b < wr.drew.heap.size := (by show b < wr.heap.size; omega)
          refine hK1 _ _ ⟨⟨(World.cell?_alloc_lt _ _ _ ul).trans u1, (World.cell?_alloc_lt _ _ _ bl0).trans b1, (World.cell?_alloc_lt _ _ _ hbW).trans c0⟩, ?_⟩
          try go_frame
          have hgU := own_ne ((HVB.out.kept (show wr.grownBy wr.drew none from ⟨rfl, rfl, rfl, Nat.le_refl _, fun _ _ _ => rfl⟩) (by cases vb.ownBlock <;> simp)).alloc (.cells #[.slice (some ⟨b2, o2, none⟩) 260 c2] 24)) (kUd.alloc _) (by decide)
          have hgB := own_ne ((HVB.out.kept (show wr.grownBy wr.drew none from ⟨rfl, rfl, rfl, Nat.le_refl _, fun _ _ _ => rfl⟩) (by cases vb.ownBlock <;> simp)).alloc (.cells #[.slice (some ⟨b2, o2, none⟩) 260 c2] 24)) (kBd.alloc _) (by decide)
          have o5 := HVB.out.kept (show wr.grownBy wr.drew none from ⟨rfl, rfl, rfl, Nat.le_refl _, fun _ _ _ => rfl⟩) (by cases vb.ownBlock <;> simp)
          refine mid_step rfl (fun K3 hK3 => ?_)
          refine wp_append_lies _ (.tmp 25) (.tmp 39) 25 rfl W0.heap.size 24 i1 (.slice none 0 0) 1 24 Tryd.underlying25 hi' hz0' hz1' hz2' rfl (by decide) vb k (ss.map sv) rfl (o5.alloc _) ⟨wr.drew.heap.size, 0, none⟩ 1 1 [.slice (some ⟨b2, o2, none⟩) 260 c2] rfl rfl (cell_one_new _ _ _) (by simp [Value.oneCell']) (by omega) (by unfold maxLen; omega) (by omega) (by simp; exact Nat.le_succ_of_le hsr) _ rfl ?_
          intro g6 cap6 w6 hown6 hgrow6 hblk6 hlt6
          have k16 := (kUd.alloc _).grown hgrow6 hgU
          have k26 := (kBd.alloc _).grown hgrow6 hgB
          have t1 := k16.cell 1
          have t2 := k26.cell 1
          simp only [List.getElem?_toArray, List.getElem?_cons_zero, List.getElem?_cons_succ] at t1 t2
          have hb6 : Kept W0.heap.size (w.heap.size + 1 + 1) (w.heap.size + 1 + 1) W0 w6 := hK.trans ((Kept.of_below ((drewN_below _ _ 1).alloc hsr _)).trans (Kept.grown hgrow6 (by simp; exact Nat.le_succ_of_le hsr) (fun k e => .inl (o5.lt k e).1)))
          have t3 : w6.cell? ⟨b, o + k, none⟩ = some (.slice (some ⟨b2, o2, none⟩) n2 c2) := (World.cell?_of_block (a := ⟨b, o + k, none⟩) (hgrow6.block b (by simp; exact Nat.lt_succ_of_lt hbW) (fun e => by have := (o5.lt _ e.symm).1; omega))).trans ((World.cell?_alloc_lt _ _ _ hbW).trans c0)
          refine hK3 _ _ ⟨⟨t1, t2, t3⟩, ?_⟩
          try go_frame
          refine mid_nil ?_
          have tf := k16.frozen 1
          have tl := k16.lt
          have HB6 := hide hb6
          have HO6 := hide hown6
          clear hown6 hgrow6 hblk6 hb6 u0 u1 b1 c0 hS t2 t3
          go_wp2
          go_roundw
          case rel =>
            refine ⟨k + 1, _, ss ++ [((some ⟨b2, o2, none⟩), 260, c2)], by omega, by omega, by go_num, ?_, ?_, k16.set_ 1 _, HB6.out.trans (Kept.grown (grownBy_setCell _ _ _ _) HB6.out.size (fun k e => by cases e; exact .inr (.inl rfl)))⟩
            · have := HO6.out.kept (grownBy_setCell w6 (w.heap.size + 1 + 1) 1 (.slice (some ⟨g6, 0, none⟩) (k + 1) cap6)) (.inr (fun e => by
                have hh := own_ne HO6.out k16 (by decide)
                exact hh e.symm))
              simpa [sv] using this
            · refine ⟨by simp [HSS.out.1], fun i hi hi2 => ?_⟩
              by_cases hik : i < ss.length
              · rw [List.getElem_append_left hik]; exact HSS.out.2 i hik hi2
              · have : i = k := by simp at hi; have := HSS.out.1; omega
                subst this
                rw [List.getElem_append_right (by omega)]
                simp only [HSS.out.1, Nat.sub_self, List.getElem_cons_zero]
                have := HR.out
                rwa [show min n2 260 = 260 by omega] at this
          case measure => simp [intOf]; omega
      · obtain ⟨A1, c1, rfl, hkc, hrr⟩ := hfinal
        have kRr : Blk wr (w.heap.size + 1) 27 _ := (hK.block _ (by omega) (by omega) (by omega)).trans kR0
        have s0 := kRr.frozen 0
        have s1 := kRr.frozen 1
        have t0 := kRr.cell 0
        have t1 := kRr.cell 1
        have tl := kRr.lt
        simp only [List.getElem?_toArray, List.getElem?_cons_zero, List.getElem?_cons_succ] at t0 t1
        have hend : ∀ w3 : World, (∀ p : Addr, p.block < B → w3.cell? p = w.cell? p) → w3.ownsRow W0.heap.size 24 1 (.slice A1 k c1) k (ss.map sv) → w.heap.size ≤ w3.heap.size → TrAt w3 w3.heap.size (some ⟨ba, oa, none⟩) 4360 A1 k (tableB T) := fun w3 hk3' ho3 hs3 => by
          obtain ⟨A5, c5, e5, _, h5⟩ := own_rds ho3 (Nat.le_refl _) (by omega)
          injection e5 with e5 _ _
          subst e5
          refine ⟨?_, ss, h5, ?_, fun i hi hi2 => ?_⟩
          · have := ((hix.keep hk3').more (Nat.le_trans hB hs3)).int_take 4360
            rwa [show min T.ix.length 4360 = 4360 by omega] at this
          · rw [HSS.out.1]
            show k = ((T.bl.take 30).map _).length
            rw [List.length_map, List.length_take]
            omega
          · have hi3 : i < T.bl.length := by have := HSS.out.1; omega
            have e := tableB_bl T i hi2 hi3
            rw [e]
            exact ((HSS.out.2 i hi hi3).keep hk3').more (Nat.le_trans hB hs3)
        have HE := hide hend
        clear hend hrr
        have hfin : ∀ w2, w2 = (wr.setCell ⟨w.heap.size + 1, 0, none⟩ (.slice (some ⟨ba, oa, none⟩) 4360 c)).setCell ⟨w.heap.size + 1, 1, none⟩ (.slice A1 k c1) → OutT w B (tableB T) (.returned (.agg #[.slice (some ⟨ba, oa, none⟩) 4360 c, .slice A1 k c1])) w2 := fun w2 e => by
          subst e
          have hg1 := grownBy_setCell wr (w.heap.size + 1) 0 (.slice (some ⟨ba, oa, none⟩) 4360 c)
          have hb5 : Below w.heap.size w ((wr.setCell ⟨w.heap.size + 1, 0, none⟩ (.slice (some ⟨ba, oa, none⟩) 4360 c)).setCell ⟨w.heap.size + 1, 1, none⟩ (.slice A1 k c1)) := (hbr.setCell (p := ⟨w.heap.size + 1, 0, none⟩) (by show w.heap.size ≤ w.heap.size + 1; omega) _).setCell (p := ⟨w.heap.size + 1, 1, none⟩) (by show w.heap.size ≤ w.heap.size + 1; omega) _
          have hown := (HVB.out.kept hg1 (.inr (fun e => own_ne HVB.out kRr (by decide) e.symm))).kept (grownBy_setCell (wr.setCell ⟨w.heap.size + 1, 0, none⟩ (.slice (some ⟨ba, oa, none⟩) 4360 c)) (w.heap.size + 1) 1 (.slice A1 k c1)) (.inr (fun e => own_ne HVB.out kRr (by decide) e.symm))
          have hcl : ∀ p : Addr, p.block < B → ((wr.setCell ⟨w.heap.size + 1, 0, none⟩ (.slice (some ⟨ba, oa, none⟩) 4360 c)).setCell ⟨w.heap.size + 1, 1, none⟩ (.slice A1 k c1)).cell? p = w.cell? p := fun p hp => hb5.cell (Nat.lt_of_lt_of_le hp hB)
          refine ⟨(some ⟨ba, oa, none⟩), 4360, c, A1, k, c1, rfl, HE.out _ hcl hown hb5.size, by omega, hkc, hb5, fun g w2 hg1' hg2' hgr => HE.out w2 (fun p hp => ?_) (hown.kept hgr (.inr (fun e => ?_))) (Nat.le_trans hb5.size hgr.size)⟩
          · exact (World.cell?_of_block (hgr.block p.block (Nat.lt_of_lt_of_le hp (Nat.le_trans hB hb5.size)) (fun e => by injection e with e; omega))).trans (hcl p hp)
          · have := (HVB.out.lt _ e).1
            omega
        have HFIN := hide hfin
        clear hfin
        by_cases hkl : k < T.bl.length
        · obtain rfl : k = 30 := by omega
          go_wp2
          have k3 := kRr.set_ 0 (.slice (some ⟨ba, oa, none⟩) 4360 c)
          have k4 := k3.set_ 1 (.slice A1 30 c1)
          exact bodyPost_ret (results_cell_row rfl _ _ (w.heap.size + 1) 27 _ (0, 0) _ rfl k4 Tryd.underlying27 rfl (by kernel_rfl)) rfl (HFIN.out _ rfl)
        · obtain rfl : k = T.bl.length := by omega
          go_wp2
          have k3 := kRr.set_ 0 (.slice (some ⟨ba, oa, none⟩) 4360 c)
          have k4 := k3.set_ 1 (.slice A1 T.bl.length c1)
          exact bodyPost_ret (results_cell_row rfl _ _ (w.heap.size + 1) 27 _ (0, 0) _ rfl k4 Tryd.underlying27 rfl (by kernel_rfl)) rfl (HFIN.out _ rfl)
end Go.Proofs.YtibndkkbmgbogaaDoor
