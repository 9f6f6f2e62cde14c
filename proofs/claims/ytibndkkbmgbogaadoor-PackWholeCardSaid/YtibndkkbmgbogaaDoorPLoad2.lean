/- The program's (*reader).load. Conditions: the reader's block holds a text and a truth. -/
import Derived.Test.YtibndkkbmgbogaaDoorProg
import Derived.Test.YtibndkkbmgbogaaDoorBase
import Derived.Test.YtibndkkbmgbogaaDoorPut
import Derived.Test.YtibndkkbmgbogaaDoorRight
import Derived.Test.YtibndkkbmgbogaaDoorRegion
import Derived.Test.YtibndkkbmgbogaaDoorPFill
import Derived.Test.YtibndkkbmgbogaaDoorPFillT
import Derived.Sort.CutIn
import Derived.WalkMore
import Derived.Outline
import Derived.ScopeJumps
import Derived.Laws.ResultCell
namespace Go.Proofs.YtibndkkbmgbogaaDoor
open Go Go.RowKit

/-- so many blocks; none: the text was too short -/
def rBlocks : Nat → List (List Int) → RS → Option (List (List Int)) × RS
  | 0, bl, s => (some bl, s)
  | k + 1, bl, s => if s.2 then (none, s) else rBlocks k (bl ++ [(rFill rOne 256 257 [] (0, 0) s).1]) (rFill rOne 256 257 [] (0, 0) s).2
/-- the trie of bytes behind the mark -/
def rLoad (s : RS) : Option Tr :=
  if 300 < (rTwo s).1 then none else
  match rBlocks (rTwo s).1 [] (rTwo s).2 with
  | (none, _) => none
  | (some bl, s1) =>
    let r := rFill rTwo 4352 4353 [] (0, 0) s1
    if r.2.2 = false ∧ r.2.1 = [] ∧ (⟨r.1, bl⟩ : Tr).rightB = true then some ⟨r.1, bl⟩ else none

theorem rFill_rest (take : RS → Nat × RS) (ht : ∀ s, (take s).2.1.length ≤ s.1.length) (n : Nat) : ∀ (f : Nat) (out : List Int) (last : Nat × Int) (s : RS), (rFill take n f out last s).2.1.length ≤ s.1.length
  | 0, out, last, s => Nat.le_refl _
  | f + 1, out, last, s => by
    have h1 := ht s
    have h2 := ht (take s).2
    unfold rFill
    split
    · split
      · exact Nat.le_trans h2 h1
      · exact Nat.le_trans (rFill_rest take ht n f _ _ _) (Nat.le_trans h2 h1)
    · exact Nat.le_refl _

theorem Kept.grownBy {g : Nat} {w w' : World} (h : Kept w.heap.size g g w w') : w.grownBy w' (some g) := ⟨h.os, h.tape, h.output, h.size, fun k hk hr => h.block k hk (fun e => hr (by rw [e])) (fun e => hr (by rw [e]))⟩

/-- A slice of rows is one's own, and so are the rows. -/
def Lo (w : World) (n0 : Nat) (vb : Value) (bl : List (List Int)) : Prop :=
  ∃ ss : List (Option Addr × Nat × Nat), w.ownsRow n0 24 1 vb bl.length (ss.map sv) ∧ ss.length = bl.length ∧ ∀ i (h : i < ss.length) (h' : i < bl.length), w.ownsRow n0 3 1 (sv ss[i]) bl[i].length (intCells bl[i])
theorem turn_own {w w' : World} {row : Option Nat} {n0 e s n : Nat} {v : Value} {xs : List Value} (ho : w.ownsRow n0 e s v n xs) (hg : w.grownBy w' row) (hr : ∀ g, row = some g → ∃ t cs, Blk w g t cs ∧ t ≠ e) : w'.ownsRow n0 e s v n xs :=
  ho.kept hg (by
    cases row with
    | none => cases v.ownBlock <;> simp
    | some g =>
      right
      obtain ⟨t, cs, hb, h1⟩ := hr g rfl
      exact fun e' => own_ne ho hb (Ne.symm h1) e'.symm)
theorem Lo.turn {w w' : World} {row : Option Nat} {n0 : Nat} {vb : Value} {bl : List (List Int)} (h : Lo w n0 vb bl) (hg : w.grownBy w' row) (hr : ∀ g, row = some g → ∃ t cs, Blk w g t cs ∧ t ≠ 3 ∧ t ≠ 24) : Lo w' n0 vb bl := by
  obtain ⟨ss, b1, b2, b3⟩ := h
  exact ⟨ss, turn_own b1 hg (fun g e => by obtain ⟨t, cs, q1, q2, q3⟩ := hr g e; exact ⟨t, cs, q1, q3⟩), b2, fun i hi hi' => turn_own (b3 i hi hi') hg (fun g e => by obtain ⟨t, cs, q1, q2, q3⟩ := hr g e; exact ⟨t, cs, q1, q2⟩)⟩
theorem Lo.nil (w : World) (n0 : Nat) : Lo w n0 (.slice none 0 0) [] := ⟨[], World.ownsRow_nil _ _ _ _, rfl, fun i h => by cases h⟩
theorem Lo.push {w w1 : World} {n0 : Nat} {vb v' : Value} {bl : List (List Int)} {x : List Int} {s : Option Addr × Nat × Nat} {ss : List (Option Addr × Nat × Nat)}
    (h1 : w.ownsRow n0 24 1 vb bl.length (ss.map sv)) (h2 : ss.length = bl.length) (h3 : ∀ i (h : i < ss.length) (h' : i < bl.length), w.ownsRow n0 3 1 (sv ss[i]) bl[i].length (intCells bl[i]))
    (hown : w1.ownsRow n0 24 1 v' (bl.length + 1) (ss.map sv ++ [sv s])) (hg : w.grownBy w1 vb.ownBlock) (hrow : w.ownsRow n0 3 1 (sv s) x.length (intCells x)) : Lo w1 n0 v' (bl ++ [x]) := by
  refine ⟨ss ++ [s], by simpa using hown, by simp [h2], fun j hj hj' => ?_⟩
  by_cases hjl : j < ss.length
  · have hjl' : j < bl.length := by omega
    simp only [List.getElem_append_left hjl, List.getElem_append_left hjl']
    exact (h3 j hjl hjl').kept hg (own_types (h3 j hjl hjl') h1 (by decide))
  · have hje : j = bl.length := by simp at hj'; omega
    subst hje
    have e1 : (ss ++ [s])[bl.length] = s := by rw [List.getElem_append_right (by omega)]; simp [h2]
    have e2 : (bl ++ [x])[bl.length] = x := by simp
    simp only [e1, e2]
    exact hrow.kept hg (own_types hrow h1 (by decide))
theorem Lo.rows {w : World} {n0 : Nat} {vb : Value} {bl : List (List Int)} (h : Lo w n0 vb bl) (h2 : bl.length ≤ 5000) (h3 : ∀ b ∈ bl, b.length ≤ 5000) :
    ∃ A n c, vb = .slice A n c ∧ n ≤ c ∧ n = bl.length ∧ Rows w w.heap.size A n bl := by
  obtain ⟨ss, o, hl, hs⟩ := h
  obtain ⟨A, c, f1, f2, f3⟩ := own_rds o (Nat.le_refl _) (by omega)
  refine ⟨A, _, c, f1, f2, rfl, ss, f3, hl, fun i hi hi' => ?_⟩
  obtain ⟨Ar, cr, q1, q2, q3⟩ := own_rds (hs i hi hi') (Nat.le_refl _) (by have := h3 _ (List.getElem_mem hi'); omega)
  unfold sv at q1
  injection q1 with q1 q4 _
  rw [q1, q4]
  exact q3
end Go.Proofs.YtibndkkbmgbogaaDoor

/- The walk of the program's (*reader).load. Conditions: the reader's block holds a text and a truth. -/
namespace Go.Proofs.YtibndkkbmgbogaaDoor
open Go Go.RowKit

theorem own_more {w : World} {base base' e size n : Nat} {v : Value} {xs : List Value} (h : w.ownsRow base e size v n xs) (hb : base' ≤ base) : w.ownsRow base' e size v n xs :=
  ⟨h.1, h.2.imp id (fun ⟨g, cap, cur, h1, h2, h3⟩ => ⟨g, cap, cur, h1, Nat.le_trans hb h2, h3⟩)⟩

/-- a trie's two slices, and its rows, are one's own -/
structure LoT (w : World) (n0 : Nat) (A : Option Addr) (n c : Nat) (A' : Option Addr) (n' c' : Nat) (T : Tr) : Prop where
  ix : w.ownsRow n0 3 1 (.slice A n c) T.ix.length (intCells T.ix)
  bl : Lo w n0 (.slice A' n' c') T.bl
  l1 : T.ix.length ≤ 5000
  l2 : T.bl.length ≤ 5000
  l3 : ∀ b ∈ T.bl, b.length ≤ 5000
theorem LoT.tr {w : World} {n0 : Nat} {A : Option Addr} {n c : Nat} {A' : Option Addr} {n' c' : Nat} {T : Tr} (h : LoT w n0 A n c A' n' c' T) : TrAt w w.heap.size A n A' n' T := by
  obtain ⟨A5, c5, e5, e6, e7⟩ := own_rds h.ix (Nat.le_refl _) (by have := h.l1; omega)
  injection e5 with e5 e55 e13
  subst e5 e55
  obtain ⟨A6, n6, c6, e8, e9, e10, e11⟩ := h.bl.rows h.l2 h.l3
  injection e8 with e8 e12 e14
  subst e8 e12
  exact ⟨e7, e11⟩
theorem LoT.turn {w w' : World} {row : Option Nat} {n0 : Nat} {A : Option Addr} {n c : Nat} {A' : Option Addr} {n' c' : Nat} {T : Tr} (h : LoT w n0 A n c A' n' c' T) (hg : w.grownBy w' row) (hr : ∀ g, row = some g → ∃ t cs, Blk w g t cs ∧ t ≠ 3 ∧ t ≠ 24) : LoT w' n0 A n c A' n' c' T :=
  ⟨turn_own h.ix hg (fun g e => by obtain ⟨t, cs, q1, q2, _⟩ := hr g e; exact ⟨t, cs, q1, q2⟩), h.bl.turn hg hr, h.l1, h.l2, h.l3⟩

/-- a trie is handed back, or none -/
def Loaded (w : World) (g : Nat) (r : Option Tr) (e : Ending) (w' : World) : Prop :=
  ∃ A n c A' n' c', e = .returned (.tuple #[.agg #[.slice A n c, .slice A' n' c'], .bool r.isSome]) ∧ n ≤ c ∧ n' ≤ c' ∧ LoT w' w.heap.size A n c A' n' c' (r.getD ⟨[], []⟩) ∧ Kept w.heap.size g g w w'

set_option maxRecDepth 100000 in
set_option maxHeartbeats 2000000 in
theorem load_any (g : Nat) (s : RS) (w : World) (h : Rd w g s) (hl : s.1.length ≤ 1000000) : Calls Tryd.prog 61 #[.pointer (some ⟨g, 0, none⟩)] w (Loaded w g (rLoad s)) := by
  obtain ⟨i0, hi, hz0, hz1, hzb⟩ := info_parts info24
  have hgl : g < w.heap.size := Blk.lt h
  go_enter Tryd.func61, Tryd.ntmps61
  go_wp2_with fail
  obtain ⟨W0, hW0⟩ : ∃ W0 : World, W0 = w.alloc (.cells #[.slice none 0 0, .slice none 0 0] 27) := ⟨_, rfl⟩
  obtain ⟨b2, hb2⟩ : ∃ b2 : Nat, b2 = w.heap.size := ⟨_, rfl⟩
  have k2 : Blk W0 b2 27 #[.slice none 0 0, .slice none 0 0] := by rw [hW0, hb2]; exact Blk.new _ _ _
  have r0 : Rd W0 g s := by rw [hW0]; exact Blk.alloc h _
  have q0 : Kept w.heap.size g g w W0 := by rw [hW0]; exact Kept.of_below ((Below.refl _ _).alloc (Nat.le_refl _) _)
  have hgb : g < b2 := by rw [hb2]; exact hgl
  have hsz0 : w.heap.size ≤ b2 := by rw [hb2]; exact Nat.le_refl _
  rw [← hW0, ← hb2]
  clear hW0 hb2 h
  refine wp_scope_jumps 0 (fun a W' => ∃ u4 u5 u6 u7 u8 u9 u10 u11 u12 u13 u14 u15 u16 u17 u18 u19 u20 u21 u22 u23 u24 u25 u26 u27 u28 u29 u30 u31 u32 u33 u34 u35 u36 u37 u38 u39 u40 u41 u42 u43 u44 u45 u46 u47 u48 u49, a = { tmps := #[.pointer (some ⟨g, 0, none⟩), undef, .pointer (some ⟨b2, 0, none⟩), .bool false, u4, u5, u6, u7, u8, u9, u10, u11, u12, u13, u14, u15, u16, u17, u18, u19, u20, u21, u22, u23, u24, u25, u26, u27, u28, u29, u30, u31, u32, u33, u34, u35, u36, u37, u38, u39, u40, u41, u42, u43, u44, u45, u46, u47, u48, u49], defers := [] } ∧ Blk W' b2 27 #[.slice none 0 0, .slice none 0 0] ∧ Kept w.heap.size g g w W' ∧ rLoad s = none) (fun _ _ => 0) (by rfl) ?first ?pass
  case pass =>
    rintro a W ⟨u4, u5, u6, u7, u8, u9, u10, u11, u12, u13, u14, u15, u16, u17, u18, u19, u20, u21, u22, u23, u24, u25, u26, u27, u28, u29, u30, u31, u32, u33, u34, u35, u36, u37, u38, u39, u40, u41, u42, u43, u44, u45, u46, u47, u48, u49, rfl, kb, hq, hn⟩
    clear k2 r0 q0
    have d0 := kb.cell 0
    have d1 := kb.cell 1
    have f0 := kb.frozen 0
    have f1 := kb.frozen 1
    have lb := kb.lt
    simp only [List.getElem?_toArray, List.getElem?_cons_zero, List.getElem?_cons_succ] at d0 d1
    go_wp2
    have kE := (kb.set_ 0 (.slice none 0 0)).set_ 1 (.slice none 0 0)
    refine bodyPost_ret (results_cell_row_tmp rfl _ _ b2 27 _ _ _ rfl kE Tryd.underlying27 rfl (by kernel_rfl)) rfl ?_
    have hq2 := hq.trans ((Kept.grown (grownBy_setCell W b2 0 (.slice none 0 0)) hq.size (fun k e => by cases e; exact .inl hsz0)).trans (Kept.grown (grownBy_setCell (W.setCell ⟨b2, 0, none⟩ (.slice none 0 0)) b2 1 (.slice none 0 0)) (by simp; exact hq.size) (fun k e => by cases e; exact .inl hsz0)))
    exact ⟨none, 0, 0, none, 0, 0, rfl, Nat.le_refl _, Nat.le_refl _, ⟨World.ownsRow_nil _ _ _ _, Lo.nil _ _, Nat.zero_le _, Nat.zero_le _, fun b hb => by cases hb⟩, hq2⟩
  case first =>
    go_wp2_with fail
    obtain ⟨W1, hW1⟩ : ∃ W1 : World, W1 = W0.alloc (.cells #[.slice none 0 0, .slice none 0 0] 27) := ⟨_, rfl⟩
    obtain ⟨b4, hb4⟩ : ∃ b4 : Nat, b4 = W0.heap.size := ⟨_, rfl⟩
    have k4 : Blk W1 b4 27 #[.slice none 0 0, .slice none 0 0] := by rw [hW1, hb4]; exact Blk.new _ _ _
    have k2' : Blk W1 b2 27 #[.slice none 0 0, .slice none 0 0] := by rw [hW1]; exact k2.alloc _
    have r1 : Rd W1 g s := by rw [hW1]; exact Blk.alloc r0 _
    have q1 : Kept w.heap.size g g w W1 := by rw [hW1]; exact q0.trans (Kept.of_below ((Below.refl _ _).alloc q0.size _))
    have hb24 : b2 < b4 := by rw [hb4]; exact k2.lt
    rw [← hW1, ← hb4]
    clear hW1 hb4 k2 r0 q0 W0
    have t1 := two_r g s W1 r1 (by omega)
    have hn16 := rTwo_lt s
    have hl1 := rTwo_len s
    have HD := hide (show rLoad s = if 300 < (rTwo s).1 then none else match rBlocks (rTwo s).1 [] (rTwo s).2 with
      | (none, _) => none
      | (some bl, s1) => if (rFill rTwo 4352 4353 [] (0, 0) s1).2.2 = false ∧ (rFill rTwo 4352 4353 [] (0, 0) s1).2.1 = [] ∧ (⟨(rFill rTwo 4352 4353 [] (0, 0) s1).1, bl⟩ : Tr).rightB = true then some ⟨(rFill rTwo 4352 4353 [] (0, 0) s1).1, bl⟩ else none from rfl)
    generalize (rTwo s).1 = n at *
    generalize (rTwo s).2 = s1 at *
    refine t1.mono ?_
    rintro e W2 ⟨rfl, r2, hg2, hz2⟩
    clear t1
    have k42 := k4.grown hg2 (by intro e; cases e; omega)
    have k22 := k2'.grown hg2 (by intro e; cases e; omega)
    have q2 := q1.trans (Kept.grown hg2 q1.size (fun k e => by cases e; exact .inr (.inl rfl)))
    clear k4 k2' r1 q1 hg2 hz2 W1
    by_cases h300 : 300 < n
    · have hres : rLoad s = none := by rw [HD.out, if_pos h300]
      go_wp2
      refine wp_goto ?_
      exact ⟨rfl, _, _, _, _, _, _, _, _, _, _, _, _, _, _, _, _, _, _, _, _, _, _, _, _, _, _, _, _, _, _, _, _, _, _, _, _, _, _, _, _, _, _, _, _, _, _, rfl, k22, q2, hres⟩
    · have h300' : n ≤ 300 := by omega
      have HD2 := hide (HD.out.trans (if_neg h300))
      clear HD h300
      go_wp2
      go_loopw [11] (fun i wr => ∃ (k : Nat) (bl : List (List Int)) (vb : Value) (sk : RS), k ≤ n ∧ i = .int .i64 k ∧ rBlocks n [] s1 = rBlocks (n - k) bl sk ∧ bl.length = k ∧ (∀ b ∈ bl, b.length ≤ 256) ∧ Lo wr (w.heap.size) vb bl ∧ Blk wr b4 27 #[.slice none 0 0, vb] ∧ Blk wr b2 27 #[.slice none 0 0, .slice none 0 0] ∧ Rd wr g sk ∧ sk.1.length ≤ 1000000 ∧ Kept w.heap.size g g w wr) (fun i _ => n - (intOf i).toNat)
      case atStart => exact ⟨0, [], .slice none 0 0, s1, Nat.zero_le _, rfl, rfl, rfl, fun b hb => (by cases hb), Lo.nil _ _, k42, k22, r2, by omega, q2⟩
      case round =>
        clear k42 k22 r2 q2 hl1
        obtain ⟨k, bl, vb, sk, hk, rfl, hrb, hbl, hbl2, hlo, k4, k2, rd, hsl, hq⟩ := hrel
        subst hbl
        have HRB := hide hrb
        clear hrb
        by_cases hlt : bl.length < n
        · obtain ⟨l, bad⟩ := sk
          have d1 := Blk.cell rd 1
          simp only [List.getElem?_toArray, List.getElem?_cons_zero, List.getElem?_cons_succ] at d1
          cases bad with
          | true =>
            have hres : rLoad s = none := by
              rw [HD2.out, HRB.out, show n - bl.length = (n - bl.length - 1) + 1 by omega]
              simp [rBlocks]
            go_wp2
            refine wp_goto ?_
            exact ⟨rfl, _, _, _, _, _, _, _, _, _, _, _, _, _, _, _, _, _, _, _, _, _, _, _, _, _, _, _, _, _, _, _, _, _, _, _, _, _, _, _, _, _, _, _, _, _, _, rfl, k2, hq, hres⟩
          | false =>
            obtain ⟨ss, hb1, hb2, hb3⟩ := hlo
            obtain ⟨Av, cv, rfl, _, _⟩ := own_rds hb1 (Nat.le_refl _) (by omega)
            have c1 := k4.cell 1
            simp only [List.getElem?_toArray, List.getElem?_cons_zero, List.getElem?_cons_succ] at c1
            go_wp2
            refine wp_region_L (fun w' => w'.cell? ⟨b4, 1, none⟩ = some (.slice Av bl.length cv)) (fun k => decide (k ≠ 9)) [0, 1, 2, 3, 4] [5, 6, 7, 8, 9] (by kernel_rfl) (by kernel_rfl) (fun _ _ d _ _ h => by cases d <;> exact h) (show wr.drew.cell? ⟨b4, 1, none⟩ = some (.slice Av bl.length cv) from c1) ?_
            refine headsL_step (v := .pointer (some ⟨b4, 1, none⟩)) rfl rfl (fun W' hS' => by go_simp) ?_
            go_frame
            refine headsL_step (v := .slice Av bl.length cv) rfl rfl (fun W' hS' => by go_simp) ?_
            go_frame
            refine headsL_step (v := .pointer (some ⟨g, 0, none⟩)) rfl rfl (fun W' hS' => by rfl) ?_
            go_frame
            refine headsL_step (v := .pointer (some ⟨g, 0, none⟩)) rfl rfl (fun W' hS' => by rfl) ?_
            go_frame
            refine headsL_step (v := .func (.func 79) #[.pointer (some ⟨g, 0, none⟩)] #[]) rfl rfl (fun W' hS' => by go_simp) ?_
            go_frame
            refine headsL_nil ?_
            refine seqL_step rfl rfl (fun K hK1 => ?_)
            go_simp
            have rdd : Rd wr.drew g (l, false) := rd
            have hf := fillOne_any g 256 (l, false) wr.drew rdd hsl (by omega)
            have hfl := rFill_len rOne 256 257 [] (0, 0) (l, false) (by simp)
            have hfr := rFill_rest rOne rOne_len 256 257 [] (0, 0) (l, false)
            have HRB2 : Hid (rBlocks n [] s1 = rBlocks (n - (bl.length + 1)) (bl ++ [(rFill rOne 256 257 [] (0, 0) (l, false)).1]) (rFill rOne 256 257 [] (0, 0) (l, false)).2) := hide (by
              rw [HRB.out, show n - bl.length = (n - (bl.length + 1)) + 1 by omega]
              rfl)
            clear HRB
            generalize (rFill rOne 256 257 [] (0, 0) (l, false)).1 = x at *
            generalize (rFill rOne 256 257 [] (0, 0) (l, false)).2 = sx at *
            refine hf.mono ?_
            rintro e W3 ⟨vx, rfl, ox, rx, qx⟩
            clear hf
            obtain ⟨Ax, cx, rfl, _, _⟩ := own_rds ox (Nat.le_refl _) (by omega)
            have hg' := qx.grownBy
            have hgx : wr.grownBy W3 (some g) := ⟨hg'.os, hg'.tape, hg'.output, hg'.size, hg'.block⟩
            clear hg'
            have k43 := k4.grown hgx (by intro e; cases e; omega)
            have k23 := k2.grown hgx (by intro e; cases e; omega)
            have b13 := turn_own hb1 hgx (fun q e => by cases e; exact ⟨_, _, rd, by decide⟩)
            have b33 := fun i hi hi' => turn_own (hb3 i hi hi') hgx (fun q e => by cases e; exact ⟨_, _, rd, by decide⟩)
            have ox3 : W3.ownsRow w.heap.size 3 1 (.slice Ax x.length cx) x.length (intCells x) := own_more ox hq.size
            have q3 := hq.trans (Kept.grown hgx hq.size (fun q e => by cases e; exact .inr (.inl rfl)))
            have c13 := k43.cell 1
            simp only [List.getElem?_toArray, List.getElem?_cons_zero, List.getElem?_cons_succ] at c13
            have HO := hide b13
            clear hgx qx ox k4 k2 hb1 hb3 rd rdd hq b13
            refine hK1 _ _ ⟨fun _ => c13, ?_⟩
            refine seqL_step rfl rfl (fun K hK2 => ?_)
            go_simp
            refine hK2 _ _ ⟨fun _ => (World.cell?_alloc_lt _ _ ⟨b4, 1, none⟩ k43.lt).trans c13, ?_⟩
            refine seqL_step rfl rfl (fun K hK3 => ?_)
            have h24 := Blk.lt k43
            have hs3 := q3.size
            refine wp_append_lies _ (.tmp 18) (.tmp 23) 25 rfl w.heap.size 24 i0 (.slice none 0 0) 1 24 Tryd.underlying25 hi hz0 hz1 hzb rfl (by decide) (.slice Av bl.length cv) bl.length (ss.map sv) rfl (HO.out.alloc _) ⟨W3.heap.size, 0, none⟩ 1 1 [.slice Ax x.length cx] rfl rfl (cell_one_new _ _ _) (by simp [Value.oneCell']) (by omega) (by unfold maxLen; omega) (by omega) (by simp; omega) _ rfl ?_
            intro g' cap' W4 hown hgrow _ _
            have hne4 := own_ne (HO.out.alloc (.cells #[.slice Ax x.length cx] 24)) (k43.alloc _) (by decide)
            have hne2 := own_ne (HO.out.alloc (.cells #[.slice Ax x.length cx] 24)) (k23.alloc _) (by decide)
            have hneg := own_ne (HO.out.alloc (.cells #[.slice Ax x.length cx] 24)) (Blk.alloc rx _) (by decide)
            have k44 := (k43.alloc (.cells #[.slice Ax x.length cx] 24)).grown hgrow hne4
            have k24 := (k23.alloc (.cells #[.slice Ax x.length cx] 24)).grown hgrow hne2
            have rg4 := (Blk.alloc rx (.cells #[.slice Ax x.length cx] 24)).grown hgrow hneg
            have hlo4 : Lo W4 w.heap.size (.slice (some ⟨g', 0, none⟩) (bl.length + 1) cap') (bl ++ [x]) :=
              Lo.push (HO.out.alloc _) hb2 (fun i hi hi' => (b33 i hi hi').alloc _) (s := (Ax, x.length, cx)) hown hgrow (ox3.alloc _)
            have q4 := q3.trans ((Kept.grown (World.grownBy_alloc W3 (.cells #[.slice Ax x.length cx] 24) none) hs3 (fun q e => by cases e)).trans (Kept.grown hgrow (by simp; omega) (fun q e => .inl (HO.out.lt q e).1)))
            have c14 := k44.cell 1
            have f14 := k44.frozen 1
            simp only [List.getElem?_toArray, List.getElem?_cons_zero, List.getElem?_cons_succ] at c14
            clear hgrow hown HO k43 k23 b33 ox3 q3 rx hne4 hne2 hneg
            refine hK3 _ _ ⟨fun _ => c14, ?_⟩
            refine seqL_step rfl rfl (fun K hK4 => ?_)
            go_simp
            refine hK4 _ _ ⟨fun _ => c14, ?_⟩
            refine seqL_step rfl rfl (fun K hK5 => ?_)
            go_simp
            refine hK5 _ _ ⟨fun h => (by cases h), ?_⟩
            refine seqL_nil ?_
            go_wp2
            have hs5 := grownBy_setCell W4 b4 1 (.slice (some ⟨g', 0, none⟩) (bl.length + 1) cap')
            go_roundw
            case rel =>
              refine ⟨bl.length + 1, bl ++ [x], .slice (some ⟨g', 0, none⟩) (bl.length + 1) cap', sx, by omega, by go_num, HRB2.out, by simp, fun b hb => ?_, hlo4.turn hs5 (fun q e => by cases e; exact ⟨_, _, k44, by decide, by decide⟩), k44.set_ 1 _, k24.far (p := ⟨b4, 1, none⟩) (by simp; omega) _, Blk.far rg4 (p := ⟨b4, 1, none⟩) (by simp; omega) _, by simp only at hfr; omega, q4.trans (Kept.grown hs5 q4.size (fun q e => by cases e; exact .inl (by omega)))⟩
              rcases List.mem_append.1 hb with hb | hb
              · exact hbl2 b hb
              · simp at hb; rw [hb]; exact hfl
            case measure => simp [intOf]; omega
        · have hkn : bl.length = n := by omega
          have hRB : rBlocks n [] s1 = (some bl, sk) := by rw [HRB.out, hkn, Nat.sub_self]; rfl
          have HD3 := hide (HD2.out.trans (by rw [hRB]))
          clear HRB HD2 hRB
          subst hkn
          go_wp2_with fail
          refine (fillTwo_any g 4352 sk wr rd hsl (by omega)).mono ?_
          rintro e W3 ⟨vx, rfl, ox, rx, qx⟩
          obtain ⟨Ai, ci, rfl, _, _⟩ := own_rds ox (Nat.le_refl _) (Nat.le_trans (rFill_len rTwo 4352 (4352 + 1) [] (0, 0) sk (by simp)) (by omega))
          have hfl := rFill_len rTwo 4352 4353 [] (0, 0) sk (by simp)
          have hfr := rFill_rest rTwo rTwo_len 4352 4353 [] (0, 0) sk
          have hgx := qx.grownBy
          have k43 := k4.grown hgx (by intro e; cases e; omega)
          have k23 := k2.grown hgx (by intro e; cases e; omega)
          have hlo3 := hlo.turn hgx (fun q e => by cases e; exact ⟨_, _, rd, by decide, by decide⟩)
          have ox3 := own_more ox hq.size
          have q3 := hq.trans (Kept.grown hgx hq.size (fun q e => by cases e; exact .inr (.inl rfl)))
          obtain ⟨vb', hvb'⟩ : ∃ v, v = vb := ⟨_, rfl⟩
          obtain ⟨Ab, nb, cb, hvb, hnb, hnb2, _⟩ := hlo3.rows (by omega) (fun b hb => Nat.le_trans (hbl2 b hb) (by omega))
          subst hvb hnb2
          clear hvb' vb'
          generalize hx : (rFill rTwo 4352 4353 [] (0, 0) sk).1 = x at *
          generalize hsx : (rFill rTwo 4352 4353 [] (0, 0) sk).2 = sx at *
          have HX := hide hx
          have HSX := hide hsx
          clear hx hsx hgx qx ox k4 k2 hlo rd hq
          have c40 := k43.cell 0
          have f40 := k43.frozen 0
          have c41 := k43.cell 1
          have g0 := Blk.cell rx 0
          have g1 := Blk.cell rx 1
          simp only [List.getElem?_toArray, List.getElem?_cons_zero, List.getElem?_cons_succ] at c40 c41 g0 g1
          have hgl3 := Blk.lt rx
          have h43 := k43.lt
          have hs4 := grownBy_setCell W3 b4 0 (.slice Ai x.length ci)
          have k44 := k43.set_ 0 (.slice Ai x.length ci)
          have k24 := k23.far (p := ⟨b4, 0, none⟩) (by simp; omega) (.slice Ai x.length ci)
          have hlo4 := hlo3.turn hs4 (fun q e => by cases e; exact ⟨_, _, k43, by decide, by decide⟩)
          have ox4 := turn_own ox3 hs4 (fun q e => by cases e; exact ⟨_, _, k43, by decide⟩)
          have q4 := q3.trans (Kept.grown hs4 q3.size (fun q e => by cases e; exact .inl (by omega)))
          have m1 : ¬ (b4 = g) := by omega
          have m2 : ¬ (g = b4) := by omega
          obtain ⟨lx, bx⟩ := sx
          simp only at g0 g1
          cases bx with
          | true =>
            have hn : rLoad s = none := by rw [HD3.out]; simp
            clear HD3 HX HSX
            go_wp2_with fail
            generalize W3.setCell ⟨b4, 0, none⟩ (.slice Ai x.length ci) = W4 at *
            refine wp_label ?_
            have d0 := k24.cell 0
            have d1 := k24.cell 1
            have f0 := k24.frozen 0
            have f1 := k24.frozen 1
            have lb := k24.lt
            simp only [List.getElem?_toArray, List.getElem?_cons_zero, List.getElem?_cons_succ] at d0 d1
            go_wp2
            have kE := (k24.set_ 0 (.slice none 0 0)).set_ 1 (.slice none 0 0)
            refine bodyPost_ret (results_cell_row_tmp rfl _ _ b2 27 _ _ _ rfl kE Tryd.underlying27 rfl (by kernel_rfl)) rfl ?_
            have hq2 := q4.trans ((Kept.grown (grownBy_setCell W4 b2 0 (.slice none 0 0)) q4.size (fun k e => by cases e; exact .inl hsz0)).trans (Kept.grown (grownBy_setCell (W4.setCell ⟨b2, 0, none⟩ (.slice none 0 0)) b2 1 (.slice none 0 0)) (by simp; exact q4.size) (fun k e => by cases e; exact .inl hsz0)))
            exact ⟨none, 0, 0, none, 0, 0, rfl, Nat.le_refl _, Nat.le_refl _, ⟨World.ownsRow_nil _ _ _ _, Lo.nil _ _, Nat.zero_le _, Nat.zero_le _, fun b hb => by cases hb⟩, hq2⟩
          | false =>
            cases lx with
            | cons y lx =>
              have hn : rLoad s = none := by rw [HD3.out]; simp
              have he : (⟨(y :: lx).toArray⟩ : ByteArray).toList.isEmpty = false := by rw [ByteArray.toList_eq]; rfl
              clear HD3 HX HSX
              generalize (⟨(y :: lx).toArray⟩ : ByteArray) = sb at *
              go_wp2_with fail
              generalize W3.setCell ⟨b4, 0, none⟩ (.slice Ai x.length ci) = W4 at *
              refine wp_label ?_
              have d0 := k24.cell 0
              have d1 := k24.cell 1
              have f0 := k24.frozen 0
              have f1 := k24.frozen 1
              have lb := k24.lt
              simp only [List.getElem?_toArray, List.getElem?_cons_zero, List.getElem?_cons_succ] at d0 d1
              go_wp2
              have kE := (k24.set_ 0 (.slice none 0 0)).set_ 1 (.slice none 0 0)
              refine bodyPost_ret (results_cell_row_tmp rfl _ _ b2 27 _ _ _ rfl kE Tryd.underlying27 rfl (by kernel_rfl)) rfl ?_
              have hq2 := q4.trans ((Kept.grown (grownBy_setCell W4 b2 0 (.slice none 0 0)) q4.size (fun k e => by cases e; exact .inl hsz0)).trans (Kept.grown (grownBy_setCell (W4.setCell ⟨b2, 0, none⟩ (.slice none 0 0)) b2 1 (.slice none 0 0)) (by simp; exact q4.size) (fun k e => by cases e; exact .inl hsz0)))
              exact ⟨none, 0, 0, none, 0, 0, rfl, Nat.le_refl _, Nat.le_refl _, ⟨World.ownsRow_nil _ _ _ _, Lo.nil _ _, Nat.zero_le _, Nat.zero_le _, fun b hb => by cases hb⟩, hq2⟩
            | nil =>
              have he : (⟨([] : List UInt8).toArray⟩ : ByteArray).toList.isEmpty = true := by rw [ByteArray.toList_eq]; rfl
              have htr : TrAt (W3.setCell ⟨b4, 0, none⟩ (.slice Ai x.length ci)) (W3.setCell ⟨b4, 0, none⟩ (.slice Ai x.length ci)).heap.size Ai x.length Ab bl.length ⟨x, bl⟩ := by
                obtain ⟨A5, c5, e5, e6, e7⟩ := own_rds ox4 (Nat.le_refl _) (by omega)
                injection e5 with e5 _ _
                subst e5
                obtain ⟨A6, n6, c6, e8, e9, e10, e11⟩ := hlo4.rows (by omega) (fun b hb => Nat.le_trans (hbl2 b hb) (by omega))
                injection e8 with e8 e12 _
                subst e8 e12
                exact ⟨e7, e11⟩
              have hR := trieRight_any Ai Ab x.length ci bl.length cb ⟨x, bl⟩ _ htr
              generalize (⟨([] : List UInt8).toArray⟩ : ByteArray) = sb at *
              go_wp2_with fail
              generalize W3.setCell ⟨b4, 0, none⟩ (.slice Ai x.length ci) = W4 at *
              refine hR.mono ?_
              rintro e W5 ⟨rfl, hb5⟩
              have k45 := k44.below hb5 k44.lt
              have k25 := k24.below hb5 k24.lt
              have q5 := q4.trans (Kept.of_below (hb5.mono q4.size))
              have ox5 := turn_own ox4 (grown_of_below hb5 none) (fun q e => by cases e)
              have hlo5 := hlo4.turn (grown_of_below hb5 none) (fun q e => by cases e)
              by_cases hRb : (⟨x, bl⟩ : Tr).rightB = true
              · have hn : rLoad s = some ⟨x, bl⟩ := by rw [HD3.out]; simp [hRb]
                rw [hRb]
                clear HD3 HX HSX hR htr hRb
                have d0 := k25.cell 0
                have d1 := k25.cell 1
                have f0 := k25.frozen 0
                have f1 := k25.frozen 1
                have lb := k25.lt
                have e0 := k45.cell 0
                have e1 := k45.cell 1
                simp only [List.getElem?_toArray, List.getElem?_cons_zero, List.getElem?_cons_succ] at d0 d1
                have e0' : W5.cell? ⟨b4, 0, none⟩ = some (.slice Ai x.length ci) := by simpa using e0
                have e1' : W5.cell? ⟨b4, 1, none⟩ = some (.slice Ab bl.length cb) := by simpa using e1
                clear e0 e1
                go_wp2
                have kE := (k25.set_ 0 (.slice Ai x.length ci)).set_ 1 (.slice Ab bl.length cb)
                refine bodyPost_ret (results_cell_row_tmp rfl _ _ b2 27 _ _ _ rfl kE Tryd.underlying27 rfl (by kernel_rfl)) rfl ?_
                have h6 := grownBy_setCell W5 b2 0 (.slice Ai x.length ci)
                have h7 := grownBy_setCell (W5.setCell ⟨b2, 0, none⟩ (.slice Ai x.length ci)) b2 1 (.slice Ab bl.length cb)
                have kM := k25.set_ 0 (.slice Ai x.length ci)
                have hq2 := q5.trans ((Kept.grown h6 q5.size (fun k e => by cases e; exact .inl hsz0)).trans (Kept.grown h7 (by simp; exact q5.size) (fun k e => by cases e; exact .inl hsz0)))
                have ox7 := turn_own (turn_own ox5 h6 (fun q e => by cases e; exact ⟨_, _, k25, by decide⟩)) h7 (fun q e => by cases e; exact ⟨_, _, kM, by decide⟩)
                have hlo7 := (hlo5.turn h6 (fun q e => by cases e; exact ⟨_, _, k25, by decide, by decide⟩)).turn h7 (fun q e => by cases e; exact ⟨_, _, kM, by decide, by decide⟩)
                obtain ⟨A5, c5, e5, e6, e7⟩ := own_rds ox7 (Nat.le_refl _) (by omega)
                injection e5 with e5 _ e13
                obtain ⟨A6, n6, c6, e8, e9, e10, e11⟩ := hlo7.rows (by omega) (fun b hb => Nat.le_trans (hbl2 b hb) (by omega))
                injection e8 with e8 e12 e14
                subst e12
                exact ⟨_, _, _, _, _, _, rfl, by omega, by omega, ⟨ox7, hlo7, by show x.length ≤ 5000; omega, by show bl.length ≤ 5000; omega, fun b hb => Nat.le_trans (hbl2 b hb) (by omega)⟩, hq2⟩
              · have hRf : (⟨x, bl⟩ : Tr).rightB = false := by simpa using hRb
                have hn : rLoad s = none := by rw [HD3.out]; simp [hRf]
                rw [hRf]
                clear HD3 HX HSX hR htr hRb
                have d0 := k25.cell 0
                have d1 := k25.cell 1
                have f0 := k25.frozen 0
                have f1 := k25.frozen 1
                have lb := k25.lt
                simp only [List.getElem?_toArray, List.getElem?_cons_zero, List.getElem?_cons_succ] at d0 d1
                go_wp2_with fail
                refine wp_label ?_
                go_wp2
                have kE := (k25.set_ 0 (.slice none 0 0)).set_ 1 (.slice none 0 0)
                refine bodyPost_ret (results_cell_row_tmp rfl _ _ b2 27 _ _ _ rfl kE Tryd.underlying27 rfl (by kernel_rfl)) rfl ?_
                have hq2 := q5.trans ((Kept.grown (grownBy_setCell W5 b2 0 (.slice none 0 0)) q5.size (fun k e => by cases e; exact .inl hsz0)).trans (Kept.grown (grownBy_setCell (W5.setCell ⟨b2, 0, none⟩ (.slice none 0 0)) b2 1 (.slice none 0 0)) (by simp; exact q5.size) (fun k e => by cases e; exact .inl hsz0)))
                exact ⟨none, 0, 0, none, 0, 0, rfl, Nat.le_refl _, Nat.le_refl _, ⟨World.ownsRow_nil _ _ _ _, Lo.nil _ _, Nat.zero_le _, Nat.zero_le _, fun b hb => by cases hb⟩, hq2⟩
end Go.Proofs.YtibndkkbmgbogaaDoor
