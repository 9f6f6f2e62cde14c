/- The law's Few: few records of few and short fields. Conditions: the slice reads as the records. -/
import Derived.Test.YtdmkjchmcgjjmaaDoorRefParse
namespace Go.Proofs.YtdmkjchmcgjjmaaDoor
open Go Go.RowKit

def cut60 (s : ByteArray) : ByteArray := s.extract 0 (min s.size 60)
def fewF (fs : List ByteArray) : List ByteArray := (fs.take 22).map cut60
def fewR (r : Rci) : Rci := (r.1, r.2.1, r.2.2.1, fewF r.2.2.2)
def fewL (l : List Rci) : List Rci := (l.take 40).map fewR
/-- a record's fields lie somewhere, or there are none -/
def FldN (w : World) (x : RZ) : Prop := x.fs = [] ∨ FldAt w 0 x.A x.fs
theorem FldN.below {w w' : World} {x : RZ} (h : FldN w x) (hb : Below w.heap.size w w') : FldN w' x := h.imp id fun h => h.below hb
theorem FldN.ownGrown {w w' : World} {base size n : Nat} {v : Value} {xs : List Value} {x : RZ} (h : FldN w x) (ho : w.ownsRow base 31 size v n xs) (hg : w.grownBy w' v.ownBlock) : FldN w' x :=
  h.imp id fun h => h.ownGrown ho (by decide) hg
theorem FldN.rds {w : World} {x : RZ} (h : FldN w x) (hn : x.fs.length ≤ 9223372036854775807) : Rds w w.heap.size 1 x.A x.fs.length (strCells x.fs) := by
  rcases h with h | h
  · rw [h]
    exact ⟨rfl, by decide, fun h => absurd h (by decide)⟩
  · exact h.rds hn
theorem own_fldN {w : World} {base : Nat} {A : Option Addr} {c : Nat} {fs : List ByteArray} (h : w.ownsRow base 9 1 (.slice A fs.length c) fs.length (strCells fs)) : fs = [] ∨ FldAt w 0 A fs := by
  rcases h.2 with ⟨_, h0⟩ | ⟨g, cap, cur, e, _, hh, _, _, _, h4⟩
  · exact .inl (List.eq_nil_of_length_eq_zero h0)
  · injection e with e1
    subst e1
    refine .inr ⟨g, 0, cur, rfl, Nat.zero_le _, hh, fun j u hu => ?_⟩
    rw [← h4, List.getElem?_take] at hu
    split at hu
    · simpa using hu
    · cases hu
theorem fewF_step {fs : List ByteArray} {k : Nat} (h : k < fs.length) : (fs.take (k + 1)).map cut60 = (fs.take k).map cut60 ++ [cut60 fs[k]] := by
  rw [List.take_succ_eq_append_getElem h, List.map_append]
  rfl
theorem zCells_app (X Y : List RZ) : zCells (X ++ Y) = zCells X ++ zCells Y := by simp [zCells]
/-- what Few answers -/
def FewA (w : World) (l : List Rci) (e : Ending) (w' : World) : Prop :=
  ∃ (A : Option Addr) (c : Nat) (X : List RZ), e = .returned (.slice A X.length c) ∧ X.map RZ.rc = fewL l ∧ Rds w' w'.heap.size 4 A X.length (zCells X) ∧ Zflds w' w'.heap.size X ∧ Below w.heap.size w w'
structure RowZ (w : World) (lo : Nat) (v : Value) (X : List RZ) : Prop where
  row : w.ownsRow lo 31 4 v X.length (zCells X)
  fld : ∀ x ∈ X, FldN w x
theorem RowZ.below {w w' : World} {lo : Nat} {v : Value} {X : List RZ} (h : RowZ w lo v X) (hb : Below w.heap.size w w') : RowZ w' lo v X := ⟨own_below h.row hb, fun x hx => (h.fld x hx).below hb⟩

theorem own_form {w : World} {base e size n : Nat} {v : Value} {xs : List Value} (h : w.ownsRow base e size v n xs) : ∃ A c, v = .slice A n c ∧ n ≤ c := by
  rcases h.2 with ⟨rfl, h0⟩ | ⟨g, cap, cur, rfl, _, _, h1, _⟩
  · exact ⟨none, 0, by rw [h0], by omega⟩
  · exact ⟨_, _, rfl, h1⟩
theorem cell_grown_lo {w w' : World} {row : Option Nat} (hg : w.grownBy w' row) {b i : Nat} (hlt : b < w.heap.size) (hne : some b ≠ row) : w'.cell? ⟨b, i, none⟩ = w.cell? ⟨b, i, none⟩ := by
  unfold World.cell?
  rw [hg.block b hlt hne]

set_option maxRecDepth 100000 in
set_option maxHeartbeats 4000000 in
theorem few_any (A : Option Addr) (n c : Nat) (X : List RZ) (w : World) (hr : Rds w w.heap.size 4 A n (zCells X)) (hf : Zflds w w.heap.size X) (hz : ∀ x ∈ X, ∀ f ∈ x.fs, ByteArray.size f ≤ 9223372036854775807) :
    Calls Tryd.prog 22 #[.slice A n c] w (FewA w (X.map RZ.rc)) := by
  obtain ⟨i0, hi, hz0, hz1, hz2⟩ := info_parts info31
  obtain ⟨j0, ji, jz0, jz1, jz2⟩ := info_parts info9
  have hnn := hr.2.1
  obtain rfl := hr.rz_len
  go_enter Tryd.func22, Tryd.ntmps22
  go_wp2_with fail
  go_loopg [3, 4] X.length (fun g s3 s4 wx => ∃ (k : Nat) (Y : List RZ), g = X.length - k ∧ k ≤ X.length ∧ k ≤ 40 ∧ s4 = .int .i64 (k : Int) ∧ Y.map RZ.rc = ((X.take k).map RZ.rc).map fewR ∧ Y.length = k ∧ RowZ wx w.heap.size s3 Y ∧ Below w.heap.size w wx)
  case atStart => exact ⟨0, [], rfl, Nat.zero_le _, by omega, rfl, rfl, rfl, ⟨World.ownsRow_nil _ _ _ _, fun x hx => by cases hx⟩, Below.refl _ _⟩
  case round =>
    obtain ⟨k, Y, rfl, hk, hk40, rfl, hY, hYl, rx, hb⟩ := hrel
    generalize wr = wo at *
    have HY := hide hY
    have RX := hide rx
    have HBB := hide hb
    have LXB := hide (show ∀ j, u3.ownBlock = some j → j < wo.heap.size from fun j e => (rx.row.lt j e).2)
    clear hY rx
    by_cases hlt : k < X.length ∧ k < 40
    · obtain ⟨hlt, hlt40⟩ := hlt
      have h1' : (k : Int) < (X.length : Int) := by omega
      have h2' : (k : Int) < 40 := by omega
      obtain ⟨bb, o, rfl, hbl, c0, c1, c2, c3⟩ := (hr.below hb).rz hlt
      have HFX := hide ((hf _ (List.getElem_mem hlt)).below hb)
      have HST := hide (show (X.take (k + 1)).map RZ.rc = (X.take k).map RZ.rc ++ [X[k].rc] by rw [List.take_succ_eq_append_getElem hlt, List.map_append]; rfl)
      have HZX := hide (hz _ (List.getElem_mem hlt))
      have HLT := hide hlt
      have hbw : bb < wo.heap.size := by have := hb.size; omega
      generalize X[k] = x at *
      obtain ⟨xl, xa, xb, fs, A1, cc⟩ := x
      dsimp only [RZ.rc] at HFX HST HZX c0 c1 c2 c3
      clear hlt
      go_upto_region 5 with fail
      refine wp_region_headsT (fun w' => w'.cell? ⟨bb, o + k * 4, none⟩ = some (.int .i64 xl) ∧ w'.cell? ⟨bb, o + k * 4 + 1, none⟩ = some (.int .i64 xa) ∧ w'.cell? ⟨bb, o + k * 4 + 2, none⟩ = some (.int .i64 xb)) 16 1 (by kernel_rfl) (by kernel_rfl) (fun _ _ d _ _ h => by cases d <;> exact h) ⟨c0, c1, c2⟩ ?_
      simp only [List.take_succ_cons, List.take_zero, List.drop_succ_cons, List.drop_zero]
      refine heads_step (v := ?_) rfl (fun W' hS' => ?_) ?_; rotate_left; (focus (go_simp; rfl)); go_frame
      refine heads_step (v := ?_) rfl (fun W' hS' => ?_) ?_; rotate_left; (focus (go_simp; rfl)); go_frame
      refine heads_step (v := ?_) rfl (fun W' hS' => ?_) ?_; rotate_left; (focus (go_simp; rfl)); go_frame
      refine heads_step (v := ?_) rfl (fun W' hS' => ?_) ?_; rotate_left; (focus (go_simp; rfl)); go_frame
      refine heads_step (v := ?_) rfl (fun W' hS' => ?_) ?_; rotate_left; (focus (obtain ⟨f0, f1, f2⟩ := hS'; go_simp; rfl)); go_frame
      refine heads_step (v := ?_) rfl (fun W' hS' => ?_) ?_; rotate_left; (focus (go_simp; rfl)); go_frame
      refine heads_step (v := ?_) rfl (fun W' hS' => ?_) ?_; rotate_left; (focus (go_simp; rfl)); go_frame
      refine heads_step (v := ?_) rfl (fun W' hS' => ?_) ?_; rotate_left; (focus (go_simp; rfl)); go_frame
      refine heads_step (v := ?_) rfl (fun W' hS' => ?_) ?_; rotate_left; (focus (go_simp; rfl)); go_frame
      refine heads_step (v := ?_) rfl (fun W' hS' => ?_) ?_; rotate_left; (focus (obtain ⟨f0, f1, f2⟩ := hS'; go_simp; rfl)); go_frame
      refine heads_step (v := ?_) rfl (fun W' hS' => ?_) ?_; rotate_left; (focus (go_simp; rfl)); go_frame
      refine heads_step (v := ?_) rfl (fun W' hS' => ?_) ?_; rotate_left; (focus (go_simp; rfl)); go_frame
      refine heads_step (v := ?_) rfl (fun W' hS' => ?_) ?_; rotate_left; (focus (go_simp; rfl)); go_frame
      refine heads_step (v := ?_) rfl (fun W' hS' => ?_) ?_; rotate_left; (focus (go_simp; rfl)); go_frame
      refine heads_step (v := ?_) rfl (fun W' hS' => ?_) ?_; rotate_left; (focus (obtain ⟨f0, f1, f2⟩ := hS'; go_simp; rfl)); go_frame
      refine heads_step (v := ?_) rfl (fun W' hS' => ?_) ?_; rotate_left; (focus (go_simp; rfl)); go_frame
      refine heads_nil ?_
      refine mid_step rfl (fun K1 hK1 => ?_)
      go_simp
      refine hK1 _ _ ⟨⟨(World.cell?_alloc_lt wo _ _ hbw).trans c0, (World.cell?_alloc_lt wo _ _ hbw).trans c1, (World.cell?_alloc_lt wo _ _ hbw).trans c2⟩, ?_⟩
      refine mid_nil ?_
      obtain ⟨gx, hgx⟩ : ∃ gx : Nat, gx = wo.heap.size := ⟨_, rfl⟩
      obtain ⟨W1, hW1⟩ : ∃ W1 : World, W1 = (wo.alloc (.cells #[.int .i64 0, .int .i64 0, .int .i64 0, .slice none 0 0] 31)).drew := ⟨_, rfl⟩
      have KB : Blk W1 gx 31 #[.int .i64 0, .int .i64 0, .int .i64 0, .slice none 0 0] := by rw [hW1, hgx]; exact Blk.new wo _ _
      have b1 : Below wo.heap.size wo W1 := by rw [hW1]; exact below_drewN ((Below.refl _ _).alloc (Nat.le_refl _) _) 1
      rw [← hW1, ← hgx]
      have hsz1 : wo.heap.size < W1.heap.size := by rw [← hgx]; exact KB.lt
      clear hW1
      have d0 := KB.cell 0
      have d1 := KB.cell 1
      have d2 := KB.cell 2
      have d3 := KB.cell 3
      have f0 := KB.frozen 0
      have f1 := KB.frozen 1
      have f2 := KB.frozen 2
      have f3 := KB.frozen 3
      have lb := KB.lt
      simp only [List.getElem?_toArray, List.getElem?_cons_zero, List.getElem?_cons_succ] at d0 d1 d2 d3
      have HK2 := hide (set4_blk KB (.int .i64 xl) (.int .i64 xa) (.int .i64 xb) (.slice none 0 0))
      have HB2 := hide (b1.grown (set4_grown W1 gx (.int .i64 xl) (.int .i64 xa) (.int .i64 xb) (.slice none 0 0)) b1.size (fun j e => by cases e; omega))
      have HG := hide hgx
      clear KB b1 hgx hsz1
      go_wp2_with fail
      clear d0 d1 d2 d3 f0 f1 f2 f3 lb
      go_loopg [6] fs.length (fun g s6 W => ∃ (j : Nat) (vf : Value), g = fs.length - j ∧ j ≤ fs.length ∧ j ≤ 22 ∧ s6 = .int .i64 (j : Int) ∧ Blk W gx 31 #[.int .i64 xl, .int .i64 xa, .int .i64 xb, vf] ∧ W.ownsRow wo.heap.size 9 1 vf j (strCells ((fs.take j).map cut60)) ∧ Below wo.heap.size wo W)
      case atStart => exact ⟨0, _, rfl, Nat.zero_le _, by omega, rfl, HK2.out, World.ownsRow_nil _ _ _ _, HB2.out⟩
      case round =>
        obtain ⟨j, vf, rfl, hj, hj22, rfl, hbk, hrow, hbb⟩ := hrel
        have HBK := hide hbk
        have HROW := hide hrow
        have HBW := hide hbb
        have x3 := (hbb.cell (p := ⟨bb, o + k * 4 + 3, none⟩) hbw).trans c3
        have y3 := hbk.cell 3
        have z3 := hbk.frozen 3
        have lbk := hbk.lt
        simp only [List.getElem?_toArray, List.getElem?_cons_zero, List.getElem?_cons_succ] at y3
        by_cases hjl : j < fs.length ∧ j < 22
        · obtain ⟨hjl, hjl22⟩ := hjl
          have g1 : (j : Int) < (fs.length : Int) := by omega
          have g2 : (j : Int) < 22 := by omega
          have hfx := HFX.out.below (hbb.mono hb.size)
          obtain ⟨b2, o2, rfl, hb2, ct⟩ := hfx.str hjl
          have HFS := hide (fewF_step hjl)
          have HJL := hide hjl
          have hsz2 : (fs[j]).size ≤ 9223372036854775807 := HZX.out _ (List.getElem_mem hjl)
          generalize fs[j] = tt at *
          have HMK := hide (show (min (tt.size : Int) 60).toNat = min tt.size 60 by omega)
          clear hjl hfx hbk hrow
          go_upto_region 9 with fail
          have hS0 : wr.drew.cell? ⟨gx, 3, none⟩ = some vf ∧ wr.drew.cell? ⟨bb, o + k * 4 + 3, none⟩ = some (.slice (some ⟨b2, o2, none⟩) fs.length cc) ∧ wr.drew.cell? ⟨b2, o2 + j, none⟩ = some (.string tt) := ⟨y3, x3, ct⟩
          refine wp_region_mixT (fun w' => w'.cell? ⟨gx, 3, none⟩ = some vf ∧ w'.cell? ⟨bb, o + k * 4 + 3, none⟩ = some (.slice (some ⟨b2, o2, none⟩) fs.length cc) ∧ w'.cell? ⟨b2, o2 + j, none⟩ = some (.string tt)) (fun k => k != 24) (MixT.heads [0, 1, 2, 3, 4, 5, 6, 7, 8, 9, 10, 11, 12, 13, 14, 15, 16, 17, 18, 19, 20] (.one 21 (.one 22 (.one 23 (.one 24 .nil))))) (by kernel_rfl) (by kernel_rfl) (fun _ _ d _ _ h => by cases d <;> exact h) ?_
          refine mixT_head (v := ?_) hS0 rfl rfl (fun W' hS' => ?_) ?_; rotate_left; (focus (go_simp; rfl)); go_frame
          refine mixT_head (v := ?_) hS0 rfl rfl (fun W' hS' => ?_) ?_; rotate_left; (focus (obtain ⟨p0, p1, p2⟩ := hS'; go_simp; rfl)); go_frame
          refine mixT_head (v := ?_) hS0 rfl rfl (fun W' hS' => ?_) ?_; rotate_left; (focus (go_simp; rfl)); go_frame
          refine mixT_head (v := ?_) hS0 rfl rfl (fun W' hS' => ?_) ?_; rotate_left; (focus (go_simp; rfl)); go_frame
          refine mixT_head (v := ?_) hS0 rfl rfl (fun W' hS' => ?_) ?_; rotate_left; (focus (go_simp; rfl)); go_frame
          refine mixT_head (v := ?_) hS0 rfl rfl (fun W' hS' => ?_) ?_; rotate_left; (focus (go_simp; rfl)); go_frame
          refine mixT_head (v := ?_) hS0 rfl rfl (fun W' hS' => ?_) ?_; rotate_left; (focus (obtain ⟨p0, p1, p2⟩ := hS'; go_simp; rfl)); go_frame
          refine mixT_head (v := ?_) hS0 rfl rfl (fun W' hS' => ?_) ?_; rotate_left; (focus (go_simp; rfl)); go_frame
          refine mixT_head (v := ?_) hS0 rfl rfl (fun W' hS' => ?_) ?_; rotate_left; (focus (go_simp; rfl)); go_frame
          refine mixT_head (v := ?_) hS0 rfl rfl (fun W' hS' => ?_) ?_; rotate_left; (focus (obtain ⟨p0, p1, p2⟩ := hS'; go_simp; rfl)); go_frame
          refine mixT_head (v := ?_) hS0 rfl rfl (fun W' hS' => ?_) ?_; rotate_left; (focus (go_simp; rfl)); go_frame
          refine mixT_head (v := ?_) hS0 rfl rfl (fun W' hS' => ?_) ?_; rotate_left; (focus (go_simp; rfl)); go_frame
          refine mixT_head (v := ?_) hS0 rfl rfl (fun W' hS' => ?_) ?_; rotate_left; (focus (go_simp; rfl)); go_frame
          refine mixT_head (v := ?_) hS0 rfl rfl (fun W' hS' => ?_) ?_; rotate_left; (focus (go_simp; rfl)); go_frame
          refine mixT_head (v := ?_) hS0 rfl rfl (fun W' hS' => ?_) ?_; rotate_left; (focus (obtain ⟨p0, p1, p2⟩ := hS'; go_simp; rfl)); go_frame
          refine mixT_head (v := ?_) hS0 rfl rfl (fun W' hS' => ?_) ?_; rotate_left; (focus (go_simp; rfl)); go_frame
          refine mixT_head (v := ?_) hS0 rfl rfl (fun W' hS' => ?_) ?_; rotate_left; (focus (go_simp; rfl)); go_frame
          refine mixT_head (v := ?_) hS0 rfl rfl (fun W' hS' => ?_) ?_; rotate_left; (focus (obtain ⟨p0, p1, p2⟩ := hS'; go_simp; rfl)); go_frame
          refine mixT_head (v := ?_) hS0 rfl rfl (fun W' hS' => ?_) ?_; rotate_left; (focus (go_simp; rfl)); go_frame
          refine mixT_head (v := ?_) hS0 rfl rfl (fun W' hS' => ?_) ?_; rotate_left; (focus (go_simp; rfl)); go_frame
          refine mixT_head (v := .string (cut60 tt)) hS0 rfl rfl (fun W' hS' => by go_simp; rw [HMK.out, if_pos (by omega)]; rfl) ?_
          go_frame
          refine mixT_one rfl rfl (fun K21 hK21 => ?_)
          go_simp
          obtain ⟨W2, hW2⟩ : ∃ W2 : World, W2 = (wr.alloc (.cells #[.string (cut60 tt)] 9)).drew := ⟨_, rfl⟩
          have b2w : Below wr.heap.size wr W2 := by rw [hW2]; exact below_drewN ((Below.refl _ _).alloc (Nat.le_refl _) _) 1
          have CN := hide (show ∀ j' u, [Value.string (cut60 tt)][j']? = some u → W2.cell? ((⟨wr.heap.size, 0, none⟩ : Addr).add j') = some u by rw [hW2]; exact cell_one_new wr (.string (cut60 tt)) 9)
          rw [← hW2]
          clear hW2
          have HROW2 := hide (own_below HROW.out b2w)
          have HBK2 := hide (HBK.out.below b2w lbk)
          have HBW2 := hide (HBW.out.trans (b2w.mono HBW.out.size))
          have hwz := HBW.out.size
          have hboz := HBB.out.size
          have l1 : bb < wr.heap.size := by omega
          have l2 : b2 < wr.heap.size := by omega
          have x4 := (b2w.cell (p := ⟨bb, o + k * 4 + 3, none⟩) l1).trans x3
          have ct4 := (b2w.cell (p := ⟨b2, o2 + j, none⟩) l2).trans ct
          have y4 := (b2w.cell (p := ⟨gx, 3, none⟩) lbk).trans y3
          have hz2 := b2w.size
          refine hK21 _ _ ⟨fun _ => ⟨y4, x4, ct4⟩, ?_⟩
          refine mixT_one rfl rfl (fun K22 hK22 => ?_)
          refine wp_append_own W2 (.tmp 48) (.tmp 68) 29 rfl wo.heap.size 9 j0 (.string ⟨#[]⟩) 1 16 Tryd.underlying29 ji jz0 jz1 jz2 rfl (by decide) vf j (strCells ((fs.take j).map cut60)) rfl HROW2.out ⟨wr.heap.size, 0, none⟩ 1 1 [.string (cut60 tt)] rfl rfl CN.out (by simp [Value.oneCell']) (by unfold maxLen; omega) (by omega) (by omega) (fun v' w3 hown1 hgrow1 _ => ?_)
          obtain ⟨gf, cf, rfl⟩ := own_some hown1 (by omega)
          have HO := hide hown1
          have HGR := hide hgrow1
          have hbl2 : bb < wo.heap.size := by omega
          have hne : ∀ b, b < wo.heap.size → some b ≠ vf.ownBlock := fun b h e => by have := (HROW2.out.lt b e.symm).1; omega
          have x5 := (cell_grown_lo (i := o + k * 4 + 3) HGR.out (by omega) (hne bb (by omega))).trans x4
          have ct5 := (cell_grown_lo (i := o2 + j) HGR.out (by omega) (hne b2 (by omega))).trans ct4
          have HBK3 := hide (HBK2.out.grown HGR.out (own_ne HROW2.out HBK2.out (by decide)))
          have y5 := HBK3.out.cell 3
          have z5 := HBK3.out.frozen 3
          have lb5 := HBK3.out.lt
          simp only [List.getElem?_toArray, List.getElem?_cons_zero, List.getElem?_cons_succ] at y5
          refine hK22 _ _ ⟨fun _ => ⟨y5, x5, ct5⟩, ?_⟩
          refine mixT_one rfl rfl (fun K23 hK23 => ?_)
          go_simp
          refine hK23 _ _ ⟨fun _ => ⟨y5, x5, ct5⟩, ?_⟩
          refine mixT_one rfl rfl (fun K24 hK24 => ?_)
          go_simp
          have HK4 := hide (HBK3.out.set_ 3 (.slice (some ⟨gf, 0, none⟩) (j + 1) cf))
          have HB3 := hide (HBW2.out.grown HGR.out HBW2.out.size (fun k e => (HROW2.out.lt k e).1))
          have HB4 := hide (HB3.out.grown (grownBy_setCell w3 gx 3 (.slice (some ⟨gf, 0, none⟩) (j + 1) cf)) HB3.out.size (fun k e => by cases e; exact Nat.le_of_eq HG.out.symm))
          have HR4 := hide (HO.out.kept (grownBy_setCell w3 gx 3 (.slice (some ⟨gf, 0, none⟩) (j + 1) cf)) (.inr (own_ne HO.out HBK3.out (by decide)).symm))
          refine hK24 _ _ ⟨fun h => absurd h (by decide), ?_⟩
          refine mixT_nil ?_
          go_wp2_with fail
          go_roundg (fs.length - (j + 1))
          case measure => have := HJL.out; omega
          case rel => exact ⟨j + 1, _, rfl, HJL.out, by omega, by simp, HK4.out, by rw [HFS.out]; simpa [strCells] using HR4.out, HB4.out⟩
        · have HFE := hide (show (fs.take j).map cut60 = fewF fs by
            unfold fewF
            rcases Nat.lt_or_ge j 22 with h | h
            · have : fs.length ≤ j := by omega
              rw [List.take_of_length_le this, List.take_of_length_le (by omega)]
            · rw [show j = 22 by omega])
          obtain ⟨Af, cf, rfl, hcf⟩ := own_form HROW.out
          have q0 := HBK.out.cell 0
          have q1 := HBK.out.cell 1
          have q2 := HBK.out.cell 2
          simp only [List.getElem?_toArray, List.getElem?_cons_zero, List.getElem?_cons_succ] at q0 q1 q2
          have hlf : (fewF fs).length = j := by
            have := HROW.out.1
            rw [strCells_length, HFE.out] at this
            omega
          have HFN := hide (show FldN wr ⟨xl, xa, xb, fewF fs, Af, cf⟩ from own_fldN (by
            have h := HROW.out
            rw [HFE.out] at h
            show wr.ownsRow wo.heap.size _ 1 (.slice Af (fewF fs).length cf) (fewF fs).length (strCells (fewF fs))
            rw [hlf]
            exact h))
          have RX4 := hide (RX.out.below HBW.out)
          have RX5 := hide (RX4.out.below ((Below.refl _ _).alloc (Nat.le_refl _) (.cells #[.int .i64 xl, .int .i64 xa, .int .i64 xb, .slice Af j cf] 31)))
          have HB4 := hide (HBB.out.trans (HBW.out.mono HBB.out.size))
          have HB5 := hide (HB4.out.alloc HB4.out.size (.cells #[.int .i64 xl, .int .i64 xa, .int .i64 xb, .slice Af j cf] 31))
          have HFN5 := hide (HFN.out.below ((Below.refl _ _).alloc (Nat.le_refl _) (.cells #[.int .i64 xl, .int .i64 xa, .int .i64 xb, .slice Af j cf] 31)))
          have CN := hide (cells_new wr [.int .i64 xl, .int .i64 xa, .int .i64 xb, .slice Af j cf] 31)
          have ONE := hide (four_one xl xa xb Af j cf)
          have FIN : Hid (∀ v' w6, w6.ownsRow w.heap.size 31 4 v' (Y.length + 1) (zCells Y ++ [.int .i64 xl, .int .i64 xa, .int .i64 xb, .slice Af j cf]) → (wr.alloc (.cells #[.int .i64 xl, .int .i64 xa, .int .i64 xb, .slice Af j cf] 31)).grownBy w6 u3.ownBlock →
              ∃ (k' : Nat) (Y' : List RZ), X.length - (k + 1) = X.length - k' ∧ k' ≤ X.length ∧ k' ≤ 40 ∧ (Value.int .i64 ((k : Int) + 1)) = .int .i64 (k' : Int) ∧ Y'.map RZ.rc = ((X.take k').map RZ.rc).map fewR ∧ Y'.length = k' ∧ RowZ w6 w.heap.size v' Y' ∧ Below w.heap.size w w6) := fun v' w6 ho hg => by
            refine ⟨k + 1, Y ++ [⟨xl, xa, xb, fewF fs, Af, cf⟩], rfl, HLT.out, by omega, by simp, ?_, by rw [List.length_append, hYl]; rfl, ⟨?_, fun x hx => ?_⟩, HB5.out.grown hg HB5.out.size (fun j e => (RX5.out.row.lt j e).1)⟩
            · rw [HST.out, List.map_append, List.map_append, HY.out]
              rfl
            · rw [List.length_append, zCells_app]
              have e : zCells [(⟨xl, xa, xb, fewF fs, Af, cf⟩ : RZ)] = [.int .i64 xl, .int .i64 xa, .int .i64 xb, .slice Af j cf] := by
                show [Value.int .i64 xl, .int .i64 xa, .int .i64 xb, .slice Af (fewF fs).length cf] = _
                rw [hlf]
              rw [e]
              exact ho
            · rcases List.mem_append.1 hx with hx | hx
              · exact (RX5.out.fld x hx).ownGrown RX5.out.row hg
              · rw [List.mem_singleton] at hx
                subst hx
                exact HFN5.out.ownGrown RX5.out.row hg
          have kk40 : (k : Int) < 40 := by omega
          have HFXX := hide (HFX.out.below (hbb.mono hb.size))
          clear hbk hrow hlf
          by_cases hjl1 : j < fs.length
          · have g1 : (j : Int) < (fs.length : Int) := by omega
            have g2 : ¬ (j : Int) < 22 := by omega
            clear hjl hjl1
            go_wp2_with (at_builtin; (refine wpList_append_own _ rfl (.tmp 71) (.tmp 73) 35 rfl w.heap.size 31 i0 (.agg #[.int .i64 0, .int .i64 0, .int .i64 0, .slice none 0 0]) 4 48 Tryd.underlying35 hi hz0 hz1 hz2 rfl (by decide) _ Y.length (zCells Y) rfl RX5.out.row ⟨wr.heap.size, 0, none⟩ 1 1 [.int .i64 xl, .int .i64 xa, .int .i64 xb, .slice Af j cf] rfl rfl CN.out ONE.out (by unfold maxLen; omega) (by omega) HB5.out.size ?_); intro v' w6 hown1 hgrow1 _; have HO := hide hown1; have HGR := hide hgrow1; clear hown1 hgrow1)
            go_roundg (X.length - (k + 1))
            case measure => have := HLT.out; omega
            case rel => exact FIN.out _ _ HO.out HGR.out
          · have g1 : ¬ (j : Int) < (fs.length : Int) := by omega
            clear hjl hjl1
            go_wp2_with (at_builtin; (refine wpList_append_own _ rfl (.tmp 71) (.tmp 73) 35 rfl w.heap.size 31 i0 (.agg #[.int .i64 0, .int .i64 0, .int .i64 0, .slice none 0 0]) 4 48 Tryd.underlying35 hi hz0 hz1 hz2 rfl (by decide) _ Y.length (zCells Y) rfl RX5.out.row ⟨wr.heap.size, 0, none⟩ 1 1 [.int .i64 xl, .int .i64 xa, .int .i64 xb, .slice Af j cf] rfl rfl CN.out ONE.out (by unfold maxLen; omega) (by omega) HB5.out.size ?_); intro v' w6 hown1 hgrow1 _; have HO := hide hown1; have HGR := hide hgrow1; clear hown1 hgrow1)
            go_roundg (X.length - (k + 1))
            case measure => have := HLT.out; omega
            case rel => exact FIN.out _ _ HO.out HGR.out
    · have HFE := hide (show Y.map RZ.rc = fewL (X.map RZ.rc) by
        rw [HY.out]
        unfold fewL
        rw [← List.map_take]
        congr 2
        rcases Nat.lt_or_ge k 40 with h | h
        · have : X.length ≤ k := by omega
          rw [List.take_of_length_le this, List.take_of_length_le (by omega)]
        · rw [show k = 40 by omega])
      have h22 : ∀ x ∈ Y, x.fs.length ≤ 22 := fun x hx => by
        have h1 : x.rc ∈ Y.map RZ.rc := List.mem_map_of_mem hx
        rw [HFE.out] at h1
        obtain ⟨r, _, e⟩ := List.mem_map.1 h1
        have e2 : x.fs = fewF r.2.2.2 := (congrArg (fun z : Rci => z.2.2.2) e).symm
        rw [e2]
        unfold fewF
        rw [List.length_map, List.length_take]
        omega
      obtain ⟨A', c', rfl, _⟩ := own_form RX.out.row
      have HFIN := hide (show FewA w (X.map RZ.rc) (.returned (.slice A' Y.length c')) wo from ⟨A', c', Y, rfl, HFE.out, own_rds_at RX.out.row (by omega), fun x hx => (RX.out.fld x hx).rds (by have := h22 x hx; omega), HBB.out⟩)
      rw [hYl] at HFIN
      clear h22 hf hz hr
      by_cases h1 : k < X.length
      · have g1 : (k : Int) < (X.length : Int) := by omega
        have g2 : ¬ (k : Int) < 40 := by omega
        clear hlt h1
        go_wp2_with fail
        go_ret
        exact HFIN.out
      · have g1 : ¬ (k : Int) < (X.length : Int) := by omega
        clear hlt h1
        go_wp2_with fail
        go_ret
        exact HFIN.out
end Go.Proofs.YtdmkjchmcgjjmaaDoor
