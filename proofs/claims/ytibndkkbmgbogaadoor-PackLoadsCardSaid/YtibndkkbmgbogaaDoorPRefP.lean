/- The reference's Pack and Size. Conditions: the trie lies as the words of XBase say. -/
import Derived.Test.YtibndkkbmgbogaaDoorPRef2
import Derived.Test.YtibndkkbmgbogaaDoorPRunsR
import Derived.Test.YtibndkkbmgbogaaDoorPPack
import Derived.Test.YtibndkkbmgbogaaDoorRefR
import Derived.Test.YtibndkkbmgbogaaDoorMix
import Derived.Deep.AppendLies
import Derived.Maps.AppendAt
import Derived.OwnWalk
import Derived.ArgAppend
import Derived.Lib.SlBytesConst
namespace Go.Proofs.YtibndkkbmgbogaaDoor
open Go Go.RowKit

/-- rows of two sorts lie apart -/
theorem own_apart {w : World} {b1 b2 s1 s2 n1 n2 : Nat} {e1 e2 : TypeId} {v1 v2 : Value} {x1 x2 : List Value} (h1 : w.ownsRow b1 e1 s1 v1 n1 x1) (h2 : w.ownsRow b2 e2 s2 v2 n2 x2) (hne : e1 ≠ e2) :
    v1.ownBlock = none ∨ v1.ownBlock ≠ v2.ownBlock := by
  rcases h1.2 with ⟨rfl, _⟩ | ⟨g, cap, cur, rfl, _, hh, _⟩
  · left; rfl
  · right
    intro e
    exact own_ne h2 (show Blk w g e1 cur from hh) (Ne.symm hne) (by rw [← e]; rfl)

def OwnB (w : World) (n0 : Nat) (v : Value) (L : List UInt8) : Prop := w.ownsRow n0 5 1 v L.length (byteCells L)
theorem byteCells_two {n : Nat} (h : n < 65536) : byteCells (twoB n) = [.int .u8 ((n / 256 : Nat) : Int), .int .u8 ((n % 256 : Nat) : Int)] := by
  simp only [twoB, byteCells, byteV, List.map_cons, List.map_nil]
  rw [UInt8.toNat_ofNat_of_lt' (show n / 256 < UInt8.size by change n / 256 < 256; omega), UInt8.toNat_ofNat_of_lt' (show n % 256 < UInt8.size by change n % 256 < 256; omega)]
theorem two8 (a b : Int) : ∀ u ∈ [Value.int .u8 a, .int .u8 b], u.oneCell' = true := by
  intro u hu
  simp at hu
  rcases hu with rfl | rfl <;> rfl
theorem OwnB.more {w : World} {n0 n1 : Nat} {v : Value} {L : List UInt8} (h : OwnB w n0 v L) (hn : n1 ≤ n0) : OwnB w n1 v L :=
  ⟨h.1, h.2.elim .inl (fun ⟨g, cap, cur, hv, hb, r⟩ => .inr ⟨g, cap, cur, hv, Nat.le_trans hn hb, r⟩)⟩
/-- the bytes and two more -/
theorem OwnB.two {w : World} {n0 : Nat} {v : Value} {L : List UInt8} {a b : Nat} (h : w.ownsRow n0 5 1 v (L.length + 2) (byteCells L ++ [.int .u8 (a : Int), .int .u8 (b : Int)])) (ha : a < 256) (hb : b < 256) : OwnB w n0 v (L ++ [UInt8.ofNat a, UInt8.ofNat b]) := by
  unfold OwnB
  rw [List.length_append, byteCells_app]
  simp only [byteCells, byteV, List.map_cons, List.map_nil]
  rw [UInt8.toNat_ofNat_of_lt' (show a < UInt8.size from ha), UInt8.toNat_ofNat_of_lt' (show b < UInt8.size from hb)]
  exact h
theorem blkB_step (r : List (Int × Int)) {j : Nat} (h : j < r.length) : blkB (r.take (j + 1)) = blkB (r.take j) ++ [UInt8.ofNat (r[j].1 - 1).toNat, UInt8.ofNat r[j].2.toNat] := by
  simp only [blkB, List.take_succ_eq_append_getElem h, List.flatMap_append, List.flatMap_cons, List.flatMap_nil, List.append_nil]
theorem idxB_step (r : List (Int × Int)) {j : Nat} (h : j < r.length) : idxB (r.take (j + 1)) = idxB (r.take j) ++ (twoB (r[j].1 - 1).toNat ++ twoB r[j].2.toNat) := by
  simp only [idxB, List.take_succ_eq_append_getElem h, List.flatMap_append, List.flatMap_cons, List.flatMap_nil, List.append_nil]
theorem runs_some {l : List Int} (h : 0 < l.length) : 0 < (runsOf l).length := by
  rcases Nat.eq_zero_or_pos (runsOf l).length with e | e
  · have e2 := unruns_runsOf l
    rw [List.length_eq_zero_iff.1 e] at e2
    rw [← e2] at h
    exact absurd h (by simp [unruns])
  · exact e
def markCells : List Value := [.int .u8 86, .int .u8 84, .int .u8 49]

theorem own_first {w w3 : World} {n0 n : Nat} {v : Value} (h : n < 65536) (ho : w.ownsRow w3.heap.size 5 1 v (3 + 2) (markCells ++ [.int .u8 ((n / 256 : Nat) : Int), .int .u8 ((n % 256 : Nat) : Int)])) (hn : n0 ≤ w3.heap.size) : OwnB w n0 v (markB ++ twoB n) := by
  refine OwnB.more ?_ hn
  unfold OwnB
  rw [byteCells_app, byteCells_two h]
  exact ho

set_option maxRecDepth 100000 in
set_option maxHeartbeats 4000000 in
theorem refPack_any (A A' : Option Addr) (n c n' c' : Nat) (T : Tr) (w : World) (ht : TrAt w w.heap.size A n A' n' T) :
    Calls Tryd.prog 38 #[.agg #[.slice A n c, .slice A' n' c']] w (Freed w (.tuple #[.string ⟨(packedB T).1.toArray⟩, .int .i64 (packedB T).2])) := by
  obtain ⟨i0, hi, hz0, hz1, hz2⟩ := info_parts infoByte
  have hn' := ht.bl.len
  have ht1 := ht.alloc (Nat.le_refl _) (.cells #[.slice A n c, .slice A' n' c'] 27)
  have hb1 : Below w.heap.size w (w.alloc (.cells #[.slice A n c, .slice A' n' c'] 27)) := (Below.refl _ _).alloc (Nat.le_refl _) _
  have k1 := Blk.new w 27 #[.slice A n c, .slice A' n' c']
  have HT := hide ht1
  have HT0 := hide ht
  have HN := hide hn'
  clear ht1 ht hn'
  go_enter Tryd.func38, Tryd.ntmps38
  go_wp2_with fail
  refine (refRight_any A A' n c n' c' T _ HT.out).mono ?_
  rintro e w1 ⟨rfl, hb2⟩
  have k2 := k1.below hb2 k1.lt
  have hb3 := hb1.trans (hb2.mono (by simp))
  have d1 := k2.cell 0
  have d2 := k2.cell 1
  simp only [List.getElem?_toArray, List.getElem?_cons_zero, List.getElem?_cons_succ] at d1 d2
  have lt := k2.lt
  have hm := HT.out.bl.max
  clear k1 hb1 hb2
  by_cases hR : T.rightB = true
  · have hp : packedB T = if T.bl.length ≤ 300 then (packB T, 0) else ([], 60) := by simp [packedB, hR]
    have HP := hide hp
    have HR := hide hR
    clear hp
    by_cases h3 : T.bl.length ≤ 300
    · have h3' : n' ≤ 300 := by have := HN.out; omega
      have H3 := hide h3
      clear h3
      have kc := fun (w : World) (C : Array Value) (n c : Nat) => Lib.run_convert_bytes_const (P := Tryd.prog) w 45 5 C n c Tryd.underlying45 Tryd.underlying5
      go_wp2_with fail
      obtain ⟨w2, hw2⟩ : ∃ w2 : World, w2 = w1.alloc (.cells #[.int .u8 86, .int .u8 84, .int .u8 49] 5 (3, 4)) := ⟨_, rfl⟩
      have b2 : Below w1.heap.size w1 w2 := by rw [hw2]; exact (Below.refl _ _).alloc (Nat.le_refl _) _
      have h2s : w2.heap.size = w1.heap.size + 1 := by rw [hw2]; simp
      have kv : ∀ j u, markCells[j]? = some u → w2.cell? ((⟨w1.heap.size, 0, none⟩ : Addr).add j) = some u := by
        rw [hw2]
        exact World.news_of_block (cs := #[.int .u8 86, .int .u8 84, .int .u8 49]) (t := 5) (fr := (3, 4)) (heap_alloc_new w1 _)
      rw [← hw2]
      clear hw2 kc
      have h0n : n' < 65536 := by omega
      refine (two_any n' w2 h0n).mono ?_
      rintro e w3 ⟨rfl, hw3⟩
      have b3 : Below w2.heap.size w2 w3 := by rw [hw3]; exact (Below.refl _ _).alloc (Nat.le_refl _) _
      have hb03 := (hb3.trans (b2.mono hb3.size)).trans (b3.mono (by have := hb3.size; omega))
      have kn : ∀ j u, [Value.int .u8 ((n' / 256 : Nat) : Int), .int .u8 ((n' % 256 : Nat) : Int)][j]? = some u → w3.cell? ((⟨w2.heap.size, 0, none⟩ : Addr).add j) = some u := by
        rw [hw3]
        exact World.news_of_block (cs := #[.int .u8 ((n' / 256 : Nat) : Int), .int .u8 ((n' % 256 : Nat) : Int)]) (t := 5) (fr := (0, 0)) (heap_alloc_new w2 _)
      have kv3 : ∀ b, some (⟨w1.heap.size, 0, none⟩ : Addr) = some b → ∀ j u, markCells[j]? = some u → w3.cell? (b.add j) = some u := fun b e j u hu => by
        cases e
        exact (b3.cell (by rw [show ((⟨w1.heap.size, 0, none⟩ : Addr).add j).block = w1.heap.size by unfold Addr.add; split <;> rfl]; omega)).trans (kv j u hu)
      have KB := hide ((k2.below b2 lt).below b3 (by omega))
      clear kv b2 b3 hw3 k2 d1 d2 hb3 h2s
      have KV := hide kv3
      have KN := hide kn
      clear kv3 kn
      go_wp2_with (at_builtin; go_must (refine wpList_append_grows w3 rfl (.tmp 18) (.tmp 22) 45 rfl 5 i0 (.int .u8 0) 1 1 Tryd.underlying45 hi hz0 hz1 hz2 rfl (by decide) (some ⟨w1.heap.size, 0, none⟩) 3 3 markCells rfl (fun h => by cases h) rfl KV.out ⟨w2.heap.size, 0, none⟩ 2 2 [.int .u8 ((n' / 256 : Nat) : Int), .int .u8 ((n' % 256 : Nat) : Int)] rfl rfl KN.out (two8 _ _) (by decide) (by decide) (by decide) ?_); intro v1 w4 hown hgrow; have HOWN := hide hown; have HGR := hide hgrow; clear hown hgrow)
      have o4 := own_first (n0 := w.heap.size) h0n HOWN.out hb03.size
      have K4 := KB.out.grown HGR.out (by simp)
      have B4 : Below w.heap.size w w4 := hb03.grown HGR.out hb03.size (fun k e => by cases e)
      generalize hhd : markB ++ twoB n' = hd at o4
      have HHD := hide hhd
      have hhdl : hd.length = 5 := by rw [← hhd]; rfl
      clear hhd HOWN HGR KV KN KB hb03
      go_loopw [4, 5] (fun v i wr => ∃ (k : Nat), k ≤ n' ∧ i = .int .i64 k ∧ OwnB wr w.heap.size v (hd ++ blksB (T.bl.take k)) ∧ Blk wr w.heap.size 27 #[.slice A n c, .slice A' n' c'] ∧ Below w.heap.size w wr) (fun _ i _ => n' - (intOf i).toNat)
      case atStart => exact ⟨0, Nat.zero_le _, rfl, by simpa [blksB] using o4, K4, B4⟩
      case round =>
        obtain ⟨k, hk, rfl, ho, kB, hbw⟩ := hrel
        have HO := hide ho
        have KB := hide kB
        have d1 := kB.cell 0
        have d2 := kB.cell 1
        simp only [List.getElem?_toArray, List.getElem?_cons_zero, List.getElem?_cons_succ] at d1 d2
        have hsz := hbw.size
        have htr := HT0.out.below hbw
        clear ho kB
        by_cases hlt' : k < n'
        · have hlt : k < T.bl.length := by have := HN.out; omega
          obtain ⟨b, o, A2, n2, c2, rfl, hbl, c0, hrow⟩ := htr.bl.row hlt
          have hx := right_block HR.out hlt
          have HXT := hide (blksB_take T.bl hlt)
          have hx256 := blockB_len hx
          have hrp := block_runs hx
          have hrl := runsOf_len T.bl[k]
          have hr0 := runs_some (l := T.bl[k]) (by omega)
          have hbk : (blksB (T.bl.take k)).length ≤ 512 * k := by
            have := blksB_len (T.bl.take k) (fun b hb => by
              obtain ⟨i, hi, rfl⟩ := List.getElem_of_mem (List.mem_of_mem_take hb)
              rw [blockB_len (right_block HR.out hi)]
              exact Nat.le_refl _)
            rw [List.length_take] at this
            omega
          have hrun := refRuns_own A2 n2 c2 T.bl[k] wr (hrow.more hsz) (by have := hrow.int_len; omega)
          generalize T.bl[k] = x at *
          rw [hx256] at hrl
          clear htr hrow hx hx256 hlt
          generalize runsOf x = r at *
          have HRP := hide hrp
          have hLl : (hd ++ blksB (T.bl.take k)).length ≤ 200000 := by rw [List.length_append]; have := H3.out; omega
          clear hrp hbk
          generalize hLg : hd ++ blksB (T.bl.take k) = L at *
          have HLG := hide hLg
          clear hLg
          go_wp2_with fail
          refine hrun.mono ?_
          rintro e wS ⟨vr, rfl, hor, hbS⟩
          have o5 := HO.out.kept (grown_of_below hbS none) (by cases u4.ownBlock <;> simp)
          have K5 := KB.out.below hbS KB.out.lt
          have B5 := hbw.trans (hbS.mono hsz)
          obtain ⟨g, c3, rfl⟩ := own_some' hor hr0
          have h3c : r.length ≤ 256 := hrl
          clear hrun HO KB d1 d2 c0 hbS hbw hr0
          have HOR := hide hor
          clear hor
          generalize wr.heap.size = nr at *
          go_wp2_with fail
          go_loopw [4, 7] (fun v i wr => ∃ (j : Nat), j ≤ r.length ∧ i = .int .i64 j ∧ OwnB wr w.heap.size v (L ++ blkB (r.take j)) ∧ wr.ownsRow nr 53 2 (.slice (some ⟨g, 0, none⟩) r.length c3) r.length (runCells r) ∧ Blk wr w.heap.size 27 #[.slice A n c, .slice (some ⟨b, o, none⟩) n' c'] ∧ Below w.heap.size w wr) (fun _ i _ => r.length - (intOf i).toNat)
          case atStart => exact ⟨0, Nat.zero_le _, rfl, by simpa [blkB, OwnB] using o5, HOR.out, K5, B5⟩
          case round =>
            obtain ⟨j, hj, rfl, ho, hor, kB, hbw⟩ := hrel
            clear o5 K5 B5 HOR
            by_cases hjl : j < r.length
            · have hp := HRP.out r[j] (List.getElem_mem hjl)
              have hst := blkB_step r hjl
              obtain ⟨q0, q1⟩ := runCells_get r j hjl
              have hadd : ∀ i, (⟨g, 0, none⟩ : Addr).add i = ⟨g, i, none⟩ := fun i => by unfold Addr.add; split <;> simp_all
              have c0 := hor.cells (g := g) rfl _ _ q0
              have c1 := hor.cells (g := g) rfl _ _ q1
              rw [hadd] at c0 c1
              have hgl := (hor.lt g rfl).2
              clear hadd q0 q1
              have hLj : (L ++ blkB (r.take j)).length ≤ 300000 := by rw [List.length_append, blkB_len, List.length_take]; omega
              generalize r[j] = p at *
              obtain ⟨x, y⟩ := p
              simp only at hp hst c0 c1
              obtain ⟨a, rfl⟩ : ∃ a : Nat, x = (a : Int) + 1 := ⟨(x - 1).toNat, by omega⟩
              obtain ⟨d, rfl⟩ : ∃ d : Nat, y = (d : Int) := ⟨y.toNat, by omega⟩
              have ha : a < 256 := by omega
              have hd : d < 256 := by omega
              rw [show ((a : Int) + 1 - 1).toNat = a by omega, Int.toNat_natCast] at hst
              have HST := hide hst
              have HO := hide ho
              have HOR := hide hor
              have HKB := hide kB
              clear hst ho hor kB hp
              have hsq := hbw.size
              go_wp2_with fail
              refine wp_region_headsT (fun w' => w'.cell? ⟨g, j * 2, none⟩ = some (.int .i64 ((a : Int) + 1)) ∧ w'.cell? ⟨g, j * 2 + 1, none⟩ = some (.int .i64 d)) 14 1 (by kernel_rfl) (by kernel_rfl) (fun _ _ d _ _ h => by cases d <;> exact h) ⟨c0, c1⟩ ?_
              simp only [List.take_succ_cons, List.take_zero, List.drop_succ_cons, List.drop_zero]
              refine heads_step (v := ?_) rfl (fun W' hS' => ?_) ?_; rotate_left; (focus (rfl)); go_frame
              refine heads_step (v := .slice (some ⟨g, 0, none⟩) r.length c3) rfl (fun W' hS' => by rfl) ?_
              go_frame
              refine heads_step (v := .int .i64 j) rfl (fun W' hS' => by rfl) ?_
              go_frame
              refine heads_step (v := .pointer (some ⟨g, j * 2, none⟩)) rfl (fun W' hS' => by go_simp; try (intro hh; exact absurd hh (by omega))) ?_
              go_frame
              refine heads_step (v := .pointer (some ⟨g, j * 2, none⟩)) rfl (fun W' hS' => by go_simp; try (intro hh; exact absurd hh (by omega))) ?_
              go_frame
              refine heads_step (v := .int .i64 ((a : Int) + 1)) rfl (fun W' hS' => by obtain ⟨f1, f2⟩ := hS'; go_simp) ?_
              go_frame
              refine heads_step (v := .int .i64 a) rfl (fun W' hS' => by go_simp; try (exact IntWalk.i64_in _ (by omega))) ?_
              go_frame
              refine heads_step (v := .int .u8 a) rfl (fun W' hS' => by go_simp; try (exact IntWalk.u8_in _ (by omega))) ?_
              go_frame
              refine heads_step (v := .slice (some ⟨g, 0, none⟩) r.length c3) rfl (fun W' hS' => by rfl) ?_
              go_frame
              refine heads_step (v := .int .i64 j) rfl (fun W' hS' => by rfl) ?_
              go_frame
              refine heads_step (v := .pointer (some ⟨g, j * 2, none⟩)) rfl (fun W' hS' => by go_simp; try (intro hh; exact absurd hh (by omega))) ?_
              go_frame
              refine heads_step (v := .pointer (some ⟨g, j * 2 + 1, none⟩)) rfl (fun W' hS' => by go_simp; try (intro hh; exact absurd hh (by omega))) ?_
              go_frame
              refine heads_step (v := .int .i64 d) rfl (fun W' hS' => by obtain ⟨f1, f2⟩ := hS'; go_simp) ?_
              go_frame
              refine heads_step (v := .int .u8 d) rfl (fun W' hS' => by go_simp; try (exact IntWalk.u8_in _ (by omega))) ?_
              go_frame
              refine heads_nil ?_
              obtain ⟨W, hW⟩ : ∃ W : World, W = wr.drew := ⟨_, rfl⟩
              have bW : Below w.heap.size wr W := by rw [hW]; exact below_drewN (Below.refl _ _) 1
              have HOW : Hid (OwnB W w.heap.size u4 (L ++ blkB (r.take j))) := hide (by rw [hW]; exact HO.out)
              have HRW : Hid (W.ownsRow nr 53 2 (.slice (some ⟨g, 0, none⟩) r.length c3) r.length (runCells r)) := hide (by rw [hW]; exact HOR.out)
              have HKW : Hid (Blk W w.heap.size 27 #[.slice A n c, .slice (some ⟨b, o, none⟩) n' c']) := hide (by rw [hW]; exact HKB.out)
              have d0 : W.cell? ⟨g, j * 2, none⟩ = some (.int .i64 ((a : Int) + 1)) := by rw [hW]; exact c0
              have d1 : W.cell? ⟨g, j * 2 + 1, none⟩ = some (.int .i64 d) := by rw [hW]; exact c1
              have hgW : g < W.heap.size := by rw [hW]; exact hgl
              rw [← hW]
              clear hW HO HOR HKB c0 c1 hgl
              have hsW := bW.size
              have bX : Below W.heap.size W (W.alloc (.cells #[.int .u8 a, .int .u8 d] 5)) := (Below.refl _ _).alloc (Nat.le_refl _) _
              have HN := hide (show ∀ j' u, [Value.int .u8 (a : Int), .int .u8 (d : Int)][j']? = some u → (W.alloc (.cells #[.int .u8 (a : Int), .int .u8 (d : Int)] 5)).cell? ((⟨W.heap.size, 0, none⟩ : Addr).add j') = some u from World.news_of_block (cs := #[.int .u8 (a : Int), .int .u8 (d : Int)]) (t := 5) (fr := (0, 0)) (heap_alloc_new W _))
              refine mid_step rfl (fun K hK1 => ?_)
              go_simp
              refine hK1 _ _ ⟨⟨(bX.cell (p := ⟨g, j * 2, none⟩) hgW).trans d0, (bX.cell (p := ⟨g, j * 2 + 1, none⟩) hgW).trans d1⟩, ?_⟩
              refine mid_nil ?_
              clear bX d0 d1
              go_wp2_with (at_builtin; go_must (refine wpList_append_own_at _ rfl (.tmp 43) (.tmp 57) 45 rfl w.heap.size 5 i0 _ 1 1 Tryd.underlying45 hi hz0 hz1 hz2 rfl (by decide) u4 (L ++ blkB (r.take j)).length (byteCells (L ++ blkB (r.take j))) rfl (HOW.out.alloc _) ⟨W.heap.size, 0, none⟩ 2 2 [.int .u8 (a : Int), .int .u8 (d : Int)] rfl rfl HN.out (two8 _ _) (by unfold maxLen; omega) (by omega) (by simp; omega) ?_); intro v' w2 hown2 hgrow2 _ _; have HOWN := hide hown2; have HGR := hide hgrow2; clear hown2 hgrow2)
              go_roundw
              case rel =>
                refine ⟨j + 1, by omega, by simp, ?_, ?_, ?_, ?_⟩
                · rw [HST.out, ← List.append_assoc]
                  exact OwnB.two HOWN.out ha hd
                · exact World.ownsRow.kept (HRW.out.alloc (.cells #[.int .u8 (a : Int), .int .u8 (d : Int)] 5)) HGR.out (own_apart (HRW.out.alloc (.cells #[.int .u8 (a : Int), .int .u8 (d : Int)] 5)) (World.ownsRow.alloc HOW.out (.cells #[.int .u8 (a : Int), .int .u8 (d : Int)] 5)) (by decide))
                · exact (HKW.out.alloc (.cells #[.int .u8 (a : Int), .int .u8 (d : Int)] 5)).grown HGR.out (own_ne (World.ownsRow.alloc HOW.out (.cells #[.int .u8 (a : Int), .int .u8 (d : Int)] 5)) (HKW.out.alloc (.cells #[.int .u8 (a : Int), .int .u8 (d : Int)] 5)) (by decide))
                · exact (hbw.trans bW).trans ((((Below.refl w.heap.size W).alloc (by omega) (.cells #[.int .u8 (a : Int), .int .u8 (d : Int)] 5)).grown HGR.out (by simp; omega) (fun k' e => (HOW.out.lt k' e).1)))
              case measure => simp [intOf]; omega
            · obtain rfl : j = r.length := by omega
              rw [List.take_length] at ho
              have HO := hide ho
              have HKB := hide kB
              clear ho kB hor
              go_wp2_with fail
              go_roundw
              case rel =>
                refine ⟨k + 1, by omega, by simp, ?_, HKB.out, hbw⟩
                rw [HXT.out, ← List.append_assoc, HLG.out]
                exact HO.out
              case measure => simp [intOf]; omega
        · obtain rfl : k = n' := by omega
          have ho := HO.out
          rw [← HN.out, List.take_length] at ho
          clear HO
          have hrun := refRuns_own A n c T.ix wr (htr.ix.more hsz) (by have := htr.ix.int_len; have := right_ix HR.out; omega)
          have hrp := index_runs HR.out H3.out
          have hrl : (runsOf T.ix).length ≤ 4352 := by have := runsOf_len T.ix; have := right_ix HR.out; omega
          have hr0 := runs_some (l := T.ix) (by have := right_ix HR.out; omega)
          have hbk : (blksB T.bl).length ≤ 512 * T.bl.length := blksB_len T.bl (fun b hb => by
            obtain ⟨i, hi, rfl⟩ := List.getElem_of_mem hb
            rw [blockB_len (right_block HR.out hi)]
            exact Nat.le_refl _)
          have hLl : (hd ++ blksB T.bl).length ≤ 200000 := by rw [List.length_append]; have := H3.out; omega
          have HBD := hide (show bodyB T = (hd ++ blksB T.bl) ++ idxB (runsOf T.ix) by unfold bodyB; rw [HHD.out.symm, HN.out])
          generalize runsOf T.ix = r at *
          generalize hd ++ blksB T.bl = L at *
          have HRP := hide hrp
          have HO := hide ho
          clear hrp ho hbk htr
          go_wp2_with fail
          refine hrun.mono ?_
          rintro e wS ⟨vr, rfl, hor, hbS⟩
          have o5 := HO.out.kept (grown_of_below hbS none) (by cases u4.ownBlock <;> simp)
          have B5 := hbw.trans (hbS.mono hsz)
          obtain ⟨g, c3, rfl⟩ := own_some' hor hr0
          clear hrun HO KB d1 d2 hbS hbw
          have HOR := hide hor
          clear hor
          generalize wr.heap.size = nr at *
          go_wp2_with fail
          go_loopw [4, 9] (fun v i wr => ∃ (j : Nat), j ≤ r.length ∧ i = .int .i64 j ∧ OwnB wr w.heap.size v (L ++ idxB (r.take j)) ∧ wr.ownsRow nr 53 2 (.slice (some ⟨g, 0, none⟩) r.length c3) r.length (runCells r) ∧ Below w.heap.size w wr) (fun _ i _ => r.length - (intOf i).toNat)
          case atStart => exact ⟨0, Nat.zero_le _, rfl, by simpa [idxB, OwnB] using o5, HOR.out, B5⟩
          case round =>
            obtain ⟨j, hj, rfl, ho, hor, hbw⟩ := hrel
            clear o5 B5 HOR
            by_cases hjl : j < r.length
            · have hp := HRP.out r[j] (List.getElem_mem hjl)
              have hst := idxB_step r hjl
              obtain ⟨q0, q1⟩ := runCells_get r j hjl
              have hadd : ∀ i, (⟨g, 0, none⟩ : Addr).add i = ⟨g, i, none⟩ := fun i => by unfold Addr.add; split <;> simp_all
              have c0 := hor.cells (g := g) rfl _ _ q0
              have c1 := hor.cells (g := g) rfl _ _ q1
              rw [hadd] at c0 c1
              have hgl := (hor.lt g rfl).2
              clear hadd q0 q1
              have hLj : (L ++ idxB (r.take j)).length ≤ 300000 := by rw [List.length_append, idxB_len, List.length_take]; omega
              generalize r[j] = p at *
              obtain ⟨x, y⟩ := p
              simp only at hp hst c0 c1
              obtain ⟨a, rfl⟩ : ∃ a : Nat, x = (a : Int) + 1 := ⟨(x - 1).toNat, by omega⟩
              obtain ⟨d, rfl⟩ : ∃ d : Nat, y = (d : Int) := ⟨y.toNat, by omega⟩
              have ha : a < 65536 := by omega
              have hd' : d < 65536 := by omega
              rw [show ((a : Int) + 1 - 1).toNat = a by omega, Int.toNat_natCast] at hst
              have hst2 : L ++ idxB (r.take (j + 1)) = (L ++ idxB (r.take j)) ++ (twoB a ++ twoB d) := by rw [hst, List.append_assoc]
              generalize L ++ idxB (r.take j) = M0 at *
              have HST := hide hst2
              have HO := hide ho
              have HOR := hide hor
              clear hst hst2 ho hor hp
              have hsq := hbw.size
              go_wp2_with fail
              refine wp_region_mix (fun w' => w'.cell? ⟨g, j * 2, none⟩ = some (.int .i64 ((a : Int) + 1)) ∧ w'.cell? ⟨g, j * 2 + 1, none⟩ = some (.int .i64 d)) (fun k => decide (k < 14)) [(true, 0), (true, 1), (true, 2), (true, 3), (true, 4), (true, 5), (true, 6), (true, 9), (true, 10), (true, 11), (true, 12), (true, 13), (false, 7), (false, 8), (false, 14), (false, 15), (false, 16)] (by kernel_rfl) (by kernel_rfl) (fun _ _ d _ _ h => by cases d <;> exact h) ?_
              obtain ⟨W, hW⟩ : ∃ W : World, W = wr.drew := ⟨_, rfl⟩
              have bW : Below w.heap.size wr W := by rw [hW]; exact below_drewN (Below.refl _ _) 1
              have HOW : Hid (OwnB W w.heap.size u4 M0) := hide (by rw [hW]; exact HO.out)
              have HRW : Hid (W.ownsRow nr 53 2 (.slice (some ⟨g, 0, none⟩) r.length c3) r.length (runCells r)) := hide (by rw [hW]; exact HOR.out)
              have d0 : W.cell? ⟨g, j * 2, none⟩ = some (.int .i64 ((a : Int) + 1)) := by rw [hW]; exact c0
              have d1 : W.cell? ⟨g, j * 2 + 1, none⟩ = some (.int .i64 d) := by rw [hW]; exact c1
              have hgW : g < W.heap.size := by rw [hW]; exact hgl
              have bW2 := hbw.trans bW
              rw [← hW]
              clear hW HO HOR c0 c1 hgl bW hbw
              have HS := hide (And.intro d0 d1)
              refine mix_head (v := ?_) HS.out rfl rfl (fun W' hS' => ?_) ?_; rotate_left; (focus (rfl)); go_frame
              refine mix_head (v := .slice (some ⟨g, 0, none⟩) r.length c3) HS.out rfl rfl (fun W' hS' => by rfl) ?_
              go_frame
              refine mix_head (v := .int .i64 j) HS.out rfl rfl (fun W' hS' => by rfl) ?_
              go_frame
              refine mix_head (v := .pointer (some ⟨g, j * 2, none⟩)) HS.out rfl rfl (fun W' hS' => by go_simp; try (intro hh; exact absurd hh (by omega))) ?_
              go_frame
              refine mix_head (v := .pointer (some ⟨g, j * 2, none⟩)) HS.out rfl rfl (fun W' hS' => by go_simp; try (intro hh; exact absurd hh (by omega))) ?_
              go_frame
              refine mix_head (v := .int .i64 ((a : Int) + 1)) HS.out rfl rfl (fun W' hS' => by obtain ⟨f1, f2⟩ := hS'; go_simp) ?_
              go_frame
              refine mix_head (v := .int .i64 a) HS.out rfl rfl (fun W' hS' => by go_simp; try (exact IntWalk.i64_in _ (by omega))) ?_
              go_frame
              refine mix_head (v := .slice (some ⟨g, 0, none⟩) r.length c3) HS.out rfl rfl (fun W' hS' => by rfl) ?_
              go_frame
              refine mix_head (v := .int .i64 j) HS.out rfl rfl (fun W' hS' => by rfl) ?_
              go_frame
              refine mix_head (v := .pointer (some ⟨g, j * 2, none⟩)) HS.out rfl rfl (fun W' hS' => by go_simp; try (intro hh; exact absurd hh (by omega))) ?_
              go_frame
              refine mix_head (v := .pointer (some ⟨g, j * 2 + 1, none⟩)) HS.out rfl rfl (fun W' hS' => by go_simp; try (intro hh; exact absurd hh (by omega))) ?_
              go_frame
              refine mix_head (v := .int .i64 d) HS.out rfl rfl (fun W' hS' => by obtain ⟨f1, f2⟩ := hS'; go_simp) ?_
              go_frame
              have hsW := bW2.size
              refine mix_step rfl rfl (fun K hK1 => ?_)
              go_simp
              refine (two_any a W ha).mono ?_
              rintro e W1 ⟨rfl, hW1⟩
              have bX : Below W.heap.size W W1 := by rw [hW1]; exact (Below.refl _ _).alloc (Nat.le_refl _) _
              have HN : Hid (∀ j' u, [Value.int .u8 ((a / 256 : Nat) : Int), .int .u8 ((a % 256 : Nat) : Int)][j']? = some u → W1.cell? ((⟨W.heap.size, 0, none⟩ : Addr).add j') = some u) := hide (by rw [hW1]; exact World.news_of_block (cs := #[.int .u8 ((a / 256 : Nat) : Int), .int .u8 ((a % 256 : Nat) : Int)]) (t := 5) (fr := (0, 0)) (heap_alloc_new W _))
              have HOW1 : Hid (OwnB W1 w.heap.size u4 M0) := hide (by rw [hW1]; exact HOW.out.alloc _)
              have HRW1 : Hid (W1.ownsRow nr 53 2 (.slice (some ⟨g, 0, none⟩) r.length c3) r.length (runCells r)) := hide (by rw [hW1]; exact HRW.out.alloc _)
              have d01 := (bX.cell (p := ⟨g, j * 2, none⟩) hgW).trans d0
              have d11 := (bX.cell (p := ⟨g, j * 2 + 1, none⟩) hgW).trans d1
              have bW3 := bW2.trans (bX.mono hsW)
              have hs1 := bW3.size
              have hgW1 := Nat.lt_of_lt_of_le hgW bX.size
              clear hW1 bX HOW HRW d0 d1 hgW bW2
              refine hK1 _ _ ⟨fun _ => ⟨d01, d11⟩, ?_⟩
              refine mix_step rfl rfl (fun K hK2 => ?_)
              refine wp_append_lies _ (.tmp 68) (.tmp 75) 45 rfl w.heap.size 5 i0 (.int .u8 0) 1 1 Tryd.underlying45 hi hz0 hz1 hz2 rfl (by decide) u4 M0.length (byteCells M0) rfl HOW1.out ⟨W.heap.size, 0, none⟩ 2 2 [.int .u8 ((a / 256 : Nat) : Int), .int .u8 ((a % 256 : Nat) : Int)] rfl rfl HN.out (two8 _ _) (by omega) (by unfold maxLen; omega) (by omega) (by omega) _ rfl ?_
              intro g2 cap2 W2 hown hgrow _ _
              have ne2 := own_apart HRW1.out HOW1.out (by decide)
              have HR2 := hide (HRW1.out.kept hgrow ne2)
              have HO2 : Hid (OwnB W2 w.heap.size (.slice (some ⟨g2, 0, none⟩) (M0.length + 2) cap2) (M0 ++ twoB a)) := hide (OwnB.two hown (by omega) (by omega))
              have ne3 : some g ≠ u4.ownBlock := by
                rcases ne2 with h | h
                · exact absurd h (by simp [Value.ownBlock])
                · exact h
              have d02 := hgrow.cell d01 ne3
              have d12 := hgrow.cell d11 ne3
              have B2 := bW3.grown hgrow (by omega) (fun k' e => (HOW1.out.lt k' e).1)
              have hs2 := B2.size
              clear hown hgrow d01 d11 ne2 ne3 HOW1 HRW1 HN bW3
              refine hK2 _ _ ⟨fun _ => ⟨d02, d12⟩, ?_⟩
              refine mix_step rfl rfl (fun K hK3 => ?_)
              go_simp
              refine (two_any d W2 hd').mono ?_
              rintro e W3 ⟨rfl, hW3⟩
              have HN : Hid (∀ j' u, [Value.int .u8 ((d / 256 : Nat) : Int), .int .u8 ((d % 256 : Nat) : Int)][j']? = some u → W3.cell? ((⟨W2.heap.size, 0, none⟩ : Addr).add j') = some u) := hide (by rw [hW3]; exact World.news_of_block (cs := #[.int .u8 ((d / 256 : Nat) : Int), .int .u8 ((d % 256 : Nat) : Int)]) (t := 5) (fr := (0, 0)) (heap_alloc_new W2 _))
              have bX : Below W2.heap.size W2 W3 := by rw [hW3]; exact (Below.refl _ _).alloc (Nat.le_refl _) _
              have hll : M0.length + 2 = (M0 ++ twoB a).length := by rw [List.length_append (bs := twoB a)]; rfl
              rw [hll] at HO2 ⊢
              have hL2 : (M0 ++ twoB a).length ≤ 300002 := by omega
              have HE := hide (show L ++ idxB (r.take (j + 1)) = (M0 ++ twoB a) ++ twoB d by rw [HST.out, List.append_assoc])
              generalize M0 ++ twoB a = M at *
              have HOW3 : Hid (OwnB W3 w.heap.size (.slice (some ⟨g2, 0, none⟩) M.length cap2) M) := hide (by rw [hW3]; exact HO2.out.alloc _)
              have HRW3 : Hid (W3.ownsRow nr 53 2 (.slice (some ⟨g, 0, none⟩) r.length c3) r.length (runCells r)) := hide (by rw [hW3]; exact HR2.out.alloc _)
              have B3 := B2.trans (bX.mono hs2)
              have hs3 := B3.size
              clear hW3 bX B2 HO2 HR2 d02 d12 hll
              refine hK3 _ _ ⟨fun h => (by cases h), ?_⟩
              refine mix_step rfl rfl (fun K hK4 => ?_)
              refine wp_append_lies _ (.tmp 76) (.tmp 82) 45 rfl w.heap.size 5 i0 (.int .u8 0) 1 1 Tryd.underlying45 hi hz0 hz1 hz2 rfl (by decide) (.slice (some ⟨g2, 0, none⟩) M.length cap2) M.length (byteCells M) rfl HOW3.out ⟨W2.heap.size, 0, none⟩ 2 2 [.int .u8 ((d / 256 : Nat) : Int), .int .u8 ((d % 256 : Nat) : Int)] rfl rfl HN.out (two8 _ _) (by omega) (by unfold maxLen; omega) (by omega) (by omega) _ rfl ?_
              intro g4 cap4 W4 hown hgrow _ _
              have HR4 := hide (HRW3.out.kept hgrow (own_apart HRW3.out HOW3.out (by decide)))
              have HO4 : Hid (OwnB W4 w.heap.size (.slice (some ⟨g4, 0, none⟩) (M.length + 2) cap4) (M ++ twoB d)) := hide (OwnB.two hown (by omega) (by omega))
              have B4 := B3.grown hgrow (by omega) (fun k' e => (HOW3.out.lt k' e).1)
              clear hown hgrow HOW3 HRW3 HN B3
              refine hK4 _ _ ⟨fun h => (by cases h), ?_⟩
              refine mix_step rfl rfl (fun K hK5 => ?_)
              go_simp
              refine hK5 _ _ ⟨fun h => (by cases h), ?_⟩
              refine mix_nil ?_
              go_wp2
              go_roundw
              case rel =>
                refine ⟨j + 1, by omega, by simp, ?_, HR4.out, B4⟩
                rw [HE.out]
                exact HO4.out
              case measure => simp [intOf]; omega
            · obtain rfl : j = r.length := by omega
              rw [List.take_length] at ho
              have hLl2 : (L ++ idxB r).length ≤ 300000 := by rw [List.length_append, idxB_len]; omega
              have hL0 : 0 < (L ++ idxB r).length := by have := idxB_len r; rw [List.length_append]; omega
              rw [← HBD.out] at ho hLl2 hL0
              obtain ⟨g3, c4, rfl⟩ := own_some' ho hL0
              have hcell := own_bytes ho
              have hcv := run_convert_bytes_back (P := Tryd.prog) wr 45 9 5 ⟨g3, 0, none⟩ c4 (bodyB T) Tryd.underlying45 Tryd.underlying5 Tryd.underlying9 hcell
              have HO := hide ho
              clear ho hor hcell HBD
              have HPK := hide (show packB T = bodyB T ++ twoB (sumB (bodyB T) % 65536) from rfl)
              generalize bodyB T = bod at *
              have hsq := hbw.size
              have hsz2 : (⟨bod.toArray⟩ : ByteArray).size ≤ 1000000 := by show bod.toArray.size ≤ _; simp; omega
              go_wp2_with fail
              refine (refSum_any ⟨bod.toArray⟩ wr hsz2).mono ?_
              rintro e _ ⟨rfl, rfl⟩
              clear hcv
              rw [show (sumB (⟨bod.toArray⟩ : ByteArray).data.toList % 65536) = sumB bod % 65536 by simp]
              have hm6 : sumB bod % 65536 < 65536 := Nat.mod_lt _ (by omega)
              generalize sumB bod % 65536 = m at *
              go_wp2_with fail
              refine (two_any m wr hm6).mono ?_
              rintro e W1 ⟨rfl, hW1⟩
              have HN : Hid (∀ j' u, [Value.int .u8 ((m / 256 : Nat) : Int), .int .u8 ((m % 256 : Nat) : Int)][j']? = some u → W1.cell? ((⟨wr.heap.size, 0, none⟩ : Addr).add j') = some u) := hide (by rw [hW1]; exact World.news_of_block (cs := #[.int .u8 ((m / 256 : Nat) : Int), .int .u8 ((m % 256 : Nat) : Int)]) (t := 5) (fr := (0, 0)) (heap_alloc_new wr _))
              have HOW1 : Hid (OwnB W1 w.heap.size (.slice (some ⟨g3, 0, none⟩) bod.length c4) bod) := hide (by rw [hW1]; exact HO.out.alloc _)
              have bW3 : Below w.heap.size w W1 := hbw.trans (by rw [hW1]; exact (Below.refl _ _).alloc hsq _)
              have hs1 := bW3.size
              clear hW1 HO hbw
              go_wp2_with (at_builtin; go_must (refine wpList_append_lies _ rfl (.tmp 84) (.tmp 88) 45 rfl w.heap.size 5 i0 (.int .u8 0) 1 1 Tryd.underlying45 hi hz0 hz1 hz2 rfl (by decide) (.slice (some ⟨g3, 0, none⟩) bod.length c4) bod.length (byteCells bod) rfl HOW1.out ⟨wr.heap.size, 0, none⟩ 2 2 [.int .u8 ((m / 256 : Nat) : Int), .int .u8 ((m % 256 : Nat) : Int)] rfl rfl HN.out (two8 _ _) (by omega) (by unfold maxLen; omega) (by omega) (by omega) _ rfl ?_); intro g5 cap5 W2 hown2 hgrow2 _ _; have HOWN := hide hown2; have HGR := hide hgrow2; clear hown2 hgrow2)
              have hO5 : OwnB W2 w.heap.size (.slice (some ⟨g5, 0, none⟩) (bod.length + 2) cap5) (bod ++ twoB m) := OwnB.two HOWN.out (by omega) (by omega)
              have B6 := bW3.grown HGR.out (by omega) (fun k' e => (HOW1.out.lt k' e).1)
              have hll : bod.length + 2 = (bod ++ twoB m).length := by rw [List.length_append (bs := twoB m)]; rfl
              rw [hll] at hO5 ⊢
              have hcv := run_convert_bytes_back (P := Tryd.prog) W2 45 9 5 ⟨g5, 0, none⟩ cap5 (bod ++ twoB m) Tryd.underlying45 Tryd.underlying5 Tryd.underlying9 (own_bytes hO5)
              clear hll hO5 HOWN HGR HOW1 HN
              generalize bod ++ twoB m = all at *
              go_wp2_with fail
              rw [hcv]
              go_wp2
              go_ret2
              refine ⟨?_, B6⟩
              rw [HP.out, if_pos H3.out, HPK.out]
              rfl
    · have h3' : ¬ n' ≤ 300 := by have := HN.out; omega
      have H3 := hide h3
      clear h3
      go_wp2_with fail
      all_goals (try go_quiet (fail))
      all_goals go_wp2
      all_goals go_ret2
      refine ⟨?_, hb3⟩
      rw [HP.out, if_neg H3.out]
      rfl
  · have hp : packedB T = ([], 50) := by simp [packedB, hR]
    have HP := hide hp
    have hRf : T.rightB = false := by simpa using hR
    clear hp hR
    rw [hRf]
    go_wp2_with fail
    all_goals go_ret2
    refine ⟨?_, hb3⟩
    rw [HP.out]
    rfl
end Go.Proofs.YtibndkkbmgbogaaDoor
