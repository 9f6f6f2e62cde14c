/- The map of a trie: the program's trie.Ranges. Conditions: the trie's slices read as lists; the package's two error variables hold two different errors. -/
import Derived.Test.YtibndkkbmgbogaaDoorProg
import Derived.Test.YtibndkkbmgbogaaDoorBase
import Derived.Test.YtibndkkbmgbogaaDoorRight
import Derived.Test.YtibndkkbmgbogaaDoorValue
import Derived.Test.YtibndkkbmgbogaaDoorTold
import Derived.Test.YtibndkkbmgbogaaDoorClone
import Derived.Test.YtibndkkbmgbogaaDoorRegion
import Derived.BigQuiet
import Derived.Deep.QuietTactic
import Derived.Deep.Cut
import Derived.Maps.AppendAt
import Derived.Laws.OwnMore
import Derived.OwnWalk
import Derived.WalkSpells
namespace Go.Proofs.YtibndkkbmgbogaaDoor
open Go Go.RowKit

/-- one number more -/
def rgStep (out : List Rg) (p v : Int) : List Rg :=
  match out.getLast? with
  | some y => if p = y.to + 1 ∧ v = y.vl then out.set (out.length - 1) ⟨y.fr, p, y.vl⟩ else if 0 < v then out ++ [⟨p, p, v⟩] else out
  | none => if 0 < v then out ++ [⟨p, p, v⟩] else out
/-- the first k numbers of a row -/
def colsTo (b : List Int) (p : Int) (out : List Rg) (k : Nat) : List Rg := (List.range k).foldl (fun o (j : Nat) => rgStep o (p + (j : Int)) (b.getD j 0)) out
/-- a row's values -/
def Tr.row (T : Tr) (i : Nat) : List Int := T.bl.getD (T.ix.getD i 0).toNat []
/-- the first i rows -/
def rowsTo (T : Tr) (i : Nat) : List Rg := (List.range i).foldl (fun o (i : Nat) => colsTo (T.row i) ((i : Int) * 256) o 256) []
/-- what Ranges makes, and its number -/
def rangesB (T : Tr) : List Rg × Int := if T.rightB then (if 600 < (rowsTo T 4352).length then ([], 22) else (rowsTo T 4352, 0)) else ([], 50)

theorem colsTo_succ (b : List Int) (p : Int) (out : List Rg) (k : Nat) : colsTo b p out (k + 1) = rgStep (colsTo b p out k) (p + k) (b.getD k 0) := by
  simp [colsTo, List.range_succ]
theorem rowsTo_succ (T : Tr) (i : Nat) : rowsTo T (i + 1) = colsTo (T.row i) ((i : Int) * 256) (rowsTo T i) 256 := by
  simp [rowsTo, List.range_succ]
theorem rgStep_len (out : List Rg) (p v : Int) : (rgStep out p v).length ≤ out.length + 1 := by
  unfold rgStep
  split
  · split
    · simp
    · split <;> simp
  · split <;> simp
/-- all ends lie within the scalars -/
def Ends (out : List Rg) : Prop := ∀ y ∈ out, 0 ≤ y.to ∧ y.to ≤ 1114111
theorem Ends.step {out : List Rg} (h : Ends out) {p v : Int} (h0 : 0 ≤ p) (h1 : p ≤ 1114111) : Ends (rgStep out p v) := by
  have hx : ∀ y ∈ out ++ [(⟨p, p, v⟩ : Rg)], 0 ≤ y.to ∧ y.to ≤ 1114111 := fun y hy => by
    rcases List.mem_append.1 hy with hy | hy
    · exact h y hy
    · simp at hy; subst hy; exact ⟨h0, h1⟩
  unfold rgStep
  split
  · split
    · intro y hy
      rcases List.mem_or_eq_of_mem_set hy with hy | rfl
      · exact h y hy
      · exact ⟨h0, h1⟩
    · split
      · exact hx
      · exact h
  · split
    · exact hx
    · exact h

theorem rgStep_app {out : List Rg} {p v : Int} (h : ∀ y, out.getLast? = some y → ¬ (p = y.to + 1 ∧ v = y.vl)) (hv : 0 < v) : rgStep out p v = out ++ [⟨p, p, v⟩] := by
  unfold rgStep
  split
  · rename_i y hy; rw [if_neg (h y hy), if_pos hv]
  · rw [if_pos hv]
theorem rgStep_same {out : List Rg} {p v : Int} (h : ∀ y, out.getLast? = some y → ¬ (p = y.to + 1 ∧ v = y.vl)) (hv : ¬ 0 < v) : rgStep out p v = out := by
  unfold rgStep
  split
  · rename_i y hy; rw [if_neg (h y hy), if_neg hv]
  · rw [if_neg hv]
theorem last_get {out : List Rg} {q : Nat} (hq : out.length = q + 1) : out.getLast? = some (out[q]'(by omega)) := by
  rw [List.getLast?_eq_getElem?]
  have : out.length - 1 = q := by omega
  rw [this, List.getElem?_eq_getElem (by omega)]
theorem rgStep_set {out : List Rg} {p v : Int} {q : Nat} (hq : out.length = q + 1) (h : p = (out[q]'(by omega)).to + 1 ∧ v = (out[q]'(by omega)).vl) : rgStep out p v = out.set q ⟨(out[q]'(by omega)).fr, p, (out[q]'(by omega)).vl⟩ := by
  unfold rgStep
  rw [last_get hq]
  simp only
  rw [if_pos h]
  congr 1
  omega
theorem rgCells_snoc (out : List Rg) (x : Rg) : rgCells (out ++ [x]) = rgCells out ++ [.int .i64 x.fr, .int .i64 x.to, .int .i64 x.vl] := by simp [rgCells, Rg.cells]
theorem rgCells_setTo {y : Rg} {p : Int} : ∀ {out : List Rg} {q : Nat}, out[q]? = some y → (rgCells out).set (q * 3 + 1) (.int .i64 p) = rgCells (out.set q ⟨y.fr, p, y.vl⟩) := by
  intro out
  induction out with
  | nil => intro q h; cases h
  | cons x out ih =>
    intro q h
    cases q with
    | zero => simp at h; subst h; simp [rgCells, Rg.cells]
    | succ q =>
      simp only [List.getElem?_cons_succ] at h
      have := ih h
      have e : ∀ l, rgCells (x :: l) = x.cells ++ rgCells l := fun l => rfl
      rw [List.set_cons_succ, e, e, ← this]
      have : (q + 1) * 3 + 1 = x.cells.length + (q * 3 + 1) := by simp [Rg.cells]; omega
      rw [this, List.set_append_right _ _ (by omega)]
      congr 2
      omega
theorem one3 (a b c : Int) : ∀ u ∈ [Value.int .i64 a, .int .i64 b, .int .i64 c], u.oneCell' = true := by
  intro u hu
  simp at hu
  rcases hu with rfl | rfl | rfl <;> rfl
theorem info62 : (Tryd.prog.info? 62).map (fun i => (i.zero, i.size, i.bytes)) = some (some (.agg #[.int .i64 0, .int .i64 0, .int .i64 0]), 3, 24) := by kernel_rfl

/-- Ranges and a number are handed back; what lay is as it was. -/
def OutL (w : World) (l : List Rg) (k : Int) (e : Ending) (w' : World) : Prop :=
  ∃ A n c, e = .returned (.tuple #[.slice A n c, .int .i64 k]) ∧ Rds w' w'.heap.size 3 A n (rgCells l) ∧ n ≤ c ∧ Below w.heap.size w w'

set_option maxRecDepth 100000 in
set_option maxHeartbeats 2000000 in
theorem ranges_any {a0 a1 : Addr} (A A' : Option Addr) (n c n' c' : Nat) (T : Tr) (w : World) (hE : Errs w w.heap.size a0 a1) (ht : TrAt w w.heap.size A n A' n' T) :
    Calls Tryd.prog 18 #[.agg #[.slice A n c, .slice A' n' c']] w (OutL w (rangesB T).1 (rangesB T).2) := by
  have hW := ht.alloc (Nat.le_refl _) (.cells #[.slice A n c, .slice A' n' c'] 27)
  have hb0 : Below w.heap.size w (w.alloc (.cells #[.slice A n c, .slice A' n' c'] 27)) := (Below.refl _ _).alloc (Nat.le_refl _) _
  obtain ⟨i0, hi, hz0, hz1, hz2⟩ := info_parts info62
  cases hR : T.rightB
  · have HB := hide (show (rangesB T).1 = [] ∧ (rangesB T).2 = 50 by unfold rangesB; rw [if_neg (by simp [hR])]; exact ⟨rfl, rfl⟩)
    go_enter Tryd.func18, Tryd.ntmps18
    go_wp2_with (first | (go_at_call 25; refine (trieRight_any _ _ _ _ _ _ T _ hW).mono ?_; rintro e w1 ⟨he, hb1⟩; rw [hR] at he; subst he; have hE1 := (hE.below hb0).below (hb1.mono (by simp)); have c0 := hE1.c1) | (go_at_call 45; refine (toldTrie_any w1 hE1).mono ?_; rintro e w2 ⟨rfl, rfl⟩))
    go_ret2
    rw [HB.out.1, HB.out.2]
    exact ⟨none, 0, 0, rfl, ⟨rfl, by omega, fun h => by omega⟩, Nat.le_refl _, hb0.trans (hb1.mono (by simp))⟩
  · obtain ⟨hl, hix⟩ := Tr.right_ix hR
    obtain rfl := ht.ix.int_len
    have HX := hide hix
    have HL := hide hl
    clear hix hl
    go_enter Tryd.func18, Tryd.ntmps18
    go_wp2_with (go_at_call 25; refine (trieRight_any _ _ _ _ _ _ T _ hW).mono ?_; rintro e w1 ⟨he, hb1⟩; rw [hR] at he; subst he; have hE1 := (hE.below hb0).below (hb1.mono (by simp)); have hB := (hb1.block w.heap.size (by simp)).trans (Blk.new w 27 #[.slice A T.ix.length c, .slice A' n' c']); have b0 := (show Blk w1 w.heap.size _ _ from hB).cell 0; have b1 := (show Blk w1 w.heap.size _ _ from hB).cell 1)
    have hb01 : Below w.heap.size w w1 := hb0.trans (hb1.mono (by simp))
    have ht1 : TrAt w1 w1.heap.size A T.ix.length A' n' T := (hW.below hb1).more hb1.size
    clear hb1 hW
    have hs1 : w.heap.size < w1.heap.size := (show Blk w1 w.heap.size _ _ from hB).lt
    have HB0 := hide b0
    have HB1 := hide b1
    clear b0 b1
    go_loopw [4, 21] (fun s i wr => ∃ k : Nat, k ≤ T.ix.length ∧ i = .int .i64 k ∧ wr.ownsRow w1.heap.size 62 3 s (rowsTo T k).length (rgCells (rowsTo T k)) ∧ Ends (rowsTo T k) ∧ (rowsTo T k).length ≤ k * 256 ∧ Below w1.heap.size w1 wr) (fun _ i _ => T.ix.length - (intOf i).toNat)
    case atStart => exact ⟨0, Nat.zero_le _, rfl, World.ownsRow_nil _ _ _ _, fun y hy => (by cases hy), Nat.le_refl _, Below.refl _ _⟩
    case round =>
      obtain ⟨k, hk, rfl, ho, hen, hol, hbw⟩ := hrel
      by_cases hlt : k < T.ix.length
      · obtain ⟨m, hm, hml⟩ := HX.out k hlt
        have hrow : T.row k = T.bl[m] := by unfold Tr.row; rw [getD_get hlt, hm, Int.toNat_natCast, getD_get hml]
        obtain ⟨hlen, hval⟩ := Tr.right_bl hR m hml
        have htr := ht1.below hbw
        obtain ⟨b, o, hA, hbl, c0⟩ := htr.ix.int hlt
        obtain ⟨b', o', A2, n2, c2, hA', hbl', c1, hr2⟩ := htr.bl.row hml
        have hl2 := hr2.int_len
        subst hA hA'
        rw [hm] at c0
        have e0 : wr.cell? ⟨w.heap.size, 1, none⟩ = some (.slice (some ⟨b', o', none⟩) n' c') := (hbw.cell (p := ⟨w.heap.size, 1, none⟩) hs1).trans HB1.out
        have hnl : m < n' := by have := htr.bl.len; omega
        obtain ⟨wo, rfl⟩ : ∃ wo : World, wo = wr := ⟨_, rfl⟩
        have HH := hide hm
        have HLn := hide hlen
        clear hm hlen
        go_wp2
        have HO := hide ho
        have HR2 := hide hr2
        have HE := hide hen
        clear ho hr2 hen c0 c1 e0
        go_loopw [4, 32] (fun s i wr => ∃ j : Nat, j ≤ n2 ∧ i = .int .i64 j ∧ wr.ownsRow w1.heap.size 62 3 s (colsTo T.bl[m] ((k : Int) * 256) (rowsTo T k) j).length (rgCells (colsTo T.bl[m] ((k : Int) * 256) (rowsTo T k) j)) ∧ Ends (colsTo T.bl[m] ((k : Int) * 256) (rowsTo T k) j) ∧ (colsTo T.bl[m] ((k : Int) * 256) (rowsTo T k) j).length ≤ k * 256 + j ∧ Below w1.heap.size wo wr) (fun _ i _ => n2 - (intOf i).toNat)
        case atStart => exact ⟨0, Nat.zero_le _, rfl, HO.out, HE.out, hol, Below.refl _ _⟩
        case round =>
          obtain ⟨j, hj, rfl, ho2, hen2, hol2, hbw2⟩ := hrel
          by_cases hjl : j < n2
          · obtain ⟨bb, oo, hA2, hbb, c3⟩ := (HR2.out.below hbw2).int (k := j) (by omega)
            subst hA2
            have hstep := colsTo_succ T.bl[m] ((k : Int) * 256) (rowsTo T k) j
            rw [getD_get (by omega : j < T.bl[m].length)] at hstep
            have hk2 : k < 4352 := by have := HL.out; omega
            have hj2 : j < 256 := by have := HLn.out; omega
            have hen3 := hen2.step (p := (k : Int) * 256 + j) (v := T.bl[m][j]) (by omega) (by omega)
            rw [← hstep] at hen3
            have hv0 := (hval j (by omega))
            have HS := hide hstep
            have HE3 := hide hen3
            clear hstep hen3
            generalize colsTo T.bl[m] ((k : Int) * 256) (rowsTo T k) j = out at *
            generalize T.bl[m][j] = v at *
            have hol3 : out.length ≤ 1114112 := by omega
            have hfin : ∀ v' w2, w2.ownsRow w1.heap.size 62 3 v' (rgStep out ((k : Int) * 256 + j) v).length (rgCells (rgStep out ((k : Int) * 256 + j) v)) → Below w1.heap.size wr w2 →
                (∃ j_1 : Nat, j_1 ≤ n2 ∧ Value.int .i64 ((j : Int) + 1) = Value.int .i64 j_1 ∧ w2.ownsRow w1.heap.size 62 3 v' (colsTo T.bl[m] ((k : Int) * 256) (rowsTo T k) j_1).length (rgCells (colsTo T.bl[m] ((k : Int) * 256) (rowsTo T k) j_1)) ∧
                  Ends (colsTo T.bl[m] ((k : Int) * 256) (rowsTo T k) j_1) ∧ (colsTo T.bl[m] ((k : Int) * 256) (rowsTo T k) j_1).length ≤ k * 256 + j_1 ∧ Below w1.heap.size wo w2) ∧
                n2 - (intOf (.int .i64 ((j : Int) + 1))).toNat < n2 - (intOf (.int .i64 (j : Int))).toNat := fun v' w2 h1 h2 => by
              have := rgStep_len out ((k : Int) * 256 + j) v
              refine ⟨⟨j + 1, by omega, by simp, by rw [HS.out]; exact h1, HE3.out, by rw [HS.out]; omega, hbw2.trans h2⟩, by simp [intOf]; omega⟩
            have HF := hide hfin
            clear hfin
            have hsz : w1.heap.size ≤ wr.heap.size := Nat.le_trans hbw.size hbw2.size
            by_cases hout : out.length = 0
            · obtain ⟨Ao, co, rfl⟩ : ∃ Ao co, u4 = .slice Ao out.length co := by
                rcases ho2.2 with ⟨rfl, h0⟩ | ⟨g, cap, cur, rfl, _⟩
                · exact ⟨none, 0, by rw [h0]⟩
                · exact ⟨_, _, rfl⟩
              obtain rfl : out = [] := List.length_eq_zero_iff.1 hout
              by_cases hv : 0 < v
              · have hnews : ∀ j' u, [Value.int .i64 ((k : Int) * 256 + j), Value.int .i64 ((k : Int) * 256 + j), Value.int .i64 v][j']? = some u → ((wr.alloc (.cells #[.int .i64 ((k : Int) * 256 + j), .int .i64 ((k : Int) * 256 + j), .int .i64 v] 62)).alloc (.cells #[.int .i64 ((k : Int) * 256 + j), .int .i64 ((k : Int) * 256 + j), .int .i64 v] 62)).cell? ((⟨wr.heap.size + 1, 0, none⟩ : Addr).add j') = some u :=
                  World.news_of_block (cs := #[.int .i64 ((k : Int) * 256 + j), .int .i64 ((k : Int) * 256 + j), .int .i64 v]) (t := 62) (fr := (0, 0)) (by have := heap_alloc_new (wr.alloc (.cells #[.int .i64 ((k : Int) * 256 + j), .int .i64 ((k : Int) * 256 + j), .int .i64 v] 62)) (.cells #[.int .i64 ((k : Int) * 256 + j), .int .i64 ((k : Int) * 256 + j), .int .i64 v] 62); simpa using this)
                have HN := hide hnews
                have HO2 := hide ho2
                clear hnews ho2
                go_wp2_with (at_builtin; go_must (refine wpList_append_own_at _ rfl (.tmp 78) (.tmp 80) 22 rfl w1.heap.size 62 i0 _ 3 24 Tryd.underlying22 hi hz0 hz1 hz2 rfl (by decide) (.slice Ao 0 co) 0 (rgCells []) rfl ((HO2.out.alloc _).alloc _) ⟨wr.heap.size + 1, 0, none⟩ 1 1 [.int .i64 ((k : Int) * 256 + j), .int .i64 ((k : Int) * 256 + j), .int .i64 v] rfl rfl HN.out (one3 _ _ _) (by unfold maxLen; omega) (by omega) (by have := hbw.size; have := hbw2.size; simp; omega) ?_); intro v' w2 hown2 hgrow2 _ _)
                refine HF.out _ _ ?_ ((((Below.refl _ _).alloc hsz _).alloc (by simp; omega) _).grown hgrow2 (by simp; omega) (fun k' e => (HO2.out.lt k' e).1))
                rw [rgStep_app (fun y hy => (by cases hy)) hv, rgCells_snoc]
                exact hown2
              · have HO2 := hide ho2
                clear ho2
                go_wp2
                refine HF.out _ _ ?_ ((Below.refl _ _).alloc hsz _)
                rw [rgStep_same (fun y hy => (by cases hy)) hv]
                exact HO2.out.alloc _
            · obtain ⟨q, hq⟩ : ∃ q, out.length = q + 1 := ⟨out.length - 1, by omega⟩
              obtain ⟨g, cap, rfl⟩ := own_some ho2 (by omega)
              have hqo : q < out.length := by omega
              obtain ⟨_, g1, g2⟩ := rgCells_get out q hqo
              have hadd : ∀ i, (⟨g, 0, none⟩ : Addr).add i = ⟨g, i, none⟩ := fun i => by unfold Addr.add; split <;> simp_all
              have d1 := ho2.cells (g := g) rfl _ _ g1
              have d2 := ho2.cells (g := g) rfl _ _ g2
              rw [hadd, Nat.mul_comm] at d1 d2
              have dl := (ho2.lt g rfl).2
              obtain ⟨ht0, ht1'⟩ := hen2 _ (List.getElem_mem hqo)
              have hy : ∀ y, out.getLast? = some y → y = out[q] := fun y hy => by rw [last_get hq] at hy; injection hy with hy; exact hy.symm
              have hyq : out[q]? = some out[q] := List.getElem?_eq_getElem hqo
              have HSet := hide (rgStep_set (p := (k : Int) * 256 + j) (v := v) hq)
              have HO2 := hide ho2
              clear ho2 g1 g2 hen2
              generalize out[q] = y at d1 d2 ht0 ht1' hy HSet hyq
              have hlq : (out.length : Int) = (q : Int) + 1 := by omega
              rw [hq]
              go_wp2_with fail
              have hS : (wr.alloc (.cells #[.int .i64 ((k : Int) * 256 + j), .int .i64 ((k : Int) * 256 + j), .int .i64 v] 62)).drew.cell? ⟨g, q * 3 + 1, none⟩ = some (.int .i64 y.to) ∧ (wr.alloc (.cells #[.int .i64 ((k : Int) * 256 + j), .int .i64 ((k : Int) * 256 + j), .int .i64 v] 62)).drew.cell? ⟨g, q * 3 + 2, none⟩ = some (.int .i64 y.vl) :=
                ⟨(World.cell?_alloc_lt _ _ _ dl).trans d1, (World.cell?_alloc_lt _ _ _ dl).trans d2⟩
              refine wp_region_heads (fun w' => w'.cell? ⟨g, q * 3 + 1, none⟩ = some (.int .i64 y.to) ∧ w'.cell? ⟨g, q * 3 + 2, none⟩ = some (.int .i64 y.vl)) 18 1 (by kernel_rfl) (by kernel_rfl) (fun _ _ d _ _ h => by cases d <;> exact h) hS ?_
              simp only [List.take_succ_cons, List.take_zero, List.drop_succ_cons, List.drop_zero]
              refine heads_step (v := .slice (some ⟨g, 0, none⟩) (q + 1) cap) rfl (fun W' hS' => by first | rfl | (obtain ⟨hS1, hS2⟩ := hS'; go_simp; try (first | (intro hh; exact absurd hh (by omega)) | (exact IntWalk.i64_in _ (by omega))))) ?_
              go_frame
              refine heads_step (v := .int .i64 q) rfl (fun W' hS' => by first | rfl | (obtain ⟨hS1, hS2⟩ := hS'; go_simp; try (first | (intro hh; exact absurd hh (by omega)) | (exact IntWalk.i64_in _ (by omega))))) ?_
              go_frame
              refine heads_step (v := .pointer (some ⟨g, q * 3, none⟩)) rfl (fun W' hS' => by first | rfl | (obtain ⟨hS1, hS2⟩ := hS'; go_simp; try (first | (intro hh; exact absurd hh (by omega)) | (exact IntWalk.i64_in _ (by omega))))) ?_
              go_frame
              refine heads_step (v := .pointer (some ⟨g, q * 3 + 1, none⟩)) rfl (fun W' hS' => by first | rfl | (obtain ⟨hS1, hS2⟩ := hS'; go_simp; try (first | (intro hh; exact absurd hh (by omega)) | (exact IntWalk.i64_in _ (by omega))))) ?_
              go_frame
              refine heads_step (v := .int .i64 y.to) rfl (fun W' hS' => by first | rfl | (obtain ⟨hS1, hS2⟩ := hS'; go_simp; try (first | (intro hh; exact absurd hh (by omega)) | (exact IntWalk.i64_in _ (by omega))))) ?_
              go_frame
              refine heads_step (v := .int .i64 (y.to + 1)) rfl (fun W' hS' => by first | rfl | (obtain ⟨hS1, hS2⟩ := hS'; go_simp; try (first | (intro hh; exact absurd hh (by omega)) | (exact IntWalk.i64_in _ (by omega))))) ?_
              go_frame
              refine heads_step (v := .slice (some ⟨g, 0, none⟩) (q + 1) cap) rfl (fun W' hS' => by first | rfl | (obtain ⟨hS1, hS2⟩ := hS'; go_simp; try (first | (intro hh; exact absurd hh (by omega)) | (exact IntWalk.i64_in _ (by omega))))) ?_
              go_frame
              refine heads_step (v := .int .i64 q) rfl (fun W' hS' => by first | rfl | (obtain ⟨hS1, hS2⟩ := hS'; go_simp; try (first | (intro hh; exact absurd hh (by omega)) | (exact IntWalk.i64_in _ (by omega))))) ?_
              go_frame
              refine heads_step (v := .pointer (some ⟨g, q * 3, none⟩)) rfl (fun W' hS' => by first | rfl | (obtain ⟨hS1, hS2⟩ := hS'; go_simp; try (first | (intro hh; exact absurd hh (by omega)) | (exact IntWalk.i64_in _ (by omega))))) ?_
              go_frame
              refine heads_step (v := .pointer (some ⟨g, q * 3 + 1, none⟩)) rfl (fun W' hS' => by first | rfl | (obtain ⟨hS1, hS2⟩ := hS'; go_simp; try (first | (intro hh; exact absurd hh (by omega)) | (exact IntWalk.i64_in _ (by omega))))) ?_
              go_frame
              refine heads_step (v := .int .i64 y.to) rfl (fun W' hS' => by first | rfl | (obtain ⟨hS1, hS2⟩ := hS'; go_simp; try (first | (intro hh; exact absurd hh (by omega)) | (exact IntWalk.i64_in _ (by omega))))) ?_
              go_frame
              refine heads_step (v := .int .i64 (y.to + 1)) rfl (fun W' hS' => by first | rfl | (obtain ⟨hS1, hS2⟩ := hS'; go_simp; try (first | (intro hh; exact absurd hh (by omega)) | (exact IntWalk.i64_in _ (by omega))))) ?_
              go_frame
              refine heads_step (v := .slice (some ⟨g, 0, none⟩) (q + 1) cap) rfl (fun W' hS' => by first | rfl | (obtain ⟨hS1, hS2⟩ := hS'; go_simp; try (first | (intro hh; exact absurd hh (by omega)) | (exact IntWalk.i64_in _ (by omega))))) ?_
              go_frame
              refine heads_step (v := .int .i64 q) rfl (fun W' hS' => by first | rfl | (obtain ⟨hS1, hS2⟩ := hS'; go_simp; try (first | (intro hh; exact absurd hh (by omega)) | (exact IntWalk.i64_in _ (by omega))))) ?_
              go_frame
              refine heads_step (v := .pointer (some ⟨g, q * 3, none⟩)) rfl (fun W' hS' => by first | rfl | (obtain ⟨hS1, hS2⟩ := hS'; go_simp; try (first | (intro hh; exact absurd hh (by omega)) | (exact IntWalk.i64_in _ (by omega))))) ?_
              go_frame
              refine heads_step (v := .pointer (some ⟨g, q * 3 + 2, none⟩)) rfl (fun W' hS' => by first | rfl | (obtain ⟨hS1, hS2⟩ := hS'; go_simp; try (first | (intro hh; exact absurd hh (by omega)) | (exact IntWalk.i64_in _ (by omega))))) ?_
              go_frame
              refine heads_step (v := .int .i64 y.vl) rfl (fun W' hS' => by first | rfl | (obtain ⟨hS1, hS2⟩ := hS'; go_simp; try (first | (intro hh; exact absurd hh (by omega)) | (exact IntWalk.i64_in _ (by omega))))) ?_
              go_frame
              refine heads_step (v := .agg #[.int .i64 (y.to + 1), .int .i64 (y.to + 1), .int .i64 y.vl]) rfl (fun W' hS' => by first | rfl | (obtain ⟨hS1, hS2⟩ := hS'; go_simp; try (first | (intro hh; exact absurd hh (by omega)) | (exact IntWalk.i64_in _ (by omega))))) ?_
              go_frame
              refine heads_nil ?_
              refine mid_step rfl (fun K hK => ?_)
              go_simp
              have dl2 : g < (wr.alloc (.cells #[.int .i64 ((k : Int) * 256 + j), .int .i64 ((k : Int) * 256 + j), .int .i64 v] 62)).heap.size := by simp; omega
              refine hK _ _ ⟨⟨(World.cell?_alloc_lt _ _ _ dl2).trans hS.1, (World.cell?_alloc_lt _ _ _ dl2).trans hS.2⟩, ?_⟩
              try go_frame
              refine mid_nil ?_
              go_upto_region 15 with fail
              obtain ⟨W2, hW2⟩ : ∃ W2 : World, W2 = ((wr.alloc (.cells #[.int .i64 ((k : Int) * 256 + j), .int .i64 ((k : Int) * 256 + j), .int .i64 v] 62)).alloc (.cells #[.int .i64 (y.to + 1), .int .i64 (y.to + 1), .int .i64 y.vl] 62)).drew := ⟨_, rfl⟩
              have kX : Blk W2 wr.heap.size 62 #[.int .i64 ((k : Int) * 256 + j), .int .i64 ((k : Int) * 256 + j), .int .i64 v] := by
                rw [hW2]; exact (Blk.new wr 62 _).alloc _
              have kN : Blk W2 (wr.heap.size + 1) 62 #[.int .i64 (y.to + 1), .int .i64 (y.to + 1), .int .i64 y.vl] := by
                rw [hW2]
                have := Blk.new (wr.alloc (.cells #[.int .i64 ((k : Int) * 256 + j), .int .i64 ((k : Int) * 256 + j), .int .i64 v] 62)) 62 #[.int .i64 (y.to + 1), .int .i64 (y.to + 1), .int .i64 y.vl]
                rw [World.size_alloc] at this
                exact this
              have hb2 : Below w1.heap.size wr W2 := by
                rw [hW2]; exact (((Below.refl _ _).alloc hsz _).alloc (by simp; omega) _).drew
              have hoW : W2.ownsRow w1.heap.size 62 3 (.slice (some ⟨g, 0, none⟩) out.length cap) out.length (rgCells out) := by
                rw [hW2]; exact (HO2.out.alloc _).alloc _
              have HOW := hide hoW
              have hs2 : wr.heap.size + 2 ≤ W2.heap.size := by rw [hW2]; simp [World.drew]
              have HE1 := hide (show W2.cell? ⟨g, q * 3 + 1, none⟩ = some (.int .i64 y.to) by rw [hW2]; exact (World.cell?_alloc_lt _ _ _ dl2).trans hS.1)
              rw [← hW2]
              clear hW2 hS hoW
              have x0 := kX.cell 0
              have x1 := kX.cell 1
              have x2 := kX.cell 2
              have y0 := kN.cell 0
              have y1 := kN.cell 1
              have y2 := kN.cell 2
              simp only [List.getElem?_toArray, List.getElem?_cons_zero, List.getElem?_cons_succ] at x0 x1 x2 y0 y1 y2
              have hp0 : 0 ≤ (k : Int) * 256 + j := by omega
              have hp1 : (k : Int) * 256 + j ≤ 1114111 := by omega
              have HP0 := hide hp0
              clear hp0 kX kN
              generalize (k : Int) * 256 + (j : Int) = p at *
              have HOq := hide (show W2.ownsRow w1.heap.size 62 3 (.slice (some ⟨g, 0, none⟩) (q + 1) cap) (q + 1) (rgCells out) by have := HOW.out; rw [hq] at this; exact this)
              by_cases heq : p = y.to + 1 ∧ v = y.vl
              · have e1 := HE1.out
                have ef := HOq.out.frozenAt (q * 3 + 1)
                have hst := HSet.out heq
                obtain ⟨h1, h2⟩ := heq
                subst h1 h2
                go_wp2
                refine HF.out _ _ ?_ (hb2.trans ((Below.refl _ _).setCell (p := ⟨g, q * 3 + 1, none⟩) (HO2.out.lt g rfl).1 _))
                rw [hst, List.length_set, ← rgCells_setTo hyq, hq]
                exact (HOq.out.stored (q * 3 + 1) _).1
              · have hne : ∀ z, out.getLast? = some z → ¬ (p = z.to + 1 ∧ v = z.vl) := fun z hz => by rw [hy z hz]; exact heq
                by_cases hp : p = y.to + 1
                · have hvy : ¬ v = y.vl := fun e => heq ⟨hp, e⟩
                  subst hp
                  by_cases hv : 0 < v
                  · clear heq
                    have HN := hide (show ∀ j' u, [Value.int .i64 (y.to + 1), Value.int .i64 (y.to + 1), Value.int .i64 v][j']? = some u → (W2.alloc (.cells #[.int .i64 (y.to + 1), .int .i64 (y.to + 1), .int .i64 v] 62)).cell? ((⟨W2.heap.size, 0, none⟩ : Addr).add j') = some u from World.news_of_block (cs := #[.int .i64 (y.to + 1), .int .i64 (y.to + 1), .int .i64 v]) (t := 62) (fr := (0, 0)) (heap_alloc_new W2 _))
                    go_wp2_with (at_builtin; go_must (refine wpList_append_own_at _ rfl (.tmp 78) (.tmp 80) 22 rfl w1.heap.size 62 i0 _ 3 24 Tryd.underlying22 hi hz0 hz1 hz2 rfl (by decide) (.slice (some ⟨g, 0, none⟩) (q + 1) cap) (q + 1) (rgCells out) rfl (HOq.out.alloc _) ⟨W2.heap.size, 0, none⟩ 1 1 [.int .i64 (y.to + 1), .int .i64 (y.to + 1), .int .i64 v] rfl rfl HN.out (one3 _ _ _) (by unfold maxLen; omega) (by omega) (by simp; omega) ?_); intro v' w2 hown2 hgrow2 _ _)
                    refine HF.out _ _ ?_ (hb2.trans (((Below.refl _ _).alloc (by omega) _).grown hgrow2 (by simp; omega) (fun k' e => (HOW.out.lt k' e).1)))
                    rw [rgStep_app hne hv, rgCells_snoc, List.length_append, hq]
                    exact hown2
                  · clear heq
                    go_wp2
                    refine HF.out _ _ ?_ hb2
                    rw [rgStep_same hne hv, hq]
                    exact HOq.out
                · by_cases hv : 0 < v
                  · clear heq
                    have HN := hide (show ∀ j' u, [Value.int .i64 p, Value.int .i64 p, Value.int .i64 v][j']? = some u → (W2.alloc (.cells #[.int .i64 p, .int .i64 p, .int .i64 v] 62)).cell? ((⟨W2.heap.size, 0, none⟩ : Addr).add j') = some u from World.news_of_block (cs := #[.int .i64 p, .int .i64 p, .int .i64 v]) (t := 62) (fr := (0, 0)) (heap_alloc_new W2 _))
                    go_wp2_with (at_builtin; go_must (refine wpList_append_own_at _ rfl (.tmp 78) (.tmp 80) 22 rfl w1.heap.size 62 i0 _ 3 24 Tryd.underlying22 hi hz0 hz1 hz2 rfl (by decide) (.slice (some ⟨g, 0, none⟩) (q + 1) cap) (q + 1) (rgCells out) rfl (HOq.out.alloc _) ⟨W2.heap.size, 0, none⟩ 1 1 [.int .i64 p, .int .i64 p, .int .i64 v] rfl rfl HN.out (one3 _ _ _) (by unfold maxLen; omega) (by omega) (by simp; omega) ?_); intro v' w2 hown2 hgrow2 _ _)
                    refine HF.out _ _ ?_ (hb2.trans (((Below.refl _ _).alloc (by omega) _).grown hgrow2 (by simp; omega) (fun k' e => (HOW.out.lt k' e).1)))
                    rw [rgStep_app hne hv, rgCells_snoc, List.length_append, hq]
                    exact hown2
                  · clear heq
                    go_wp2
                    refine HF.out _ _ ?_ hb2
                    rw [rgStep_same hne hv, hq]
                    exact HOq.out
          · obtain rfl : j = n2 := by omega
            have hn2 : j = 256 := by have := HLn.out; omega
            have hrow2 : rowsTo T (k + 1) = colsTo T.bl[m] ((k : Int) * 256) (rowsTo T k) j := by rw [rowsTo_succ, hrow, hn2]
            have HR3 := hide hrow2
            have HO2 := hide ho2
            have HN2 := hide hn2
            clear hrow2 ho2 hn2
            have hk5 : k < 4352 := by have := HL.out; omega
            go_wp2
            refine ⟨⟨k + 1, by omega, by simp, by rw [HR3.out]; exact HO2.out, by rw [HR3.out]; exact hen2, by rw [HR3.out]; have := HN2.out; omega, hbw.trans hbw2⟩, by simp [intOf]; omega⟩
      · obtain rfl : k = T.ix.length := by omega
        have hk2 : rowsTo T T.ix.length = rowsTo T 4352 := by rw [HL.out]
        rw [hk2] at ho hol
        have HO := hide ho
        have hsz : w1.heap.size ≤ wr.heap.size := hbw.size
        obtain ⟨Ao, co, rfl⟩ : ∃ Ao co, u4 = .slice Ao (rowsTo T 4352).length co := by
          rcases ho.2 with ⟨rfl, h0⟩ | ⟨g, cap, cur, rfl, _⟩
          · exact ⟨none, 0, by rw [h0]⟩
          · exact ⟨_, _, rfl⟩
        have hE2 := hE1.below (hbw.mono (Nat.le_of_lt hs1))
        have c0 := hE2.c0
        have hr1 : (rangesB T).1 = (if 600 < (rowsTo T 4352).length then [] else rowsTo T 4352) ∧ (rangesB T).2 = (if 600 < (rowsTo T 4352).length then 22 else 0) := by
          unfold rangesB; rw [if_pos hR]
          generalize rowsTo T 4352 = L
          by_cases h : 600 < L.length <;> simp [h]
        have HRB := hide hr1
        have hol4 : (rowsTo T 4352).length ≤ 1114112 := by have := HL.out; omega
        clear ho hk2 hr1 hol
        generalize rowsTo T 4352 = out at *
        by_cases h6 : 600 < out.length
        · go_wp2_with (go_at_call 45; refine (toldRange_any _ hE2).mono ?_; rintro e w2 ⟨rfl, rfl⟩)
          go_ret2
          rw [HRB.out.1, HRB.out.2, if_pos h6, if_pos h6]
          exact ⟨none, 0, 0, rfl, ⟨rfl, by omega, fun h => by omega⟩, Nat.le_refl _, hb01.trans (hbw.mono (Nat.le_of_lt hs1))⟩
        · go_wp2
          go_ret2
          rw [HRB.out.1, HRB.out.2, if_neg h6, if_neg h6]
          obtain ⟨A5, c5, e5, h5, h5r⟩ := own_rds HO.out (Nat.le_refl _) (by omega)
          injection e5 with e5a e5b e5c
          subst e5a e5c
          exact ⟨_, _, _, rfl, h5r, h5, hb01.trans (hbw.mono (Nat.le_of_lt hs1))⟩

end Go.Proofs.YtibndkkbmgbogaaDoor
