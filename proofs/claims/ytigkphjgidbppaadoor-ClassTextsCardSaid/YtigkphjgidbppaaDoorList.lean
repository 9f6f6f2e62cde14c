/- The program's (*class.reader).list: a set's names, joined by blanks. Conditions: the reader's list reads as texts; the set is right. -/
import Derived.Test.YtigkphjgidbppaaDoorIter
import Derived.Test.YtigkphjgidbppaaDoorMix
import Derived.Test.YtigkphjgidbppaaDoorJoin
import Derived.Maps.OwnIn
import Derived.Maps.RangeWalk
import Derived.Laws.Rows
namespace Go.Proofs.YtigkphjgidbppaaDoor
open Go Go.RowKit

/-- classes' names -/
def namesOf (l : List ByteArray) (cs : List Int) : List ByteArray := cs.map fun c => l.getD c.toNat ByteArray.empty
theorem namesOf_snoc (l : List ByteArray) (cs : List Int) (c : Int) : namesOf l (cs ++ [c]) = namesOf l cs ++ [l.getD c.toNat ByteArray.empty] := by simp [namesOf]
theorem namesOf_length (l : List ByteArray) (cs : List Int) : (namesOf l cs).length = cs.length := by simp [namesOf]
theorem info9 : (Tryd.prog.info? 9).map (fun i => (i.zero, i.size, i.bytes)) = some (some (.string ⟨#[]⟩), 1, 16) := by kernel_rfl

section
variable {P : Program} {Q : Exit → Act → World → Prop} {lq n : Nat}
/-- **the walk of such a region in a round**, the waits taken over steps between: m reads, then t operations that keep S, then the rest -/
theorem wpIn_round_headsT {id : Nat} {a : Act} {w : World} {lo : List Oper} (S : World → Prop) (m t : Nat) (hm : P.follows .mixedOrders = true)
    (hB : (Region.noSelect lo.toArray && decide (m + t ≤ lo.length) && headsT .any lo.toArray (m + t) t (lo.length - (m + t)) m 0 (Array.replicate lo.length false)) = true)
    (hd : noDefer lo.toArray = true) (hL : ¬ LetsOut Q)
    (hQ : ∀ c a d v w, Q (.panic c) (a.put d v) w → Q (.panic c) a w) (hS : S w.drew)
    (h : wpHeads P lo.toArray S (fun a => wpMid P lo.toArray S Q (wpList P lo.toArray Q (lo.drop (m + t))) ((lo.drop m).take t) a w.drew) (lo.take m) a) : (Code.region id lo.toArray true).wpIn (Fence.wide.inRound lq) n P Q a w := by
  simp only [Bool.and_eq_true, decide_eq_true_eq] at hB
  obtain ⟨⟨hsel, hle⟩, hB⟩ := hB
  have hsplit : lo.take m ++ ((lo.drop m).take t ++ lo.drop (m + t)) = lo := by
    rw [← List.drop_drop, List.take_append_drop, List.take_append_drop]
  have h1 : (lo.take m).length = m := by simp; omega
  have h2 : ((lo.drop m).take t).length = t := by simp; omega
  have h3 : (lo.drop (m + t)).length = lo.length - (m + t) := by simp
  have hfin := heads_T (P := P) (md := .any) (Q := Q) (S := S) (m := m + t) hsel hQ (lo.take m) ((lo.drop m).take t) (lo.drop (m + t)) 0 (Array.replicate lo.length false) a w.drew
    (fun j => by rw [hsplit]; simp) h2 h3 (by simp) (by omega) hS (Closed.none _) (by rw [h1]; exact hB) h
  refine wpIn_region_any hm (wpAnyIn_round hd hL _ _ _ _ (wpAny_of_N _ _ _ _ (S := S) (need := fun j => decide (j < m + t)) ?_))
  have hs : lo.toArray.size = (lo.take m).length + (t + (lo.length - (m + t))) := by simp; omega
  rw [hs]
  have hr : Array.replicate ((lo.take m).length + (t + (lo.length - (m + t)))) false = Array.replicate lo.length false := by congr 1; simp; omega
  rw [hr]
  exact hfin
end

attribute [local go_sem] Oper.semAt_some

set_option maxRecDepth 100000 in
set_option maxHeartbeats 2000000 in
theorem list_walk (g : Nat) (mp : Value) (A : Option Addr) (len cap : Nat) (l : List ByteArray) (set : Int) (w : World) (hg : Blk w g 68 #[.slice A len cap, mp]) (hr : Rds w w.heap.size 1 A len (strCells l)) (hP : ∀ c : Int, hasB set c = true → 0 ≤ c ∧ c < l.length) (hj : (joinB (namesOf l (classesB set))).size ≤ 140737488355328) :
    Calls Tryd.prog 41 #[.pointer (some ⟨g, 0, none⟩), .int .i64 set] w (Freed w (.string (joinB (namesOf l (classesB set))))) := by
  obtain ⟨i0, hi, hz0, hz1, hz2⟩ := info_parts info9
  obtain rfl := hr.str_len
  have hro : Fence.wide.round = none := rfl
  have h1 : 1 ≤ 10 := by omega
  have hrl := cls_len set
  have hcls := fun Bs n₀ w a b c => classes_stops (fun c => 0 ≤ c ∧ c < l.length) 9 (by omega) set hP Bs n₀ w a b c
  clear hP
  generalize classesB set = L at *
  refine (callsIn_wide (n := 10)).1 ?_
  refine callsIn_of_wp_marks Tryd.func41 rfl trivial ?_ rfl
  simp only [Tryd.ntmps41, List.size_toArray, List.length_cons, List.length_nil, Nat.reduceAdd, Nat.reduceSub, Array.replicate_succ, Array.replicate_zero, List.push_toArray, List.append_toArray, List.nil_append, List.cons_append]
  gi_wp2_with fail
  obtain ⟨W0, hW0⟩ : ∃ W0 : World, W0 = (w.alloc (.cells #[.pointer (some ⟨g, 0, none⟩)] 47)).alloc (.cells #[.slice none 0 0] 35) := ⟨_, rfl⟩
  obtain ⟨bo, hbo⟩ : ∃ bo : Nat, bo = w.heap.size + 1 := ⟨_, rfl⟩
  have hb0 : Below w.heap.size w W0 := by rw [hW0]; exact ((Below.refl _ _).alloc (Nat.le_refl _) _).alloc (by simp) _
  have kr0 : Blk W0 w.heap.size 47 #[.pointer (some ⟨g, 0, none⟩)] := by rw [hW0]; exact (Blk.new w _ _).alloc _
  have k0 : Blk W0 bo 35 #[.slice none 0 0] := by
    rw [hW0, hbo]
    have := Blk.new (w.alloc (.cells #[.pointer (some ⟨g, 0, none⟩)] 47)) 35 #[.slice none 0 0]
    simpa using this
  have hs0 : bo + 1 ≤ W0.heap.size := by rw [hW0, hbo]; simp
  have hbw : w.heap.size < bo := by omega
  rw [← hW0, ← hbo]
  clear hW0 hbo
  refine ⟨trivial, (classes_in Fence.wide _ trivial rfl set W0).mono ?_⟩
  rintro e _ ⟨rfl, rfl⟩
  obtain ⟨W1, hW1⟩ : ∃ W1 : World, W1 = W0.alloc (.cells #[.int .i64 set] 2) := ⟨_, rfl⟩
  obtain ⟨bs, hbs⟩ : ∃ bs : Nat, bs = W0.heap.size := ⟨_, rfl⟩
  have hb1 : Below w.heap.size w W1 := by rw [hW1]; exact hb0.alloc hb0.size _
  have kr1 : Blk W1 w.heap.size 47 #[.pointer (some ⟨g, 0, none⟩)] := by rw [hW1]; exact kr0.alloc _
  have k1 : Blk W1 bo 35 #[.slice none 0 0] := by rw [hW1]; exact k0.alloc _
  have ks : Blk W1 bs 2 #[.int .i64 set] := by rw [hW1, hbs]; exact Blk.new _ _ _
  have hs1 : bs + 1 ≤ W1.heap.size := by rw [hW1, hbs]; simp
  have hcs : W1.cell? ⟨bs, 0, none⟩ = some (.int .i64 set) := by have := ks.cell 0; simpa using this
  have hwb : bo < bs := by omega
  rw [← hW1, ← hbs]
  clear hW1 hbs hb0 kr0 k0 hs0 ks
  gi_wp2
  refine wpIn_rangeFunc_ownH hro h1 (gf := 38) (lb := #[.pointer (some ⟨bs, 0, none⟩)]) rfl trivial (enters_of Tryd.func38 (by kernel_rfl) rfl)
    (hcls bs w.heap.size W1 hb1.size hcs (by omega)) KRows.trans (KRows.put hb1.size) (Below.refl _ _) (fun _ => rfl)
    (fun pre W => ∃ vs, W.ownsRow W1.heap.size 9 1 vs pre.length (strCells (namesOf l (valsOf pre))) ∧ Blk W bo 35 #[vs] ∧ Blk W w.heap.size 47 #[.pointer (some ⟨g, 0, none⟩)] ∧ Below w.heap.size w W ∧ W1.heap.size ≤ W.heap.size)
    (fun _ _ _ => False)
    (fun s X Y row hs hg hrw => by
      obtain ⟨vs, q1, q2, q2r, q3, q4⟩ := hs
      refine ⟨vs, q1.kept hg ?_, q2.grown hg (fun e => by have := (hrw _ e.symm).1; omega), q2r.grown hg (fun e => by have := (hrw _ e.symm).1; omega), q3.grown hg q3.size (fun k e => by have := (hrw k e).1; omega), Nat.le_trans q4 hg.size⟩
      cases hv : vs.ownBlock with
      | none => exact .inl rfl
      | some k =>
        right
        intro e
        obtain ⟨cs, t, fr, hc⟩ := own_cells q1 hv
        obtain ⟨_, o, ho', hoc⟩ := hrw k e.symm
        rw [hc] at ho'
        injection ho' with ho'
        subst ho'
        cases hoc)
    (fun _ _ _ _ _ hs _ _ => hs)
    ⟨_, World.ownsRow_nil _ _ _ _, k1, kr1, hb1, Nat.le_refl _⟩
    (fun x a' W => a' = { tmps := #[.pointer (some ⟨g, 0, none⟩), .int .i64 set, .pointer (some ⟨w.heap.size, 0, none⟩), undef, .string ⟨#[]⟩, .pointer (some ⟨bo, 0, none⟩), .int .i64 x.1, .int .i64 set, .func (.func 38) #[] #[.pointer (some ⟨bs, 0, none⟩)], .int .i64 x.1, undef, undef, undef, undef, undef, undef, undef, undef, undef, undef, undef, undef, undef], defers := [] })
    (fun x a' s X Y row hs hg hrw => hs)
    ?assign ?body ?done ?stop
  case assign =>
    rintro lp pre ⟨x, hx⟩ W K hs hK
    dsimp only [intEnc]
    gi_wp2
    exact hK _ _ (KeepsFrom.of_grownBy (row := none) ⟨rfl, rfl, rfl, Nat.le_refl _, fun _ _ _ => rfl⟩ (by simp)) (KRows.refl _ _ _) hs rfl
  case body =>
    rintro lp pre ⟨x, hx⟩ a' W hlp hrec ⟨vs, q1, q2, q2r, q3, q4⟩ rfl hlt
    obtain ⟨hx0, hx1⟩ := hx
    obtain ⟨k, rfl⟩ : ∃ k : Nat, x = (k : Int) := ⟨x.toNat, by omega⟩
    have hk : k < l.length := by omega
    dsimp only
    have c0 := q2.cell 0
    have cr := q2r.cell 0
    have cg := (hg.below q3 hg.lt).cell 0
    have cl := q2.lt
    obtain ⟨b, o, rfl, hbl, ck⟩ := (hr.below q3).str hk
    simp only [List.getElem?_toArray, List.getElem?_cons_zero] at c0 cr cg
    have HNS := hide (show namesOf l (valsOf pre ++ [(k : Int)]) = namesOf l (valsOf pre) ++ [l[k]] by rw [namesOf_snoc, Int.toNat_natCast, getD_get hk])
    have hkl : (k : Int) < (l.length : Int) := hx1
    generalize l[k] = sk at *
    have q1d : W.drew.ownsRow W1.heap.size 9 1 vs pre.length (strCells (namesOf l (valsOf pre))) := q1
    have HQ := hide (q1d.alloc (.cells #[.string sk] 9))
    have hltl : pre.length < 32 := hlt
    have hne := own_ne HQ.out (show Blk (W.drew.alloc (.cells #[.string sk] 9)) bo 35 #[vs] from Blk.alloc (show Blk W.drew bo 35 #[vs] from q2) _) (by decide)
    have hner := own_ne HQ.out (show Blk (W.drew.alloc (.cells #[.string sk] 9)) w.heap.size 47 #[.pointer (some ⟨g, 0, none⟩)] from Blk.alloc (show Blk W.drew w.heap.size 47 #[.pointer (some ⟨g, 0, none⟩)] from q2r) _) (by decide)
    clear q1 q1d hlt hcls hrl
    gi_wp2_with fail
    refine wpIn_round_headsT (fun w' => w'.cell? ⟨bo, 0, none⟩ = some vs ∧ w'.cell? ⟨w.heap.size, 0, none⟩ = some (.pointer (some ⟨g, 0, none⟩)) ∧ w'.cell? ⟨g, 0, none⟩ = some (.slice (some ⟨b, o, none⟩) l.length cap) ∧ w'.cell? ⟨b, o + k, none⟩ = some (.string sk)) 9 1 (by kernel_rfl) (by kernel_rfl) (by kernel_rfl) (by rintro ⟨aa, ww, hh⟩; exact hh) (fun _ _ d _ _ h => by cases d <;> exact h) ⟨c0, cr, cg, ck⟩ ?_
    simp only [List.take_succ_cons, List.take_zero, List.drop_succ_cons, List.drop_zero]
    refine heads_step (v := vs) rfl (fun W' hS' => by obtain ⟨f1, f2, f3, f4⟩ := hS'; go_simp) ?_
    go_frame
    refine heads_step (v := .pointer (some ⟨g, 0, none⟩)) rfl (fun W' hS' => by obtain ⟨f1, f2, f3, f4⟩ := hS'; go_simp) ?_
    go_frame
    refine heads_step (v := .pointer (some ⟨g, 0, none⟩)) rfl (fun W' hS' => by go_simp) ?_
    go_frame
    refine heads_step (v := .pointer (some ⟨g, 0, none⟩)) rfl (fun W' hS' => by go_simp) ?_
    go_frame
    refine heads_step (v := .pointer (some ⟨g, 0, none⟩)) rfl (fun W' hS' => by go_simp) ?_
    go_frame
    refine heads_step (v := .slice (some ⟨b, o, none⟩) l.length cap) rfl (fun W' hS' => by obtain ⟨f1, f2, f3, f4⟩ := hS'; go_simp) ?_
    go_frame
    refine heads_step (v := .int .i64 (k : Int)) rfl (fun W' hS' => by go_simp) ?_
    go_frame
    refine heads_step (v := .pointer (some ⟨b, o + k, none⟩)) rfl (fun W' hS' => by go_simp) ?_
    go_frame
    refine heads_step (v := .string sk) rfl (fun W' hS' => by obtain ⟨f1, f2, f3, f4⟩ := hS'; go_simp) ?_
    go_frame
    refine heads_nil ?_
    refine mid_step rfl (fun K hK1 => ?_)
    go_simp
    have ca : ∀ {p : Addr} {v : Value}, W.cell? p = some v → (W.drew.alloc (.cells #[.string sk] 9)).cell? p = some v := fun {p v} h => (World.cell?_alloc_lt W.drew _ _ (World.block_lt_of_cell? W _ h)).trans h
    refine hK1 _ _ ⟨⟨ca c0, ca cr, ca cg, ca ck⟩, ?_⟩
    refine mid_nil ?_
    have CN := hide (cell_one_new W.drew (.string sk) 9)
    go_wp2_with (at_builtin; (refine wpList_append_own _ rfl (.tmp 10) (.tmp 19) 35 rfl W1.heap.size 9 i0 (.string ⟨#[]⟩) 1 16 Tryd.underlying35 hi hz0 hz1 hz2 rfl (by decide) vs pre.length (strCells (namesOf l (valsOf pre))) rfl HQ.out ⟨W.heap.size, 0, none⟩ 1 1 [.string sk] rfl rfl CN.out (by simp [Value.oneCell']) (by unfold maxLen; omega) (by omega) (by simp; omega) ?_); intro v' w1 hown1 hgrow1 _; obtain ⟨g', cap', rfl⟩ := own_some hown1 (by omega); have HO := hide hown1; have HG := hide hgrow1; have k1 := (Blk.alloc (show Blk W.drew bo 35 #[vs] from q2) (.cells #[.string sk] 9)).grown hgrow1 hne; have kr2 := (Blk.alloc (show Blk W.drew w.heap.size 47 #[.pointer (some ⟨g, 0, none⟩)] from q2r) (.cells #[.string sk] 9)).grown hgrow1 hner; have e0 := k1.cell 0; have ef := k1.frozen 0; have el := k1.lt; clear hown1 hgrow1; simp only [List.getElem?_toArray, List.getElem?_cons_zero] at e0)
    gi_wp2_with fail
    have hbd : Below w.heap.size W W.drew := ⟨rfl, rfl, rfl, Nat.le_refl _, fun _ _ => rfl⟩
    have hgd : W.grownBy W.drew none := ⟨rfl, rfl, rfl, Nat.le_refl _, fun _ _ _ => rfl⟩
    have hga := hgd.trans (World.grownBy_alloc W.drew (.cells #[.string sk] 9) none)
    have hgs := grownBy_setCell w1 bo 0 (.slice (some ⟨g', 0, none⟩) (pre.length + 1) cap')
    have hszd : W.drew.heap.size = W.heap.size := rfl
    have hbW : Below w.heap.size W (w1.setCell ⟨bo, 0, none⟩ (.slice (some ⟨g', 0, none⟩) (pre.length + 1) cap')) :=
      (((hbd).alloc (by have := q3.size; omega) _).grown HG.out (by simp; have := q3.size; omega) (fun k e => by have := (HQ.out.lt k e).1; omega)).grown hgs (by have := HG.out.size; simp at this; have := q3.size; omega) (fun k e => by cases e; omega)
    have hbox : ∀ v, W.cell? ⟨bs, 0, none⟩ = some v → (w1.setCell ⟨bo, 0, none⟩ (.slice (some ⟨g', 0, none⟩) (pre.length + 1) cap')).cell? ⟨bs, 0, none⟩ = some v := fun v hv =>
      hgs.cell (HG.out.cell (hga.cell hv (by simp)) (fun e => by have := (HQ.out.lt bs e.symm).1; omega)) (fun e => by injection e with e; simp only at e; omega)
    refine ⟨(KeepsFrom.of_cells hga (by simp)).trans ((KeepsFrom.of_cells HG.out (fun j e => own_cells HQ.out e)).trans (KeepsFrom.of_cells hgs (fun j e => by cases e; exact ⟨_, _, _, k1⟩))),
      ⟨hbW, hbox⟩, .slice (some ⟨g', 0, none⟩) (pre.length + 1) cap', ?_, k1.set_ 0 _, kr2.far (by simp; omega) _, q3.trans hbW, by have := HG.out.size; simp at this ⊢; omega⟩
    rw [List.length_append, valsOf_snoc, HNS.out]
    have h2 := HO.out.kept hgs (.inr (fun e => own_ne HO.out k1 (by decide) e.symm))
    simpa [strCells] using h2
  case done =>
    rintro D ys W hD hys ⟨vs, q1, q2, q2r, q3, q4⟩ hK
    have c0 := q2.cell 0
    have cl := q2.lt
    simp only [List.getElem?_toArray, List.getElem?_cons_zero] at c0
    have hyl : ys.length = L.length := by rw [← hys, List.length_map]
    rw [show valsOf ys = L from hys, hyl] at q1
    obtain ⟨A', c', rfl, e2, e3⟩ := own_rds q1 (Nat.le_refl _) (by omega)
    have HJ := hide (join_any A' L.length c' (namesOf l L) W e3 e2 hj (by omega))
    generalize joinB (namesOf l L) = S at *
    clear q1 hcls
    gi_wp2_with fail
    refine ⟨trivial, ((callsIn_wide (n := 9)).2 HJ.out).mono ?_⟩
    rintro e W2 ⟨rfl, hb2⟩
    have hK2 := (hb2.block D (Array.getElem?_eq_some_iff.1 hK).1).trans hK
    gi_wp2
    refine ⟨by simp, .inl ⟨_, _, rfl, run_takeDeferred hK2, ?_⟩⟩
    refine ⟨.string S, by simp [results, Tryd.results41, go_sem], rfl, ?_⟩
    have HG3 := grownBy_putObj' W2 D (.deferred none)
    exact (q3.trans (hb2.mono q3.size)).grown HG3 (q3.trans (hb2.mono q3.size)).size (fun k e => by cases e; omega)
  case stop =>
    rintro D c pre W _ _ h _
    exact h.elim
end Go.Proofs.YtigkphjgidbppaaDoor
