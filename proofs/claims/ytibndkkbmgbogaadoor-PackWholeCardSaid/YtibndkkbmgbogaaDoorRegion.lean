/- A region that draws its order: what reads may be taken first while the other operations keep a fact S; the last ones, which wait for all reads, need not keep it. Conditions: none. -/
import Derived.OrdersHeld
import Derived.StillTail
import Derived.RegionTactic
namespace Go.Proofs.YtibndkkbmgbogaaDoor
open Go

section
variable {P : Program} {md : Region.Mode} {ops : Array Oper} {Q : Exit → Act → World → Prop} {S : World → Prop} {need : Nat → Bool}

def wpAnyN (P : Program) (md : Region.Mode) (ops : Array Oper) (Q : Exit → Act → World → Prop) (S : World → Prop) (need : Nat → Bool) : Nat → Array Bool → Act → World → Prop
  | 0, listed, a, w => Region.ready md ops listed = [] ∧ Q .normal a w
  | fuel + 1, listed, a, w =>
    (Region.ready md ops listed = [] → Q .normal a w) ∧
    ∀ i ∈ Region.ready md ops listed, wpOp P ops Q i (fun a' w' => (need i = true → S w') ∧ wpAnyN P md ops Q S need fuel (listed.setIfInBounds i true) a' w') a w

theorem wpAny_of_N : ∀ (fuel : Nat) (listed : Array Bool) (a : Act) (w : World), wpAnyN P md ops Q S need fuel listed a w → wpAny P md ops Q fuel listed a w
  | 0, _, _, _, h => h
  | fuel + 1, _, _, _, h => ⟨h.1, fun i hi => wpOp_mono (fun a' w' h' => wpAny_of_N fuel _ a' w' h'.2) (h.2 i hi)⟩

theorem wpAnyN_first {i : Nat} {oi : Oper} {v : Value} (hi : ops[i]? = some oi) (hsel : ∀ (j : Nat) (o : Oper) cs b, ops[j]? = some o → o.op ≠ .select cs b)
    (hQ : ∀ c a w, Q (.panic c) (a.put oi.dst v) w → Q (.panic c) a w)
    (hneed : ∀ j oj, ops[j]? = some oj → need j = false → ∃ e ∈ oj.after, Region.binds md e = true ∧ e.on = i) :
    ∀ (fuel : Nat) (listed : Array Bool) (a : Act) (w : World),
      (∀ j oj, ops[j]? = some oj → j ≠ i → listed.getD j true = false → (∀ e ∈ oj.after, Region.binds md e = true → e.on ≠ i) → oi.apart ops oj = true) →
      i ∈ Region.ready md ops listed → YieldsIf P ops S oi v a → S w →
      wpAnyN P md ops Q S need fuel (listed.setIfInBounds i true) (a.put oi.dst v) w → wpAnyN P md ops Q S need (fuel + 1) listed a w := by
  intro fuel
  induction fuel with
  | zero =>
    intro listed a w _ hr hy hS H
    refine ⟨fun h => (by rw [h] at hr; cases hr), fun j hj => ?_⟩
    by_cases hji : j = i
    · subst hji; exact hy.wpOp hi hS ⟨fun _ => hS, H⟩
    · have := ready_mono hj hji
      rw [H.1] at this
      cases this
  | succ fuel ih =>
    intro listed a w hfree hr hy hS H
    refine ⟨fun h => (by rw [h] at hr; cases hr), fun j hj => ?_⟩
    by_cases hji : j = i
    · subst hji; exact hy.wpOp hi hS ⟨fun _ => hS, H⟩
    · have h1 := H.2 j (ready_mono hj hji)
      obtain ⟨hjun, oj, hoj, hall⟩ := mem_ready.1 hj
      have hnot : ∀ e ∈ oj.after, Region.binds md e = true → e.on ≠ i := fun e he hb heq => by
        have h1 := hall e he hb
        have h0 := (mem_ready.1 hr).1
        rw [heq] at h1
        rcases Nat.lt_or_ge i listed.size with h' | h'
        · simp [h'] at h0 h1; rw [h0] at h1; cases h1
        · simp [Array.getElem?_eq_none h'] at h1
      have hnj : need j = true := by
        cases hn : need j with
        | true => rfl
        | false =>
          obtain ⟨e, he, hb, ho⟩ := hneed j oj hoj hn
          exact absurd ho (hnot e he hb)
      have h2 := wpOp_putIf hoj (hfree j oj hoj hji hjun hnot) (fun cs b => hsel i oi cs b hi) (fun cs b => hsel j oj cs b hoj) hQ hy h1
      have hfree' : ∀ k ok, ops[k]? = some ok → k ≠ i → (listed.setIfInBounds j true).getD k true = false →
          (∀ e ∈ ok.after, Region.binds md e = true → e.on ≠ i) → oi.apart ops ok = true := fun k ok hk hki hun hno => by
        refine hfree k ok hk hki ?_ hno
        by_cases hjk : j = k
        · subst hjk; exact hjun
        · rw [getD_set_ne true hjk] at hun; exact hun
      refine wpOp_mono (fun a' w' h3 => ⟨h3.2.1, ih (listed.setIfInBounds j true) a' w' hfree' (ready_mono hr (Ne.symm hji)) h3.1 (h3.2.1 hnj) ?_⟩) h2
      rw [Array.setIfInBounds_comm _ _ hji]
      exact h3.2.2

/-- all that need not keep the fact wait for operation i -/
def waitsB (md : Region.Mode) (ops : Array Oper) (need : Nat → Bool) (i : Nat) : Bool :=
  (List.range ops.size).all fun j => need j || match ops[j]? with
    | some oj => oj.after.any (fun e => Region.binds md e && e.on == i)
    | none => true
theorem waitsB_spec {i : Nat} (h : waitsB md ops need i = true) (j : Nat) (oj : Oper) (hj : ops[j]? = some oj) (hn : need j = false) : ∃ e ∈ oj.after, Region.binds md e = true ∧ e.on = i := by
  simp only [waitsB, List.all_eq_true, List.mem_range] at h
  have h1 := h j (Array.getElem?_eq_some_iff.1 hj).1
  simp only [hj, hn, Bool.false_or, Array.any_eq_true] at h1
  obtain ⟨k, hk, h2⟩ := h1
  simp only [Bool.and_eq_true, beq_iff_eq] at h2
  exact ⟨oj.after[k], Array.getElem_mem hk, h2.1, h2.2⟩

theorem wpAnyN_take {i : Nat} {oi : Oper} {v : Value} {fuel : Nat} {listed : Array Bool} {a : Act} {w : World} (hi : ops[i]? = some oi)
    (hs : Region.noSelect ops = true) (hf : Region.free md ops listed i = true) (hr : (Region.ready md ops listed).contains i = true) (hn : waitsB md ops need i = true)
    (hQ : ∀ c a w, Q (.panic c) (a.put oi.dst v) w → Q (.panic c) a w) (hS : S w) (hy : YieldsIf P ops S oi v a)
    (h : wpAnyN P md ops Q S need fuel (listed.setIfInBounds i true) (a.put oi.dst v) w) : wpAnyN P md ops Q S need (fuel + 1) listed a w :=
  wpAnyN_first hi (Region.noSelect_spec hs) hQ (waitsB_spec hn) fuel listed a w (Region.free_spec hi hf) (by simpa using hr) hy hS h

theorem wpAnyN_one {k fuel : Nat} {o : Oper} {listed : Array Bool} {a : Act} {w : World} (hr : Region.ready md ops listed = [k]) (ho : ops[k]? = some o)
    (h : ∀ K' : Act → World → Prop, (∀ a w, (need k = true → S w) ∧ wpAnyN P md ops Q S need fuel (listed.setIfInBounds k true) a w → K' a w) → if Region.wanted o (yielded ops a.tmps) = true then Oper.wp P o a w K' Q else K' (a.put o.dst undef) w) :
    wpAnyN P md ops Q S need (fuel + 1) listed a w :=
  ⟨fun h0 => (by rw [hr] at h0; cases h0), fun j hj => by
    rw [hr] at hj
    obtain rfl : j = k := by simpa using hj
    exact wpOp_step ho h⟩

/-- when nothing that is left need keep the fact -/
theorem wpAnyN_of_any : ∀ (fuel : Nat) (listed : Array Bool) (a : Act) (w : World), (∀ i, listed.getD i true = false → need i = false) → wpAny P md ops Q fuel listed a w → wpAnyN P md ops Q S need fuel listed a w
  | 0, _, _, _, _, h => h
  | fuel + 1, listed, _, _, hn, h => ⟨h.1, fun i hi => wpOp_mono (fun a' w' h' => by
      have hun := (mem_ready.1 hi).1
      refine ⟨fun e => (by rw [hn i hun] at e; cases e), wpAnyN_of_any fuel _ a' w' (fun k hk => ?_) h'⟩
      by_cases hik : i = k
      · subst hik; exact hn _ hun
      · rw [getD_set_ne true hik] at hk; exact hn k hk) (h.2 i hi)⟩

theorem wp_region_N {id : Nat} {a : Act} {w : World} (hm : P.follows .mixedOrders = true)
    (h : wpAnyN P .any ops Q S need ops.size (Array.replicate ops.size false) a w.drew) : (Code.region id ops true).wp P Q a w :=
  wp_region_any hm (wpAny_of_N _ _ _ _ h)

/-- the reads, in the order of the text -/
def wpHeads (P : Program) (ops : Array Oper) (S : World → Prop) (R : Act → Prop) : List Oper → Act → Prop
  | [], a => R a
  | o :: rest, a => ∃ v, YieldsIf P ops S o v a ∧ wpHeads P ops S R rest (a.put o.dst v)
/-- what keeps the fact, in the order of the text -/
def wpMid (P : Program) (ops : Array Oper) (S : World → Prop) (Q : Exit → Act → World → Prop) (R : Act → World → Prop) : List Oper → Act → World → Prop
  | [], a, w => R a w
  | o :: rest, a, w => ∀ K : Act → World → Prop, (∀ a w, S w ∧ wpMid P ops S Q R rest a w → K a w) → if Region.wanted o (yielded ops a.tmps) = true then Oper.wp P o a w K Q else K (a.put o.dst undef) w

def headsB (md : Region.Mode) (ops : Array Oper) (m : Nat) (mid tail : Nat) : Nat → Nat → Array Bool → Bool
  | 0, k, listed => midB mid k listed
  | f + 1, k, listed => (Region.ready md ops listed).contains k && Region.free md ops listed k && waitsB md ops (fun j => decide (j < m)) k && headsB md ops m mid tail f (k + 1) (listed.setIfInBounds k true)
where
  midB : Nat → Nat → Array Bool → Bool
  | 0, k, listed => (List.range ops.size).all (fun i => listed.getD i true || decide (m ≤ i)) && Region.seqB md ops tail k listed
  | f + 1, k, listed => decide (Region.ready md ops listed = [k]) && midB f (k + 1) (listed.setIfInBounds k true)

theorem tail_N {m g : Nat} {listed : Array Bool} {a : Act} {w : World} (l : List Oper) (k : Nat) (hl : ∀ j, l[j]? = ops[k + j]?) (hg : l.length = g) (hsz : listed.size = ops.size)
    (h : headsB.midB md ops m g 0 k listed = true) (hw : wpList P ops Q l a w) : wpAnyN P md ops Q S (fun j => decide (j < m)) g listed a w := by
  simp only [headsB.midB, Bool.and_eq_true, List.all_eq_true, List.mem_range, Bool.or_eq_true, decide_eq_true_eq] at h
  subst hg
  refine wpAnyN_of_any _ _ _ _ (fun i hi => ?_) (wpAny_of_seq l k listed a w hl h.2 hw)
  have hi' : i < ops.size := by
    rcases Nat.lt_or_ge i ops.size with h' | h'
    · exact h'
    · rw [Array.getD_eq_getD_getElem?, Array.getElem?_eq_none (by omega)] at hi; cases hi
  rcases h.1 i hi' with h1 | h1
  · rw [h1] at hi; cases hi
  · simpa using h1

theorem mid_N {m g : Nat} : ∀ (l l' : List Oper) (k : Nat) (listed : Array Bool) (a : Act) (w : World), (∀ j, (l ++ l')[j]? = ops[k + j]?) → l'.length = g → listed.size = ops.size → k + l.length = m →
    headsB.midB md ops m g l.length k listed = true → wpMid P ops S Q (wpList P ops Q l') l a w → wpAnyN P md ops Q S (fun j => decide (j < m)) (l.length + g) listed a w
  | [], l', k, listed, a, w, hl, hg, hsz, hk, hB, h => by
    simp only [List.length_nil, Nat.zero_add]
    exact tail_N l' k (by simpa using hl) hg hsz hB h
  | o :: l, l', k, listed, a, w, hl, hg, hsz, hk, hB, h => by
    have h0 : ops[k]? = some o := by simpa using (hl 0).symm
    simp only [List.length_cons, headsB.midB, Bool.and_eq_true, decide_eq_true_eq] at hB
    rw [List.length_cons, Nat.add_right_comm]
    refine wpAnyN_one hB.1 h0 (fun K hK => ?_)
    refine h K (fun a w ⟨hS, hm⟩ => hK a w ⟨fun _ => hS, mid_N l l' (k + 1) _ a w (fun j => ?_) hg (by simpa using hsz) (by simp at hk; omega) hB.2 hm⟩)
    have := hl (j + 1)
    simpa [Nat.add_assoc, Nat.add_comm 1 j] using this

theorem heads_N {m g n : Nat} (hsel : Region.noSelect ops = true) (hQ : ∀ c a d v w, Q (.panic c) (a.put d v) w → Q (.panic c) a w) : ∀ (l l1 l2 : List Oper) (k : Nat) (listed : Array Bool) (a : Act) (w : World), (∀ j, (l ++ (l1 ++ l2))[j]? = ops[k + j]?) → l1.length = n → l2.length = g → listed.size = ops.size → k + l.length + n = m → S w →
    headsB md ops m n g l.length k listed = true → wpHeads P ops S (fun a => wpMid P ops S Q (wpList P ops Q l2) l1 a w) l a → wpAnyN P md ops Q S (fun j => decide (j < m)) (l.length + (n + g)) listed a w
  | [], l1, l2, k, listed, a, w, hl, hn, hg, hsz, hk, hS, hB, h => by
    simp only [List.length_nil, Nat.zero_add]
    subst hn
    exact mid_N l1 l2 k listed a w (by simpa using hl) hg hsz (by simpa using hk) hB h
  | o :: l, l1, l2, k, listed, a, w, hl, hn, hg, hsz, hk, hS, hB, h => by
    have h0 : ops[k]? = some o := by simpa using (hl 0).symm
    simp only [List.length_cons, headsB, Bool.and_eq_true] at hB
    obtain ⟨v, hy, h⟩ := h
    rw [List.length_cons, Nat.add_right_comm]
    refine wpAnyN_take h0 hsel hB.1.1.2 hB.1.1.1 hB.1.2 (fun c a w => hQ c a _ v w) hS hy (heads_N hsel hQ l l1 l2 (k + 1) _ _ w (fun j => ?_) hn hg (by simpa using hsz) (by simp at hk; omega) hS hB.2 h)
    have := hl (j + 1)
    simpa [Nat.add_assoc, Nat.add_comm 1 j] using this

theorem region_heads_N {a : Act} {w : World} {l : List Oper} (S : World → Prop) (n t : Nat)
    (hB : (Region.noSelect l.toArray && decide (n + t ≤ l.length) && headsB md l.toArray (n + t) t (l.length - (n + t)) n 0 (Array.replicate l.length false)) = true)
    (hQ : ∀ c a d v w, Q (.panic c) (a.put d v) w → Q (.panic c) a w) (hS : S w.drew)
    (h : wpHeads P l.toArray S (fun a => wpMid P l.toArray S Q (wpList P l.toArray Q (l.drop (n + t))) ((l.drop n).take t) a w.drew) (l.take n) a) :
    wpAnyN P md l.toArray Q S (fun j => decide (j < n + t)) l.toArray.size (Array.replicate l.toArray.size false) a w.drew := by
  simp only [Bool.and_eq_true, decide_eq_true_eq] at hB
  obtain ⟨⟨hsel, hle⟩, hB⟩ := hB
  have hsplit : l.take n ++ ((l.drop n).take t ++ l.drop (n + t)) = l := by
    rw [← List.drop_drop, List.take_append_drop, List.take_append_drop]
  have h1 : (l.take n).length = n := by simp; omega
  have h2 : ((l.drop n).take t).length = t := by simp; omega
  have h3 : (l.drop (n + t)).length = l.length - (n + t) := by simp
  have hfin := heads_N (P := P) (md := md) (Q := Q) (S := S) (m := n + t) hsel hQ (l.take n) ((l.drop n).take t) (l.drop (n + t)) 0 (Array.replicate l.length false) a w.drew
    (fun j => by rw [hsplit]; simp) h2 h3 (by simp) (by omega) hS (by rw [h1]; exact hB) h
  have hs : l.toArray.size = (l.take n).length + (t + (l.length - (n + t))) := by simp; omega
  rw [hs]
  have hr : Array.replicate ((l.take n).length + (t + (l.length - (n + t)))) false = Array.replicate l.length false := by congr 1; simp; omega
  rw [hr]
  exact hfin

/-- **the walk of such a region**: n reads, then t operations that keep S, then the rest -/
theorem wp_region_heads {id : Nat} {a : Act} {w : World} {l : List Oper} (S : World → Prop) (n t : Nat) (hm : P.follows .mixedOrders = true)
    (hB : (Region.noSelect l.toArray && decide (n + t ≤ l.length) && headsB .any l.toArray (n + t) t (l.length - (n + t)) n 0 (Array.replicate l.length false)) = true)
    (hQ : ∀ c a d v w, Q (.panic c) (a.put d v) w → Q (.panic c) a w) (hS : S w.drew)
    (h : wpHeads P l.toArray S (fun a => wpMid P l.toArray S Q (wpList P l.toArray Q (l.drop (n + t))) ((l.drop n).take t) a w.drew) (l.take n) a) : (Code.region id l.toArray true).wp P Q a w :=
  wp_region_N (S := S) (need := fun j => decide (j < n + t)) hm (region_heads_N S n t hB hQ hS h)

theorem heads_step {R : Act → Prop} {o : Oper} {rest : List Oper} {a : Act} {v : Value} (hg : o.guard = none) (h1 : ∀ w, S w → (execOp a.eval o).run P w = .ok (.value v) w)
    (h : wpHeads P ops S R rest (a.put o.dst v)) : wpHeads P ops S R (o :: rest) a := ⟨v, .inl ⟨by simp [Region.wanted, hg], h1⟩, h⟩
theorem heads_nil {R : Act → Prop} {a : Act} (h : R a) : wpHeads P ops S R [] a := h
theorem mid_nil {R : Act → World → Prop} {a : Act} {w : World} (h : R a w) : wpMid P ops S Q R [] a w := h
theorem mid_step {R : Act → World → Prop} {o : Oper} {rest : List Oper} {a : Act} {w : World} (hg : o.guard = none)
    (h : ∀ K : Act → World → Prop, (∀ a w, S w ∧ wpMid P ops S Q R rest a w → K a w) → Oper.wp P o a w K Q) : wpMid P ops S Q R (o :: rest) a w := fun K hK => by
  rw [if_pos (by simp [Region.wanted, hg])]
  exact h K hK
end
end Go.Proofs.YtibndkkbmgbogaaDoor
