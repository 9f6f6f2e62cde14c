/- A region that draws its order: what reads may be taken first while the other operations keep a fact S; the last ones, which wait for all reads, need not keep it. Conditions: none. -/
import Derived.OrdersHeld
import Derived.StillTail
import Derived.RegionTactic
import Derived.Test.YtibndkkbmgbogaaDoorBase
import Derived.OrdersIn
import Derived.RangeFuncCalls
import Derived.RangeFuncLeaves
import Derived.RangeFuncBox
import Derived.TacticsIn
namespace Go.Proofs.YtibndkkbmgbogaaDoor
open Go

section
variable {P : Program} {md : Region.Mode} {ops : Array Oper} {Q : Exit → Act → World → Prop} {S : World → Prop} {need : Nat → Bool}

def wpAnyN (P : Program) (md : Region.Mode) (ops : Array Oper) (Q : Exit → Act → World → Prop) (S : World → Prop) (need : Nat → Bool) : Nat → Array Bool → Act → World → Prop
  | 0, listed, a, w => Region.ready md ops listed = [] ∧ Q .normal a w
  | fuel + 1, listed, a, w =>
    (Region.ready md ops listed = [] → Q .normal a w) ∧
    ∀ i ∈ Region.ready md ops listed, wpOp P ops Q i (fun a' w' => (need i = true → S w') ∧ wpAnyN P md ops Q S need fuel (listed.setIfInBounds i true) a' w') a w

theorem wpAny_of_N : ∀ (fuel : Nat) (listed : Array Bool) (a : Act) (w : World), wpAnyN P md ops Q S need fuel listed a w → wpAny P md ops Q fuel listed a w
  | 0, _, _, _, h => h
  | fuel + 1, _, _, _, h => ⟨h.1, fun i hi => wpOp_mono (fun a' w' h' => wpAny_of_N fuel _ a' w' h'.2) (h.2 i hi)⟩

theorem wpAnyN_first {i : Nat} {oi : Oper} {v : Value} (hi : ops[i]? = some oi) (hsel : ∀ (j : Nat) (o : Oper) cs b, ops[j]? = some o → o.op ≠ .select cs b)
    (hQ : ∀ c a w, Q (.panic c) (a.put oi.dst v) w → Q (.panic c) a w)
    (hneed : ∀ j oj, ops[j]? = some oj → need j = false → ∃ e ∈ oj.after, Region.binds md e = true ∧ e.on = i) :
    ∀ (fuel : Nat) (listed : Array Bool) (a : Act) (w : World),
      (∀ j oj, ops[j]? = some oj → j ≠ i → listed.getD j true = false → (∀ e ∈ oj.after, Region.binds md e = true → e.on ≠ i) → oi.apart ops oj = true) →
      i ∈ Region.ready md ops listed → YieldsIf P ops S oi v a → S w →
      wpAnyN P md ops Q S need fuel (listed.setIfInBounds i true) (a.put oi.dst v) w → wpAnyN P md ops Q S need (fuel + 1) listed a w := by
  intro fuel
  induction fuel with
  | zero =>
    intro listed a w _ hr hy hS H
    refine ⟨fun h => (by rw [h] at hr; cases hr), fun j hj => ?_⟩
    by_cases hji : j = i
    · subst hji; exact hy.wpOp hi hS ⟨fun _ => hS, H⟩
    · have := ready_mono hj hji
      rw [H.1] at this
      cases this
  | succ fuel ih =>
    intro listed a w hfree hr hy hS H
    refine ⟨fun h => (by rw [h] at hr; cases hr), fun j hj => ?_⟩
    by_cases hji : j = i
    · subst hji; exact hy.wpOp hi hS ⟨fun _ => hS, H⟩
    · have h1 := H.2 j (ready_mono hj hji)
      obtain ⟨hjun, oj, hoj, hall⟩ := mem_ready.1 hj
      have hnot : ∀ e ∈ oj.after, Region.binds md e = true → e.on ≠ i := fun e he hb heq => by
        have h1 := hall e he hb
        have h0 := (mem_ready.1 hr).1
        rw [heq] at h1
        rcases Nat.lt_or_ge i listed.size with h' | h'
        · simp [h'] at h0 h1; rw [h0] at h1; cases h1
        · simp [Array.getElem?_eq_none h'] at h1
      have hnj : need j = true := by
        cases hn : need j with
        | true => rfl
        | false =>
          obtain ⟨e, he, hb, ho⟩ := hneed j oj hoj hn
          exact absurd ho (hnot e he hb)
      have h2 := wpOp_putIf hoj (hfree j oj hoj hji hjun hnot) (fun cs b => hsel i oi cs b hi) (fun cs b => hsel j oj cs b hoj) hQ hy h1
      have hfree' : ∀ k ok, ops[k]? = some ok → k ≠ i → (listed.setIfInBounds j true).getD k true = false →
          (∀ e ∈ ok.after, Region.binds md e = true → e.on ≠ i) → oi.apart ops ok = true := fun k ok hk hki hun hno => by
        refine hfree k ok hk hki ?_ hno
        by_cases hjk : j = k
        · subst hjk; exact hjun
        · rw [getD_set_ne true hjk] at hun; exact hun
      refine wpOp_mono (fun a' w' h3 => ⟨h3.2.1, ih (listed.setIfInBounds j true) a' w' hfree' (ready_mono hr (Ne.symm hji)) h3.1 (h3.2.1 hnj) ?_⟩) h2
      rw [Array.setIfInBounds_comm _ _ hji]
      exact h3.2.2

/-- all that need not keep the fact wait for operation i -/
def waitsB (md : Region.Mode) (ops : Array Oper) (need : Nat → Bool) (i : Nat) : Bool :=
  (List.range ops.size).all fun j => need j || match ops[j]? with
    | some oj => oj.after.any (fun e => Region.binds md e && e.on == i)
    | none => true
theorem waitsB_spec {i : Nat} (h : waitsB md ops need i = true) (j : Nat) (oj : Oper) (hj : ops[j]? = some oj) (hn : need j = false) : ∃ e ∈ oj.after, Region.binds md e = true ∧ e.on = i := by
  simp only [waitsB, List.all_eq_true, List.mem_range] at h
  have h1 := h j (Array.getElem?_eq_some_iff.1 hj).1
  simp only [hj, hn, Bool.false_or, Array.any_eq_true] at h1
  obtain ⟨k, hk, h2⟩ := h1
  simp only [Bool.and_eq_true, beq_iff_eq] at h2
  exact ⟨oj.after[k], Array.getElem_mem hk, h2.1, h2.2⟩

theorem wpAnyN_take {i : Nat} {oi : Oper} {v : Value} {fuel : Nat} {listed : Array Bool} {a : Act} {w : World} (hi : ops[i]? = some oi)
    (hs : Region.noSelect ops = true) (hf : Region.free md ops listed i = true) (hr : (Region.ready md ops listed).contains i = true) (hn : waitsB md ops need i = true)
    (hQ : ∀ c a w, Q (.panic c) (a.put oi.dst v) w → Q (.panic c) a w) (hS : S w) (hy : YieldsIf P ops S oi v a)
    (h : wpAnyN P md ops Q S need fuel (listed.setIfInBounds i true) (a.put oi.dst v) w) : wpAnyN P md ops Q S need (fuel + 1) listed a w :=
  wpAnyN_first hi (Region.noSelect_spec hs) hQ (waitsB_spec hn) fuel listed a w (Region.free_spec hi hf) (by simpa using hr) hy hS h

theorem wpAnyN_one {k fuel : Nat} {o : Oper} {listed : Array Bool} {a : Act} {w : World} (hr : Region.ready md ops listed = [k]) (ho : ops[k]? = some o)
    (h : ∀ K' : Act → World → Prop, (∀ a w, (need k = true → S w) ∧ wpAnyN P md ops Q S need fuel (listed.setIfInBounds k true) a w → K' a w) → if Region.wanted o (yielded ops a.tmps) = true then Oper.wp P o a w K' Q else K' (a.put o.dst undef) w) :
    wpAnyN P md ops Q S need (fuel + 1) listed a w :=
  ⟨fun h0 => (by rw [hr] at h0; cases h0), fun j hj => by
    rw [hr] at hj
    obtain rfl : j = k := by simpa using hj
    exact wpOp_step ho h⟩

/-- when nothing that is left need keep the fact -/
theorem wpAnyN_of_any : ∀ (fuel : Nat) (listed : Array Bool) (a : Act) (w : World), (∀ i, listed.getD i true = false → need i = false) → wpAny P md ops Q fuel listed a w → wpAnyN P md ops Q S need fuel listed a w
  | 0, _, _, _, _, h => h
  | fuel + 1, listed, _, _, hn, h => ⟨h.1, fun i hi => wpOp_mono (fun a' w' h' => by
      have hun := (mem_ready.1 hi).1
      refine ⟨fun e => (by rw [hn i hun] at e; cases e), wpAnyN_of_any fuel _ a' w' (fun k hk => ?_) h'⟩
      by_cases hik : i = k
      · subst hik; exact hn _ hun
      · rw [getD_set_ne true hik] at hk; exact hn k hk) (h.2 i hi)⟩

theorem wp_region_N {id : Nat} {a : Act} {w : World} (hm : P.follows .mixedOrders = true)
    (h : wpAnyN P .any ops Q S need ops.size (Array.replicate ops.size false) a w.drew) : (Code.region id ops true).wp P Q a w :=
  wp_region_any hm (wpAny_of_N _ _ _ _ h)

/-- the reads, in the order of the text -/
def wpHeads (P : Program) (ops : Array Oper) (S : World → Prop) (R : Act → Prop) : List Oper → Act → Prop
  | [], a => R a
  | o :: rest, a => ∃ v, YieldsIf P ops S o v a ∧ wpHeads P ops S R rest (a.put o.dst v)
/-- what keeps the fact, in the order of the text -/
def wpMid (P : Program) (ops : Array Oper) (S : World → Prop) (Q : Exit → Act → World → Prop) (R : Act → World → Prop) : List Oper → Act → World → Prop
  | [], a, w => R a w
  | o :: rest, a, w => ∀ K : Act → World → Prop, (∀ a w, S w ∧ wpMid P ops S Q R rest a w → K a w) → if Region.wanted o (yielded ops a.tmps) = true then Oper.wp P o a w K Q else K (a.put o.dst undef) w

def headsB (md : Region.Mode) (ops : Array Oper) (m : Nat) (mid tail : Nat) : Nat → Nat → Array Bool → Bool
  | 0, k, listed => midB mid k listed
  | f + 1, k, listed => (Region.ready md ops listed).contains k && Region.free md ops listed k && waitsB md ops (fun j => decide (j < m)) k && headsB md ops m mid tail f (k + 1) (listed.setIfInBounds k true)
where
  midB : Nat → Nat → Array Bool → Bool
  | 0, k, listed => (List.range ops.size).all (fun i => listed.getD i true || decide (m ≤ i)) && Region.seqB md ops tail k listed
  | f + 1, k, listed => decide (Region.ready md ops listed = [k]) && midB f (k + 1) (listed.setIfInBounds k true)

theorem tail_N {m g : Nat} {listed : Array Bool} {a : Act} {w : World} (l : List Oper) (k : Nat) (hl : ∀ j, l[j]? = ops[k + j]?) (hg : l.length = g) (hsz : listed.size = ops.size)
    (h : headsB.midB md ops m g 0 k listed = true) (hw : wpList P ops Q l a w) : wpAnyN P md ops Q S (fun j => decide (j < m)) g listed a w := by
  simp only [headsB.midB, Bool.and_eq_true, List.all_eq_true, List.mem_range, Bool.or_eq_true, decide_eq_true_eq] at h
  subst hg
  refine wpAnyN_of_any _ _ _ _ (fun i hi => ?_) (wpAny_of_seq l k listed a w hl h.2 hw)
  have hi' : i < ops.size := by
    rcases Nat.lt_or_ge i ops.size with h' | h'
    · exact h'
    · rw [Array.getD_eq_getD_getElem?, Array.getElem?_eq_none (by omega)] at hi; cases hi
  rcases h.1 i hi' with h1 | h1
  · rw [h1] at hi; cases hi
  · simpa using h1

theorem mid_N {m g : Nat} : ∀ (l l' : List Oper) (k : Nat) (listed : Array Bool) (a : Act) (w : World), (∀ j, (l ++ l')[j]? = ops[k + j]?) → l'.length = g → listed.size = ops.size → k + l.length = m →
    headsB.midB md ops m g l.length k listed = true → wpMid P ops S Q (wpList P ops Q l') l a w → wpAnyN P md ops Q S (fun j => decide (j < m)) (l.length + g) listed a w
  | [], l', k, listed, a, w, hl, hg, hsz, hk, hB, h => by
    simp only [List.length_nil, Nat.zero_add]
    exact tail_N l' k (by simpa using hl) hg hsz hB h
  | o :: l, l', k, listed, a, w, hl, hg, hsz, hk, hB, h => by
    have h0 : ops[k]? = some o := by simpa using (hl 0).symm
    simp only [List.length_cons, headsB.midB, Bool.and_eq_true, decide_eq_true_eq] at hB
    rw [List.length_cons, Nat.add_right_comm]
    refine wpAnyN_one hB.1 h0 (fun K hK => ?_)
    refine h K (fun a w ⟨hS, hm⟩ => hK a w ⟨fun _ => hS, mid_N l l' (k + 1) _ a w (fun j => ?_) hg (by simpa using hsz) (by simp at hk; omega) hB.2 hm⟩)
    have := hl (j + 1)
    simpa [Nat.add_assoc, Nat.add_comm 1 j] using this

theorem heads_N {m g n : Nat} (hsel : Region.noSelect ops = true) (hQ : ∀ c a d v w, Q (.panic c) (a.put d v) w → Q (.panic c) a w) : ∀ (l l1 l2 : List Oper) (k : Nat) (listed : Array Bool) (a : Act) (w : World), (∀ j, (l ++ (l1 ++ l2))[j]? = ops[k + j]?) → l1.length = n → l2.length = g → listed.size = ops.size → k + l.length + n = m → S w →
    headsB md ops m n g l.length k listed = true → wpHeads P ops S (fun a => wpMid P ops S Q (wpList P ops Q l2) l1 a w) l a → wpAnyN P md ops Q S (fun j => decide (j < m)) (l.length + (n + g)) listed a w
  | [], l1, l2, k, listed, a, w, hl, hn, hg, hsz, hk, hS, hB, h => by
    simp only [List.length_nil, Nat.zero_add]
    subst hn
    exact mid_N l1 l2 k listed a w (by simpa using hl) hg hsz (by simpa using hk) hB h
  | o :: l, l1, l2, k, listed, a, w, hl, hn, hg, hsz, hk, hS, hB, h => by
    have h0 : ops[k]? = some o := by simpa using (hl 0).symm
    simp only [List.length_cons, headsB, Bool.and_eq_true] at hB
    obtain ⟨v, hy, h⟩ := h
    rw [List.length_cons, Nat.add_right_comm]
    refine wpAnyN_take h0 hsel hB.1.1.2 hB.1.1.1 hB.1.2 (fun c a w => hQ c a _ v w) hS hy (heads_N hsel hQ l l1 l2 (k + 1) _ _ w (fun j => ?_) hn hg (by simpa using hsz) (by simp at hk; omega) hS hB.2 h)
    have := hl (j + 1)
    simpa [Nat.add_assoc, Nat.add_comm 1 j] using this

theorem region_heads_N {a : Act} {w : World} {l : List Oper} (S : World → Prop) (n t : Nat)
    (hB : (Region.noSelect l.toArray && decide (n + t ≤ l.length) && headsB md l.toArray (n + t) t (l.length - (n + t)) n 0 (Array.replicate l.length false)) = true)
    (hQ : ∀ c a d v w, Q (.panic c) (a.put d v) w → Q (.panic c) a w) (hS : S w.drew)
    (h : wpHeads P l.toArray S (fun a => wpMid P l.toArray S Q (wpList P l.toArray Q (l.drop (n + t))) ((l.drop n).take t) a w.drew) (l.take n) a) :
    wpAnyN P md l.toArray Q S (fun j => decide (j < n + t)) l.toArray.size (Array.replicate l.toArray.size false) a w.drew := by
  simp only [Bool.and_eq_true, decide_eq_true_eq] at hB
  obtain ⟨⟨hsel, hle⟩, hB⟩ := hB
  have hsplit : l.take n ++ ((l.drop n).take t ++ l.drop (n + t)) = l := by
    rw [← List.drop_drop, List.take_append_drop, List.take_append_drop]
  have h1 : (l.take n).length = n := by simp; omega
  have h2 : ((l.drop n).take t).length = t := by simp; omega
  have h3 : (l.drop (n + t)).length = l.length - (n + t) := by simp
  have hfin := heads_N (P := P) (md := md) (Q := Q) (S := S) (m := n + t) hsel hQ (l.take n) ((l.drop n).take t) (l.drop (n + t)) 0 (Array.replicate l.length false) a w.drew
    (fun j => by rw [hsplit]; simp) h2 h3 (by simp) (by omega) hS (by rw [h1]; exact hB) h
  have hs : l.toArray.size = (l.take n).length + (t + (l.length - (n + t))) := by simp; omega
  rw [hs]
  have hr : Array.replicate ((l.take n).length + (t + (l.length - (n + t)))) false = Array.replicate l.length false := by congr 1; simp; omega
  rw [hr]
  exact hfin

/-- **the walk of such a region**: n reads, then t operations that keep S, then the rest -/
theorem wp_region_heads {id : Nat} {a : Act} {w : World} {l : List Oper} (S : World → Prop) (n t : Nat) (hm : P.follows .mixedOrders = true)
    (hB : (Region.noSelect l.toArray && decide (n + t ≤ l.length) && headsB .any l.toArray (n + t) t (l.length - (n + t)) n 0 (Array.replicate l.length false)) = true)
    (hQ : ∀ c a d v w, Q (.panic c) (a.put d v) w → Q (.panic c) a w) (hS : S w.drew)
    (h : wpHeads P l.toArray S (fun a => wpMid P l.toArray S Q (wpList P l.toArray Q (l.drop (n + t))) ((l.drop n).take t) a w.drew) (l.take n) a) : (Code.region id l.toArray true).wp P Q a w :=
  wp_region_N (S := S) (need := fun j => decide (j < n + t)) hm (region_heads_N S n t hB hQ hS h)

theorem heads_step {R : Act → Prop} {o : Oper} {rest : List Oper} {a : Act} {v : Value} (hg : o.guard = none) (h1 : ∀ w, S w → (execOp a.eval o).run P w = .ok (.value v) w)
    (h : wpHeads P ops S R rest (a.put o.dst v)) : wpHeads P ops S R (o :: rest) a := ⟨v, .inl ⟨by simp [Region.wanted, hg], h1⟩, h⟩
theorem heads_nil {R : Act → Prop} {a : Act} (h : R a) : wpHeads P ops S R [] a := h
theorem mid_nil {R : Act → World → Prop} {a : Act} {w : World} (h : R a w) : wpMid P ops S Q R [] a w := h
theorem mid_step {R : Act → World → Prop} {o : Oper} {rest : List Oper} {a : Act} {w : World} (hg : o.guard = none)
    (h : ∀ K : Act → World → Prop, (∀ a w, S w ∧ wpMid P ops S Q R rest a w → K a w) → Oper.wp P o a w K Q) : wpMid P ops S Q R (o :: rest) a w := fun K hK => by
  rw [if_pos (by simp [Region.wanted, hg])]
  exact h K hK
end
end Go.Proofs.YtibndkkbmgbogaaDoor

/- A region that draws its order, as in XRegion; the last operations may wait for the reads through others. Conditions: none. -/
namespace Go.Proofs.YtibndkkbmgbogaaDoor
open Go

section
variable {P : Program} {md : Region.Mode} {ops : Array Oper} {Q : Exit → Act → World → Prop} {S : World → Prop} {need : Nat → Bool}

/-- what has come up, so has all that it waits for -/
def Closed (md : Region.Mode) (ops : Array Oper) (listed : Array Bool) : Prop :=
  ∀ j oj, ops[j]? = some oj → listed.getD j false = true → ∀ e ∈ oj.after, Region.binds md e = true → listed.getD e.on false = true
theorem Closed.none (m : Nat) : Closed md ops (Array.replicate m false) := fun j _ _ h => by
  rcases Nat.lt_or_ge j m with hj | hj
  · simp [hj] at h
  · simp [hj] at h
theorem Closed.set {listed : Array Bool} {i : Nat} (h : Closed md ops listed) (hi : i ∈ Region.ready md ops listed) : Closed md ops (listed.setIfInBounds i true) := fun j oj hj hl e he hb => by
  obtain ⟨_, oi, hoi, hall⟩ := mem_ready.1 hi
  by_cases hij : i = j
  · subst hij
    have : oj = oi := Option.some.inj (hj.symm.trans hoi)
    subst this
    exact getD_set_true (hall e he hb)
  · rw [getD_set_ne false hij] at hl
    exact getD_set_true (h j oj hj hl e he hb)

/-- operation j waits for operation i, maybe through others -/
def reachB (md : Region.Mode) (ops : Array Oper) (i : Nat) : Nat → Nat → Bool
  | 0, _ => false
  | f + 1, j => match ops[j]? with
    | some oj => oj.after.any (fun e => Region.binds md e && (e.on == i || reachB md ops i f e.on))
    | none => false
theorem reach_listed {i : Nat} {listed : Array Bool} (hc : Closed md ops listed) : ∀ (f j : Nat), reachB md ops i f j = true → listed.getD j false = true → listed.getD i false = true
  | 0, _, h, _ => by cases h
  | f + 1, j, h, hl => by
    simp only [reachB] at h
    cases hj : ops[j]? with
    | none => rw [hj] at h; cases h
    | some oj =>
      rw [hj] at h
      simp only [Array.any_eq_true] at h
      obtain ⟨k, hk, h2⟩ := h
      simp only [Bool.and_eq_true, Bool.or_eq_true, beq_iff_eq] at h2
      have h3 := hc j oj hj hl oj.after[k] (Array.getElem_mem hk) h2.1
      rcases h2.2 with e | e
      · rw [e] at h3; exact h3
      · exact reach_listed hc f _ e h3
theorem ready_not {i f j : Nat} {listed : Array Bool} (hc : Closed md ops listed) (hi : i ∈ Region.ready md ops listed) (hj : j ∈ Region.ready md ops listed) (h : reachB md ops i (f + 1) j = true) : False := by
  have h0 := (mem_ready.1 hi).1
  obtain ⟨_, oj, hoj, hall⟩ := mem_ready.1 hj
  have hno : ¬ listed.getD i false = true := fun h1 => by
    rcases Nat.lt_or_ge i listed.size with h' | h'
    · simp [h'] at h0 h1; rw [h0] at h1; cases h1
    · simp [Array.getElem?_eq_none h'] at h1
  simp only [reachB, hoj, Array.any_eq_true] at h
  obtain ⟨k, hk, h2⟩ := h
  simp only [Bool.and_eq_true, Bool.or_eq_true, beq_iff_eq] at h2
  have h3 := hall oj.after[k] (Array.getElem_mem hk) h2.1
  rcases h2.2 with e | e
  · rw [e] at h3; exact hno h3
  · exact hno (reach_listed hc f _ e h3)

theorem wpAnyN_firstT {i : Nat} {oi : Oper} {v : Value} (hi : ops[i]? = some oi) (hsel : ∀ (j : Nat) (o : Oper) cs b, ops[j]? = some o → o.op ≠ .select cs b)
    (hQ : ∀ c a w, Q (.panic c) (a.put oi.dst v) w → Q (.panic c) a w)
    (hneed : ∀ j oj, ops[j]? = some oj → need j = false → ∃ f, reachB md ops i (f + 1) j = true) :
    ∀ (fuel : Nat) (listed : Array Bool) (a : Act) (w : World), Closed md ops listed →
      (∀ j oj, ops[j]? = some oj → j ≠ i → listed.getD j true = false → (∀ e ∈ oj.after, Region.binds md e = true → e.on ≠ i) → oi.apart ops oj = true) →
      i ∈ Region.ready md ops listed → YieldsIf P ops S oi v a → S w →
      wpAnyN P md ops Q S need fuel (listed.setIfInBounds i true) (a.put oi.dst v) w → wpAnyN P md ops Q S need (fuel + 1) listed a w := by
  intro fuel
  induction fuel with
  | zero =>
    intro listed a w _ _ hr hy hS H
    refine ⟨fun h => (by rw [h] at hr; cases hr), fun j hj => ?_⟩
    by_cases hji : j = i
    · subst hji; exact hy.wpOp hi hS ⟨fun _ => hS, H⟩
    · have := ready_mono hj hji
      rw [H.1] at this
      cases this
  | succ fuel ih =>
    intro listed a w hcl hfree hr hy hS H
    refine ⟨fun h => (by rw [h] at hr; cases hr), fun j hj => ?_⟩
    by_cases hji : j = i
    · subst hji; exact hy.wpOp hi hS ⟨fun _ => hS, H⟩
    · have h1 := H.2 j (ready_mono hj hji)
      obtain ⟨hjun, oj, hoj, hall⟩ := mem_ready.1 hj
      have hnot : ∀ e ∈ oj.after, Region.binds md e = true → e.on ≠ i := fun e he hb heq => by
        have h1 := hall e he hb
        have h0 := (mem_ready.1 hr).1
        rw [heq] at h1
        rcases Nat.lt_or_ge i listed.size with h' | h'
        · simp [h'] at h0 h1; rw [h0] at h1; cases h1
        · simp [Array.getElem?_eq_none h'] at h1
      have hnj : need j = true := by
        cases hn : need j with
        | true => rfl
        | false =>
          obtain ⟨f, hf⟩ := hneed j oj hoj hn
          exact (ready_not hcl hr hj hf).elim
      have h2 := wpOp_putIf hoj (hfree j oj hoj hji hjun hnot) (fun cs b => hsel i oi cs b hi) (fun cs b => hsel j oj cs b hoj) hQ hy h1
      have hfree' : ∀ k ok, ops[k]? = some ok → k ≠ i → (listed.setIfInBounds j true).getD k true = false →
          (∀ e ∈ ok.after, Region.binds md e = true → e.on ≠ i) → oi.apart ops ok = true := fun k ok hk hki hun hno => by
        refine hfree k ok hk hki ?_ hno
        by_cases hjk : j = k
        · subst hjk; exact hjun
        · rw [getD_set_ne true hjk] at hun; exact hun
      refine wpOp_mono (fun a' w' h3 => ⟨h3.2.1, ih (listed.setIfInBounds j true) a' w' (hcl.set hj) hfree' (ready_mono hr (Ne.symm hji)) h3.1 (h3.2.1 hnj) ?_⟩) h2
      rw [Array.setIfInBounds_comm _ _ hji]
      exact h3.2.2

def waitsT (md : Region.Mode) (ops : Array Oper) (need : Nat → Bool) (i : Nat) : Bool := (List.range ops.size).all fun j => need j || reachB md ops i (ops.size + 1) j
theorem waitsT_spec {i : Nat} (h : waitsT md ops need i = true) (j : Nat) (oj : Oper) (hj : ops[j]? = some oj) (hn : need j = false) : ∃ f, reachB md ops i (f + 1) j = true := by
  simp only [waitsT, List.all_eq_true, List.mem_range] at h
  have h1 := h j (Array.getElem?_eq_some_iff.1 hj).1
  simp only [hn, Bool.false_or] at h1
  exact ⟨_, h1⟩

def headsT (md : Region.Mode) (ops : Array Oper) (m : Nat) (mid tail : Nat) : Nat → Nat → Array Bool → Bool
  | 0, k, listed => headsB.midB md ops m tail mid k listed
  | f + 1, k, listed => (Region.ready md ops listed).contains k && Region.free md ops listed k && waitsT md ops (fun j => decide (j < m)) k && headsT md ops m mid tail f (k + 1) (listed.setIfInBounds k true)

theorem heads_T {m g n : Nat} (hsel : Region.noSelect ops = true) (hQ : ∀ c a d v w, Q (.panic c) (a.put d v) w → Q (.panic c) a w) : ∀ (l l1 l2 : List Oper) (k : Nat) (listed : Array Bool) (a : Act) (w : World), (∀ j, (l ++ (l1 ++ l2))[j]? = ops[k + j]?) → l1.length = n → l2.length = g → listed.size = ops.size → k + l.length + n = m → S w → Closed md ops listed →
    headsT md ops m n g l.length k listed = true → wpHeads P ops S (fun a => wpMid P ops S Q (wpList P ops Q l2) l1 a w) l a → wpAnyN P md ops Q S (fun j => decide (j < m)) (l.length + (n + g)) listed a w
  | [], l1, l2, k, listed, a, w, hl, hn, hg, hsz, hk, hS, hc, hB, h => by
    simp only [List.length_nil, Nat.zero_add]
    subst hn
    exact mid_N l1 l2 k listed a w (by simpa using hl) hg hsz (by simpa using hk) hB h
  | o :: l, l1, l2, k, listed, a, w, hl, hn, hg, hsz, hk, hS, hc, hB, h => by
    have h0 : ops[k]? = some o := by simpa using (hl 0).symm
    simp only [List.length_cons, headsT, Bool.and_eq_true] at hB
    obtain ⟨v, hy, h⟩ := h
    rw [List.length_cons, Nat.add_right_comm]
    have hr : k ∈ Region.ready md ops listed := by simpa using hB.1.1.1
    refine wpAnyN_firstT h0 (Region.noSelect_spec hsel) (fun c a w => hQ c a _ v w) (waitsT_spec hB.1.2) _ listed a w hc (Region.free_spec h0 hB.1.1.2) hr hy hS ?_
    refine heads_T hsel hQ l l1 l2 (k + 1) _ _ w (fun j => ?_) hn hg (by simpa using hsz) (by simp at hk; omega) hS (hc.set hr) hB.2 h
    have := hl (j + 1)
    simpa [Nat.add_assoc, Nat.add_comm 1 j] using this

/-- **the walk of such a region**: n reads, then t operations that keep S, then the rest -/
theorem wp_region_headsT {id : Nat} {a : Act} {w : World} {l : List Oper} (S : World → Prop) (n t : Nat) (hm : P.follows .mixedOrders = true)
    (hB : (Region.noSelect l.toArray && decide (n + t ≤ l.length) && headsT .any l.toArray (n + t) t (l.length - (n + t)) n 0 (Array.replicate l.length false)) = true)
    (hQ : ∀ c a d v w, Q (.panic c) (a.put d v) w → Q (.panic c) a w) (hS : S w.drew)
    (h : wpHeads P l.toArray S (fun a => wpMid P l.toArray S Q (wpList P l.toArray Q (l.drop (n + t))) ((l.drop n).take t) a w.drew) (l.take n) a) : (Code.region id l.toArray true).wp P Q a w := by
  simp only [Bool.and_eq_true, decide_eq_true_eq] at hB
  obtain ⟨⟨hsel, hle⟩, hB⟩ := hB
  have hsplit : l.take n ++ ((l.drop n).take t ++ l.drop (n + t)) = l := by
    rw [← List.drop_drop, List.take_append_drop, List.take_append_drop]
  have h1 : (l.take n).length = n := by simp; omega
  have h2 : ((l.drop n).take t).length = t := by simp; omega
  have h3 : (l.drop (n + t)).length = l.length - (n + t) := by simp
  have hfin := heads_T (P := P) (md := .any) (Q := Q) (S := S) (m := n + t) hsel hQ (l.take n) ((l.drop n).take t) (l.drop (n + t)) 0 (Array.replicate l.length false) a w.drew
    (fun j => by rw [hsplit]; simp) h2 h3 (by simp) (by omega) hS (Closed.none _) (by rw [h1]; exact hB) h
  refine wp_region_N (S := S) (need := fun j => decide (j < n + t)) hm ?_
  have hs : l.toArray.size = (l.take n).length + (t + (l.length - (n + t))) := by simp; omega
  rw [hs]
  have hr : Array.replicate ((l.take n).length + (t + (l.length - (n + t)))) false = Array.replicate l.length false := by congr 1; simp; omega
  rw [hr]
  exact hfin
end
end Go.Proofs.YtibndkkbmgbogaaDoor

/- A region that draws its order, its reads named by their numbers in whatever order, then the rest in its one order. Conditions: none. -/
namespace Go.Proofs.YtibndkkbmgbogaaDoor
open Go

section
variable {P : Program} {md : Region.Mode} {ops : Array Oper} {Q : Exit → Act → World → Prop} {S : World → Prop} {need : Nat → Bool}

def seqL (md : Region.Mode) (ops : Array Oper) : List Nat → Array Bool → Bool
  | [], listed => decide (Region.ready md ops listed = [])
  | k :: ks, listed => decide (Region.ready md ops listed = [k]) && seqL md ops ks (listed.setIfInBounds k true)
def headsL (md : Region.Mode) (ops : Array Oper) (need : Nat → Bool) (tail : List Nat) : List Nat → Array Bool → Bool
  | [], listed => seqL md ops tail listed
  | k :: ks, listed => (Region.ready md ops listed).contains k && Region.free md ops listed k && waitsT md ops need k && headsL md ops need tail ks (listed.setIfInBounds k true)

def wpSeqL (P : Program) (ops : Array Oper) (S : World → Prop) (need : Nat → Bool) (Q : Exit → Act → World → Prop) : List Nat → Act → World → Prop
  | [], a, w => Q .normal a w
  | k :: ks, a, w => ∃ o, ops[k]? = some o ∧ ∀ K : Act → World → Prop, (∀ a w, (need k = true → S w) ∧ wpSeqL P ops S need Q ks a w → K a w) → if Region.wanted o (yielded ops a.tmps) = true then Oper.wp P o a w K Q else K (a.put o.dst undef) w
def wpHeadsL (P : Program) (ops : Array Oper) (S : World → Prop) (R : Act → Prop) : List Nat → Act → Prop
  | [], a => R a
  | k :: ks, a => ∃ o v, ops[k]? = some o ∧ YieldsIf P ops S o v a ∧ wpHeadsL P ops S R ks (a.put o.dst v)

theorem seq_L : ∀ (ks : List Nat) (listed : Array Bool) (a : Act) (w : World), seqL md ops ks listed = true → wpSeqL P ops S need Q ks a w → wpAnyN P md ops Q S need ks.length listed a w
  | [], listed, a, w, hB, h => ⟨by simpa [seqL] using hB, h⟩
  | k :: ks, listed, a, w, hB, h => by
    simp only [seqL, Bool.and_eq_true, decide_eq_true_eq] at hB
    obtain ⟨o, ho, h⟩ := h
    exact wpAnyN_one hB.1 ho (fun K hK => h K (fun a w ⟨hS, h2⟩ => hK a w ⟨hS, seq_L ks _ a w hB.2 h2⟩))

theorem heads_L (hsel : Region.noSelect ops = true) (hQ : ∀ c a d v w, Q (.panic c) (a.put d v) w → Q (.panic c) a w) (tail : List Nat) : ∀ (ks : List Nat) (listed : Array Bool) (a : Act) (w : World), Closed md ops listed → S w →
    headsL md ops need tail ks listed = true → wpHeadsL P ops S (fun a => wpSeqL P ops S need Q tail a w) ks a → wpAnyN P md ops Q S need (ks.length + tail.length) listed a w
  | [], listed, a, w, _, _, hB, h => by
    simp only [List.length_nil, Nat.zero_add]
    exact seq_L tail listed a w hB h
  | k :: ks, listed, a, w, hc, hS, hB, h => by
    simp only [headsL, Bool.and_eq_true] at hB
    obtain ⟨o, v, ho, hy, h⟩ := h
    rw [List.length_cons, Nat.add_right_comm]
    have hr : k ∈ Region.ready md ops listed := by simpa using hB.1.1.1
    exact wpAnyN_firstT ho (Region.noSelect_spec hsel) (fun c a w => hQ c a _ v w) (waitsT_spec hB.1.2) _ listed a w hc (Region.free_spec ho hB.1.1.2) hr hy hS (heads_L hsel hQ tail ks _ _ w (hc.set hr) hS hB.2 h)

/-- **the walk of such a region** -/
theorem wp_region_L {id : Nat} {a : Act} {w : World} {ops : Array Oper} (S : World → Prop) (need : Nat → Bool) (hs ts : List Nat) (hm : P.follows .mixedOrders = true)
    (hB : (Region.noSelect ops && decide (hs.length + ts.length = ops.size) && headsL .any ops need ts hs (Array.replicate ops.size false)) = true)
    (hQ : ∀ c a d v w, Q (.panic c) (a.put d v) w → Q (.panic c) a w) (hS : S w.drew)
    (h : wpHeadsL P ops S (fun a => wpSeqL P ops S need Q ts a w.drew) hs a) : (Code.region id ops true).wp P Q a w := by
  simp only [Bool.and_eq_true, decide_eq_true_eq] at hB
  refine wp_region_N (S := S) (need := need) hm ?_
  have := heads_L (P := P) (md := .any) (Q := Q) (S := S) (need := need) hB.1.1 hQ ts hs (Array.replicate ops.size false) a w.drew (Closed.none _) hS hB.2 h
  rw [hB.1.2] at this
  exact this

theorem headsL_step {R : Act → Prop} {k : Nat} {o : Oper} {ks : List Nat} {a : Act} {v : Value} (ho : ops[k]? = some o) (hg : o.guard = none) (h1 : ∀ w, S w → (execOp a.eval o).run P w = .ok (.value v) w)
    (h : wpHeadsL P ops S R ks (a.put o.dst v)) : wpHeadsL P ops S R (k :: ks) a := ⟨o, v, ho, .inl ⟨by simp [Region.wanted, hg], h1⟩, h⟩
theorem headsL_nil {R : Act → Prop} {a : Act} (h : R a) : wpHeadsL P ops S R [] a := h
theorem seqL_nil {a : Act} {w : World} (h : Q .normal a w) : wpSeqL P ops S need Q [] a w := h
theorem seqL_step {k : Nat} {o : Oper} {ks : List Nat} {a : Act} {w : World} (ho : ops[k]? = some o) (hg : o.guard = none)
    (h : ∀ K : Act → World → Prop, (∀ a w, (need k = true → S w) ∧ wpSeqL P ops S need Q ks a w → K a w) → Oper.wp P o a w K Q) : wpSeqL P ops S need Q (k :: ks) a w :=
  ⟨o, ho, fun K hK => by
    rw [if_pos (by simp [Region.wanted, hg])]
    exact h K hK⟩
end
end Go.Proofs.YtibndkkbmgbogaaDoor

/- A region that draws its order, in the body of a loop over a function: as ahead of the loop (wp_region_heads). Conditions: no operation of it is a defer statement; the way out lets no machine out of memory. Marks of loops that are over: how a function leaves behind them. -/
namespace Go.Proofs.YtibndkkbmgbogaaDoor
open Go Go.RowKit

section
variable {P : Program} {md : Region.Mode} {ops : Array Oper} {Q : Exit → Act → World → Prop} {S : World → Prop} {l n : Nat}

def noDefer (ops : Array Oper) : Bool := ops.all fun o => match o.op with | .defer _ => false | _ => true
theorem noDefer_spec (h : noDefer ops = true) (j : Nat) (o : Oper) (hj : ops[j]? = some o) (c : Call) : o.op ≠ .defer c := by
  intro e
  obtain ⟨hlt, rfl⟩ := Array.getElem?_eq_some_iff.1 hj
  have h2 := (Array.all_eq_true.1 h) j hlt
  rw [e] at h2
  cases h2

theorem wpOpIn_round {i : Nat} {K K' : Act → World → Prop} {a : Act} {w : World} (hd : noDefer ops = true) (hL : ¬ LetsOut Q) (hK : ∀ a w, K a w → K' a w) (h : wpOp P ops Q i K a w) :
    wpOpIn (Fence.wide.inRound l) n P ops Q i K' a w := by
  unfold wpOp at h
  unfold wpOpIn
  cases ho : ops[i]? with
  | none => simp only [ho] at h ⊢; exact hK _ _ h
  | some o =>
    simp only [ho] at h ⊢
    have hnd := noDefer_spec hd i o ho
    split
    · rename_i hw
      simp only [hw, if_true] at h
      rcases h with h | ⟨_, h⟩
      case inr => exact absurd h hL
      unfold Oper.wp at h
      unfold Oper.wpIn
      refine ⟨fun _ _ => trivial, ?_⟩
      rw [show (Fence.wide.inRound l).round = some l from rfl, Oper.semAt_some l _ _ hnd]
      generalize (execOp a.eval o).run P w = r at *
      cases r with
      | ok x w' =>
        cases x <;> simp only [Oper.upon, Oper.uponIn] at h ⊢
        case value u => exact hK _ _ h
        case skip => exact hK _ _ h
        case defer d => exact hK _ _ h
        case enter f args =>
          refine ⟨fun e => (by cases e), (CallsIn.inRound l (callsIn_wide.2 h)).mono fun e w'' he => ?_⟩
          cases e with
          | returned u => exact hK _ _ he
          | panicked c => exact he
          | outgrown => exact he
        case row row args =>
          refine ⟨fun e => (by cases e), fun c cs _ => ?_⟩
          obtain ⟨v, w'', r, s⟩ := h c cs
          exact ⟨v, w'', hK _ _ r, stepsIn_wide.2 s⟩
      | halt x w' => cases x <;> simp only [Oper.upon, Oper.uponIn] at h ⊢ <;> exact h
    · rename_i hw
      simp only [hw] at h
      exact ⟨fun _ _ => trivial, hK _ _ h⟩

theorem wpAnyIn_round (hd : noDefer ops = true) (hL : ¬ LetsOut Q) : ∀ (fuel : Nat) (listed : Array Bool) (a : Act) (w : World), wpAny P md ops Q fuel listed a w → wpAnyIn (Fence.wide.inRound l) n P md ops Q fuel listed a w
  | 0, _, _, _, h => h
  | fuel + 1, _, _, _, h => ⟨h.1, fun i hi => wpOpIn_round hd hL (fun a w h' => wpAnyIn_round hd hL fuel _ a w h') (h.2 i hi)⟩

/-- **the walk of such a region in a round** -/
theorem wpIn_round_heads {id : Nat} {a : Act} {w : World} {lo : List Oper} (S : World → Prop) (m t : Nat) (hm : P.follows .mixedOrders = true)
    (hB : (Region.noSelect lo.toArray && decide (m + t ≤ lo.length) && headsB .any lo.toArray (m + t) t (lo.length - (m + t)) m 0 (Array.replicate lo.length false)) = true)
    (hd : noDefer lo.toArray = true) (hL : ¬ LetsOut Q)
    (hQ : ∀ c a d v w, Q (.panic c) (a.put d v) w → Q (.panic c) a w) (hS : S w.drew)
    (h : wpHeads P lo.toArray S (fun a => wpMid P lo.toArray S Q (wpList P lo.toArray Q (lo.drop (m + t))) ((lo.drop m).take t) a w.drew) (lo.take m) a) : (Code.region id lo.toArray true).wpIn (Fence.wide.inRound l) n P Q a w :=
  wpIn_region_any hm (wpAnyIn_round hd hL _ _ _ _ (wpAny_of_N _ _ _ _ (region_heads_N S m t hB hQ hS h)))
end

section
variable {P : Program} {fn : Func} {tmps : Array Value} {R : Ending → World → Prop} {n : Nat}
def markOf (D : Nat) : Deferred := { target := .collected D, args := #[] }
/-- blocks of loops that are over, none of which has taken a deferred call -/
def Marks (lo : Nat) (w : World) (Ds : List Nat) : Prop := Ds.Nodup ∧ ∀ D ∈ Ds, lo ≤ D ∧ w.heap[D]? = some (.deferred (some []))
theorem Marks.nil {lo : Nat} {w : World} : Marks lo w [] := ⟨List.nodup_nil, fun _ h => by cases h⟩
theorem Marks.cons {lo D : Nat} {w : World} {Ds : List Nat} (h : Marks lo w Ds) (hD : ∀ d ∈ Ds, d < D) (hlo : lo ≤ D) (hw : w.heap[D]? = some (.deferred (some []))) : Marks lo w (D :: Ds) :=
  ⟨List.nodup_cons.2 ⟨fun e => Nat.lt_irrefl _ (hD D e), h.1⟩, fun d hd => by
    rcases List.mem_cons.1 hd with rfl | hd
    · exact ⟨hlo, hw⟩
    · exact h.2 d hd⟩
theorem Marks.keep {lo B : Nat} {w w' : World} {Ds : List Nat} (h : Marks lo w Ds) (hk : KeepsFrom B w w') (hB : B ≤ lo) : Marks lo w' Ds :=
  ⟨h.1, fun D hD => ⟨(h.2 D hD).1, hk.same D _ (Nat.le_trans hB (h.2 D hD).1) (h.2 D hD).2 rfl⟩⟩
theorem Marks.lt {lo : Nat} {w : World} {Ds : List Nat} (h : Marks lo w Ds) : ∀ d ∈ Ds, d < w.heap.size := fun d hd => (Array.getElem?_eq_some_iff.1 (h.2 d hd).2).1

theorem leaves_marks {lo : Nat} : ∀ (Ds : List Nat) (w : World), Marks lo w Ds → (∀ w', Below lo w w' → LeavesIn Fence.wide n P fn tmps R [] .returning w') →
    LeavesInM Fence.wide n P fn tmps R (Ds.map markOf) .returning w
  | [], w, _, h => h w (Below.refl _ _)
  | D :: Ds, w, hM, h => by
    obtain ⟨hlo, hK⟩ := hM.2 D (by simp)
    obtain ⟨hn, hnd⟩ := List.nodup_cons.1 hM.1
    refine ⟨by simp, .inl ⟨D, _, rfl, run_takeDeferred hK, ?_⟩⟩
    have hg := grownBy_putObj' w D (.deferred none)
    have hb : Below lo w (w.putObj D (.deferred none)) := (Below.refl _ _).grown hg (Nat.le_of_lt (Nat.lt_of_le_of_lt hlo (Array.getElem?_eq_some_iff.1 hK).1)) (fun k e => by cases e; exact hlo)
    refine leaves_marks Ds _ ⟨hnd, fun d hd => ⟨(hM.2 d (by simp [hd])).1, ?_⟩⟩ (fun w' hw' => h w' (hb.trans hw'))
    have hne : d ≠ D := fun e => hn (e ▸ hd)
    exact (hg.block d (Array.getElem?_eq_some_iff.1 (hM.2 d (by simp [hd])).2).1 (fun e => by cases e; exact hne rfl)).trans (hM.2 d (by simp [hd])).2
end
end Go.Proofs.YtibndkkbmgbogaaDoor
