/- A region that draws its order, as in XRegion; the last operations may wait for the reads through others. Conditions: none. -/
import Derived.Test.YtibndkkbmgbogaaDoorRegion
namespace Go.Proofs.YtibndkkbmgbogaaDoor
open Go

section
variable {P : Program} {md : Region.Mode} {ops : Array Oper} {Q : Exit → Act → World → Prop} {S : World → Prop} {need : Nat → Bool}

/-- what has come up, so has all that it waits for -/
def Closed (md : Region.Mode) (ops : Array Oper) (listed : Array Bool) : Prop :=
  ∀ j oj, ops[j]? = some oj → listed.getD j false = true → ∀ e ∈ oj.after, Region.binds md e = true → listed.getD e.on false = true
theorem Closed.none (m : Nat) : Closed md ops (Array.replicate m false) := fun j _ _ h => by
  rcases Nat.lt_or_ge j m with hj | hj
  · simp [hj] at h
  · simp [hj] at h
theorem Closed.set {listed : Array Bool} {i : Nat} (h : Closed md ops listed) (hi : i ∈ Region.ready md ops listed) : Closed md ops (listed.setIfInBounds i true) := fun j oj hj hl e he hb => by
  obtain ⟨_, oi, hoi, hall⟩ := mem_ready.1 hi
  by_cases hij : i = j
  · subst hij
    have : oj = oi := Option.some.inj (hj.symm.trans hoi)
    subst this
    exact getD_set_true (hall e he hb)
  · rw [getD_set_ne false hij] at hl
    exact getD_set_true (h j oj hj hl e he hb)

/-- operation j waits for operation i, maybe through others -/
def reachB (md : Region.Mode) (ops : Array Oper) (i : Nat) : Nat → Nat → Bool
  | 0, _ => false
  | f + 1, j => match ops[j]? with
    | some oj => oj.after.any (fun e => Region.binds md e && (e.on == i || reachB md ops i f e.on))
    | none => false
theorem reach_listed {i : Nat} {listed : Array Bool} (hc : Closed md ops listed) : ∀ (f j : Nat), reachB md ops i f j = true → listed.getD j false = true → listed.getD i false = true
  | 0, _, h, _ => by cases h
  | f + 1, j, h, hl => by
    simp only [reachB] at h
    cases hj : ops[j]? with
    | none => rw [hj] at h; cases h
    | some oj =>
      rw [hj] at h
      simp only [Array.any_eq_true] at h
      obtain ⟨k, hk, h2⟩ := h
      simp only [Bool.and_eq_true, Bool.or_eq_true, beq_iff_eq] at h2
      have h3 := hc j oj hj hl oj.after[k] (Array.getElem_mem hk) h2.1
      rcases h2.2 with e | e
      · rw [e] at h3; exact h3
      · exact reach_listed hc f _ e h3
theorem ready_not {i f j : Nat} {listed : Array Bool} (hc : Closed md ops listed) (hi : i ∈ Region.ready md ops listed) (hj : j ∈ Region.ready md ops listed) (h : reachB md ops i (f + 1) j = true) : False := by
  have h0 := (mem_ready.1 hi).1
  obtain ⟨_, oj, hoj, hall⟩ := mem_ready.1 hj
  have hno : ¬ listed.getD i false = true := fun h1 => by
    rcases Nat.lt_or_ge i listed.size with h' | h'
    · simp [h'] at h0 h1; rw [h0] at h1; cases h1
    · simp [Array.getElem?_eq_none h'] at h1
  simp only [reachB, hoj, Array.any_eq_true] at h
  obtain ⟨k, hk, h2⟩ := h
  simp only [Bool.and_eq_true, Bool.or_eq_true, beq_iff_eq] at h2
  have h3 := hall oj.after[k] (Array.getElem_mem hk) h2.1
  rcases h2.2 with e | e
  · rw [e] at h3; exact hno h3
  · exact hno (reach_listed hc f _ e h3)

theorem wpAnyN_firstT {i : Nat} {oi : Oper} {v : Value} (hi : ops[i]? = some oi) (hsel : ∀ (j : Nat) (o : Oper) cs b, ops[j]? = some o → o.op ≠ .select cs b)
    (hQ : ∀ c a w, Q (.panic c) (a.put oi.dst v) w → Q (.panic c) a w)
    (hneed : ∀ j oj, ops[j]? = some oj → need j = false → ∃ f, reachB md ops i (f + 1) j = true) :
    ∀ (fuel : Nat) (listed : Array Bool) (a : Act) (w : World), Closed md ops listed →
      (∀ j oj, ops[j]? = some oj → j ≠ i → listed.getD j true = false → (∀ e ∈ oj.after, Region.binds md e = true → e.on ≠ i) → oi.apart ops oj = true) →
      i ∈ Region.ready md ops listed → YieldsIf P ops S oi v a → S w →
      wpAnyN P md ops Q S need fuel (listed.setIfInBounds i true) (a.put oi.dst v) w → wpAnyN P md ops Q S need (fuel + 1) listed a w := by
  intro fuel
  induction fuel with
  | zero =>
    intro listed a w _ _ hr hy hS H
    refine ⟨fun h => (by rw [h] at hr; cases hr), fun j hj => ?_⟩
    by_cases hji : j = i
    · subst hji; exact hy.wpOp hi hS ⟨fun _ => hS, H⟩
    · have := ready_mono hj hji
      rw [H.1] at this
      cases this
  | succ fuel ih =>
    intro listed a w hcl hfree hr hy hS H
    refine ⟨fun h => (by rw [h] at hr; cases hr), fun j hj => ?_⟩
    by_cases hji : j = i
    · subst hji; exact hy.wpOp hi hS ⟨fun _ => hS, H⟩
    · have h1 := H.2 j (ready_mono hj hji)
      obtain ⟨hjun, oj, hoj, hall⟩ := mem_ready.1 hj
      have hnot : ∀ e ∈ oj.after, Region.binds md e = true → e.on ≠ i := fun e he hb heq => by
        have h1 := hall e he hb
        have h0 := (mem_ready.1 hr).1
        rw [heq] at h1
        rcases Nat.lt_or_ge i listed.size with h' | h'
        · simp [h'] at h0 h1; rw [h0] at h1; cases h1
        · simp [Array.getElem?_eq_none h'] at h1
      have hnj : need j = true := by
        cases hn : need j with
        | true => rfl
        | false =>
          obtain ⟨f, hf⟩ := hneed j oj hoj hn
          exact (ready_not hcl hr hj hf).elim
      have h2 := wpOp_putIf hoj (hfree j oj hoj hji hjun hnot) (fun cs b => hsel i oi cs b hi) (fun cs b => hsel j oj cs b hoj) hQ hy h1
      have hfree' : ∀ k ok, ops[k]? = some ok → k ≠ i → (listed.setIfInBounds j true).getD k true = false →
          (∀ e ∈ ok.after, Region.binds md e = true → e.on ≠ i) → oi.apart ops ok = true := fun k ok hk hki hun hno => by
        refine hfree k ok hk hki ?_ hno
        by_cases hjk : j = k
        · subst hjk; exact hjun
        · rw [getD_set_ne true hjk] at hun; exact hun
      refine wpOp_mono (fun a' w' h3 => ⟨h3.2.1, ih (listed.setIfInBounds j true) a' w' (hcl.set hj) hfree' (ready_mono hr (Ne.symm hji)) h3.1 (h3.2.1 hnj) ?_⟩) h2
      rw [Array.setIfInBounds_comm _ _ hji]
      exact h3.2.2

def waitsT (md : Region.Mode) (ops : Array Oper) (need : Nat → Bool) (i : Nat) : Bool := (List.range ops.size).all fun j => need j || reachB md ops i (ops.size + 1) j
theorem waitsT_spec {i : Nat} (h : waitsT md ops need i = true) (j : Nat) (oj : Oper) (hj : ops[j]? = some oj) (hn : need j = false) : ∃ f, reachB md ops i (f + 1) j = true := by
  simp only [waitsT, List.all_eq_true, List.mem_range] at h
  have h1 := h j (Array.getElem?_eq_some_iff.1 hj).1
  simp only [hn, Bool.false_or] at h1
  exact ⟨_, h1⟩

def headsT (md : Region.Mode) (ops : Array Oper) (m : Nat) (mid tail : Nat) : Nat → Nat → Array Bool → Bool
  | 0, k, listed => headsB.midB md ops m tail mid k listed
  | f + 1, k, listed => (Region.ready md ops listed).contains k && Region.free md ops listed k && waitsT md ops (fun j => decide (j < m)) k && headsT md ops m mid tail f (k + 1) (listed.setIfInBounds k true)

theorem heads_T {m g n : Nat} (hsel : Region.noSelect ops = true) (hQ : ∀ c a d v w, Q (.panic c) (a.put d v) w → Q (.panic c) a w) : ∀ (l l1 l2 : List Oper) (k : Nat) (listed : Array Bool) (a : Act) (w : World), (∀ j, (l ++ (l1 ++ l2))[j]? = ops[k + j]?) → l1.length = n → l2.length = g → listed.size = ops.size → k + l.length + n = m → S w → Closed md ops listed →
    headsT md ops m n g l.length k listed = true → wpHeads P ops S (fun a => wpMid P ops S Q (wpList P ops Q l2) l1 a w) l a → wpAnyN P md ops Q S (fun j => decide (j < m)) (l.length + (n + g)) listed a w
  | [], l1, l2, k, listed, a, w, hl, hn, hg, hsz, hk, hS, hc, hB, h => by
    simp only [List.length_nil, Nat.zero_add]
    subst hn
    exact mid_N l1 l2 k listed a w (by simpa using hl) hg hsz (by simpa using hk) hB h
  | o :: l, l1, l2, k, listed, a, w, hl, hn, hg, hsz, hk, hS, hc, hB, h => by
    have h0 : ops[k]? = some o := by simpa using (hl 0).symm
    simp only [List.length_cons, headsT, Bool.and_eq_true] at hB
    obtain ⟨v, hy, h⟩ := h
    rw [List.length_cons, Nat.add_right_comm]
    have hr : k ∈ Region.ready md ops listed := by simpa using hB.1.1.1
    refine wpAnyN_firstT h0 (Region.noSelect_spec hsel) (fun c a w => hQ c a _ v w) (waitsT_spec hB.1.2) _ listed a w hc (Region.free_spec h0 hB.1.1.2) hr hy hS ?_
    refine heads_T hsel hQ l l1 l2 (k + 1) _ _ w (fun j => ?_) hn hg (by simpa using hsz) (by simp at hk; omega) hS (hc.set hr) hB.2 h
    have := hl (j + 1)
    simpa [Nat.add_assoc, Nat.add_comm 1 j] using this

/-- **the walk of such a region**: n reads, then t operations that keep S, then the rest -/
theorem wp_region_headsT {id : Nat} {a : Act} {w : World} {l : List Oper} (S : World → Prop) (n t : Nat) (hm : P.follows .mixedOrders = true)
    (hB : (Region.noSelect l.toArray && decide (n + t ≤ l.length) && headsT .any l.toArray (n + t) t (l.length - (n + t)) n 0 (Array.replicate l.length false)) = true)
    (hQ : ∀ c a d v w, Q (.panic c) (a.put d v) w → Q (.panic c) a w) (hS : S w.drew)
    (h : wpHeads P l.toArray S (fun a => wpMid P l.toArray S Q (wpList P l.toArray Q (l.drop (n + t))) ((l.drop n).take t) a w.drew) (l.take n) a) : (Code.region id l.toArray true).wp P Q a w := by
  simp only [Bool.and_eq_true, decide_eq_true_eq] at hB
  obtain ⟨⟨hsel, hle⟩, hB⟩ := hB
  have hsplit : l.take n ++ ((l.drop n).take t ++ l.drop (n + t)) = l := by
    rw [← List.drop_drop, List.take_append_drop, List.take_append_drop]
  have h1 : (l.take n).length = n := by simp; omega
  have h2 : ((l.drop n).take t).length = t := by simp; omega
  have h3 : (l.drop (n + t)).length = l.length - (n + t) := by simp
  have hfin := heads_T (P := P) (md := .any) (Q := Q) (S := S) (m := n + t) hsel hQ (l.take n) ((l.drop n).take t) (l.drop (n + t)) 0 (Array.replicate l.length false) a w.drew
    (fun j => by rw [hsplit]; simp) h2 h3 (by simp) (by omega) hS (Closed.none _) (by rw [h1]; exact hB) h
  refine wp_region_N (S := S) (need := fun j => decide (j < n + t)) hm ?_
  have hs : l.toArray.size = (l.take n).length + (t + (l.length - (n + t))) := by simp; omega
  rw [hs]
  have hr : Array.replicate ((l.take n).length + (t + (l.length - (n + t)))) false = Array.replicate l.length false := by congr 1; simp; omega
  rw [hr]
  exact hfin
end
end Go.Proofs.YtibndkkbmgbogaaDoor
