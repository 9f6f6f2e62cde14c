/- A region that draws its order, walked by a tree of its operations' numbers: some taken first, some the only ones that are ready, some one of two. Conditions: none. -/
import Derived.Test.YtdmkjchmcgjjmaaDoorMix
namespace Go.Proofs.YtdmkjchmcgjjmaaDoor
open Go

inductive MixT where
  | nil
  | head (k : Nat) (m : MixT)
  | one (k : Nat) (m : MixT)
  | two (k1 : Nat) (m1 : MixT) (k2 : Nat) (m2 : MixT)

section
variable {P : Program} {md : Region.Mode} {ops : Array Oper} {Q : Exit → Act → World → Prop} {S : World → Prop} {need : Nat → Bool}

def MixT.heads : List Nat → MixT → MixT
  | [], m => m
  | k :: ks, m => .head k (MixT.heads ks m)
def mixTB (md : Region.Mode) (ops : Array Oper) (need : Nat → Bool) : MixT → Nat → Array Bool → Bool
  | .nil, n, listed => decide (n = 0) && decide (Region.ready md ops listed = [])
  | .head k m, n, listed => decide (0 < n) && (Region.ready md ops listed).contains k && Region.free md ops listed k && waitsT md ops need k && mixTB md ops need m (n - 1) (listed.setIfInBounds k true)
  | .one k m, n, listed => decide (0 < n) && decide (Region.ready md ops listed = [k]) && mixTB md ops need m (n - 1) (listed.setIfInBounds k true)
  | .two k1 m1 k2 m2, n, listed => decide (0 < n) && decide (Region.ready md ops listed = [k1, k2]) && mixTB md ops need m1 (n - 1) (listed.setIfInBounds k1 true) && mixTB md ops need m2 (n - 1) (listed.setIfInBounds k2 true)
def stepT (P : Program) (ops : Array Oper) (S : World → Prop) (need : Nat → Bool) (Q : Exit → Act → World → Prop) (k : Nat) (R : Act → World → Prop) (a : Act) (w : World) : Prop :=
  ∃ o, ops[k]? = some o ∧ ∀ K : Act → World → Prop, (∀ a w, (need k = true → S w) ∧ R a w → K a w) → if Region.wanted o (yielded ops a.tmps) = true then Oper.wp P o a w K Q else K (a.put o.dst undef) w
def wpMixT (P : Program) (ops : Array Oper) (S : World → Prop) (need : Nat → Bool) (Q : Exit → Act → World → Prop) : MixT → Act → World → Prop
  | .nil, a, w => Q .normal a w
  | .head k m, a, w => ∃ o v, ops[k]? = some o ∧ YieldsIf P ops S o v a ∧ S w ∧ wpMixT P ops S need Q m (a.put o.dst v) w
  | .one k m, a, w => stepT P ops S need Q k (wpMixT P ops S need Q m) a w
  | .two k1 m1 k2 m2, a, w => stepT P ops S need Q k1 (wpMixT P ops S need Q m1) a w ∧ stepT P ops S need Q k2 (wpMixT P ops S need Q m2) a w

theorem mixT_L (hsel : Region.noSelect ops = true) (hQ : ∀ c a d v w, Q (.panic c) (a.put d v) w → Q (.panic c) a w) : ∀ (m : MixT) (n : Nat) (listed : Array Bool) (a : Act) (w : World), Closed md ops listed →
    mixTB md ops need m n listed = true → wpMixT P ops S need Q m a w → wpAnyN P md ops Q S need n listed a w
  | .nil, n, listed, a, w, _, hB, h => by
    simp only [mixTB, Bool.and_eq_true, decide_eq_true_eq] at hB
    obtain ⟨rfl, hB⟩ := hB
    exact ⟨hB, h⟩
  | .head k m, n, listed, a, w, hc, hB, h => by
    simp only [mixTB, Bool.and_eq_true, decide_eq_true_eq] at hB
    obtain ⟨n, rfl⟩ : ∃ j, n = j + 1 := ⟨n - 1, by omega⟩
    obtain ⟨o, v, ho, hy, hS, h⟩ := h
    have hr : k ∈ Region.ready md ops listed := by simpa using hB.1.1.1.2
    exact wpAnyN_firstT ho (Region.noSelect_spec hsel) (fun c a w => hQ c a _ v w) (waitsT_spec hB.1.2) _ listed a w hc (Region.free_spec ho hB.1.1.2) hr hy hS (mixT_L hsel hQ m _ _ _ w (hc.set hr) hB.2 h)
  | .one k m, n, listed, a, w, hc, hB, h => by
    simp only [mixTB, Bool.and_eq_true, decide_eq_true_eq] at hB
    obtain ⟨n, rfl⟩ : ∃ j, n = j + 1 := ⟨n - 1, by omega⟩
    obtain ⟨o, ho, h⟩ := h
    have hr : k ∈ Region.ready md ops listed := by rw [hB.1.2]; simp
    exact wpAnyN_one hB.1.2 ho (fun K hK => h K (fun a w ⟨hS, h2⟩ => hK a w ⟨hS, mixT_L hsel hQ m _ _ a w (hc.set hr) hB.2 h2⟩))
  | .two k1 m1 k2 m2, n, listed, a, w, hc, hB, h => by
    simp only [mixTB, Bool.and_eq_true, decide_eq_true_eq] at hB
    obtain ⟨n, rfl⟩ : ∃ j, n = j + 1 := ⟨n - 1, by omega⟩
    obtain ⟨⟨o1, ho1, h1⟩, ⟨o2, ho2, h2⟩⟩ := h
    have hr1 : k1 ∈ Region.ready md ops listed := by rw [hB.1.1.2]; simp
    have hr2 : k2 ∈ Region.ready md ops listed := by rw [hB.1.1.2]; simp
    refine ⟨fun h0 => (by rw [hB.1.1.2] at h0; cases h0), fun j hj => ?_⟩
    rw [hB.1.1.2] at hj
    simp only [List.mem_cons, List.not_mem_nil, or_false] at hj
    rcases hj with rfl | rfl
    · exact wpOp_step ho1 (fun K hK => h1 K (fun a w ⟨hS, h2⟩ => hK a w ⟨hS, mixT_L hsel hQ m1 _ _ a w (hc.set hr1) hB.1.2 h2⟩))
    · exact wpOp_step ho2 (fun K hK => h2 K (fun a w ⟨hS, h2⟩ => hK a w ⟨hS, mixT_L hsel hQ m2 _ _ a w (hc.set hr2) hB.2 h2⟩))

/-- **the walk of such a region** -/
theorem wp_region_mixT {id : Nat} {a : Act} {w : World} {ops : Array Oper} (S : World → Prop) (need : Nat → Bool) (m : MixT) (hm : P.follows .mixedOrders = true)
    (hB : (Region.noSelect ops && mixTB .any ops need m ops.size (Array.replicate ops.size false)) = true)
    (hQ : ∀ c a d v w, Q (.panic c) (a.put d v) w → Q (.panic c) a w)
    (h : wpMixT P ops S need Q m a w.drew) : (Code.region id ops true).wp P Q a w := by
  simp only [Bool.and_eq_true] at hB
  exact wp_region_N (S := S) (need := need) hm (mixT_L (P := P) (md := .any) (Q := Q) (S := S) (need := need) hB.1 hQ m ops.size (Array.replicate ops.size false) a w.drew (Closed.none _) hB.2 h)

theorem mixT_head {k : Nat} {o : Oper} {m : MixT} {a : Act} {w : World} {v : Value} (hS : S w) (ho : ops.toList[k]? = some o) (hg : o.guard = none) (h1 : ∀ w, S w → (execOp a.eval o).run P w = .ok (.value v) w)
    (h : wpMixT P ops S need Q m (a.put o.dst v) w) : wpMixT P ops S need Q (.head k m) a w := ⟨o, v, by simpa using ho, .inl ⟨by simp [Region.wanted, hg], h1⟩, hS, h⟩
theorem stepT_of {k : Nat} {o : Oper} {R : Act → World → Prop} {a : Act} {w : World} (ho : ops.toList[k]? = some o) (hg : o.guard = none)
    (h : ∀ K : Act → World → Prop, (∀ a w, (need k = true → S w) ∧ R a w → K a w) → Oper.wp P o a w K Q) : stepT P ops S need Q k R a w :=
  ⟨o, by simpa using ho, fun K hK => by
    rw [if_pos (by simp [Region.wanted, hg])]
    exact h K hK⟩
theorem mixT_one {k : Nat} {o : Oper} {m : MixT} {a : Act} {w : World} (ho : ops.toList[k]? = some o) (hg : o.guard = none)
    (h : ∀ K : Act → World → Prop, (∀ a w, (need k = true → S w) ∧ wpMixT P ops S need Q m a w → K a w) → Oper.wp P o a w K Q) : wpMixT P ops S need Q (.one k m) a w := stepT_of ho hg h
theorem mixT_two {k1 k2 : Nat} {m1 m2 : MixT} {a : Act} {w : World} (h1 : stepT P ops S need Q k1 (wpMixT P ops S need Q m1) a w) (h2 : stepT P ops S need Q k2 (wpMixT P ops S need Q m2) a w) : wpMixT P ops S need Q (.two k1 m1 k2 m2) a w := ⟨h1, h2⟩
theorem mixT_nil {a : Act} {w : World} (h : Q .normal a w) : wpMixT P ops S need Q .nil a w := h
end
end Go.Proofs.YtdmkjchmcgjjmaaDoor
