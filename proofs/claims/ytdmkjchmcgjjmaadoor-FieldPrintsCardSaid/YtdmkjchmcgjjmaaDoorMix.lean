/- A region that draws its order, walked by a list of its operations' numbers: some taken first of those that are ready, some the only ones. Conditions: none. -/
import Derived.Test.YtdmkjchmcgjjmaaDoorRegion
namespace Go.Proofs.YtdmkjchmcgjjmaaDoor
open Go

section
variable {P : Program} {md : Region.Mode} {ops : Array Oper} {Q : Exit → Act → World → Prop} {S : World → Prop} {need : Nat → Bool}

def mixB (md : Region.Mode) (ops : Array Oper) (need : Nat → Bool) : List (Bool × Nat) → Array Bool → Bool
  | [], listed => decide (Region.ready md ops listed = [])
  | (true, k) :: ks, listed => (Region.ready md ops listed).contains k && Region.free md ops listed k && waitsT md ops need k && mixB md ops need ks (listed.setIfInBounds k true)
  | (false, k) :: ks, listed => decide (Region.ready md ops listed = [k]) && mixB md ops need ks (listed.setIfInBounds k true)
def wpMix (P : Program) (ops : Array Oper) (S : World → Prop) (need : Nat → Bool) (Q : Exit → Act → World → Prop) : List (Bool × Nat) → Act → World → Prop
  | [], a, w => Q .normal a w
  | (true, k) :: ks, a, w => ∃ o v, ops[k]? = some o ∧ YieldsIf P ops S o v a ∧ S w ∧ wpMix P ops S need Q ks (a.put o.dst v) w
  | (false, k) :: ks, a, w => ∃ o, ops[k]? = some o ∧ ∀ K : Act → World → Prop, (∀ a w, (need k = true → S w) ∧ wpMix P ops S need Q ks a w → K a w) → if Region.wanted o (yielded ops a.tmps) = true then Oper.wp P o a w K Q else K (a.put o.dst undef) w

theorem mix_L (hsel : Region.noSelect ops = true) (hQ : ∀ c a d v w, Q (.panic c) (a.put d v) w → Q (.panic c) a w) : ∀ (ks : List (Bool × Nat)) (listed : Array Bool) (a : Act) (w : World), Closed md ops listed →
    mixB md ops need ks listed = true → wpMix P ops S need Q ks a w → wpAnyN P md ops Q S need ks.length listed a w
  | [], listed, a, w, _, hB, h => ⟨by simpa [mixB] using hB, h⟩
  | (true, k) :: ks, listed, a, w, hc, hB, h => by
    simp only [mixB, Bool.and_eq_true] at hB
    obtain ⟨o, v, ho, hy, hS, h⟩ := h
    have hr : k ∈ Region.ready md ops listed := by simpa using hB.1.1.1
    exact wpAnyN_firstT ho (Region.noSelect_spec hsel) (fun c a w => hQ c a _ v w) (waitsT_spec hB.1.2) _ listed a w hc (Region.free_spec ho hB.1.1.2) hr hy hS (mix_L hsel hQ ks _ _ w (hc.set hr) hB.2 h)
  | (false, k) :: ks, listed, a, w, hc, hB, h => by
    simp only [mixB, Bool.and_eq_true, decide_eq_true_eq] at hB
    obtain ⟨o, ho, h⟩ := h
    have hr : k ∈ Region.ready md ops listed := by rw [hB.1]; simp
    exact wpAnyN_one hB.1 ho (fun K hK => h K (fun a w ⟨hS, h2⟩ => hK a w ⟨hS, mix_L hsel hQ ks _ a w (hc.set hr) hB.2 h2⟩))

/-- **the walk of such a region** -/
theorem wp_region_mix {id : Nat} {a : Act} {w : World} {ops : Array Oper} (S : World → Prop) (need : Nat → Bool) (ks : List (Bool × Nat)) (hm : P.follows .mixedOrders = true)
    (hB : (Region.noSelect ops && decide (ks.length = ops.size) && mixB .any ops need ks (Array.replicate ops.size false)) = true)
    (hQ : ∀ c a d v w, Q (.panic c) (a.put d v) w → Q (.panic c) a w)
    (h : wpMix P ops S need Q ks a w.drew) : (Code.region id ops true).wp P Q a w := by
  simp only [Bool.and_eq_true, decide_eq_true_eq] at hB
  refine wp_region_N (S := S) (need := need) hm ?_
  have := mix_L (P := P) (md := .any) (Q := Q) (S := S) (need := need) hB.1.1 hQ ks (Array.replicate ops.size false) a w.drew (Closed.none _) hB.2 h
  rw [hB.1.2] at this
  exact this

theorem mix_head {k : Nat} {o : Oper} {ks : List (Bool × Nat)} {a : Act} {w : World} {v : Value} (hS : S w) (ho : ops.toList[k]? = some o) (hg : o.guard = none) (h1 : ∀ w, S w → (execOp a.eval o).run P w = .ok (.value v) w)
    (h : wpMix P ops S need Q ks (a.put o.dst v) w) : wpMix P ops S need Q ((true, k) :: ks) a w := ⟨o, v, by simpa using ho, .inl ⟨by simp [Region.wanted, hg], h1⟩, hS, h⟩
theorem mix_step {k : Nat} {o : Oper} {ks : List (Bool × Nat)} {a : Act} {w : World} (ho : ops.toList[k]? = some o) (hg : o.guard = none)
    (h : ∀ K : Act → World → Prop, (∀ a w, (need k = true → S w) ∧ wpMix P ops S need Q ks a w → K a w) → Oper.wp P o a w K Q) : wpMix P ops S need Q ((false, k) :: ks) a w :=
  ⟨o, by simpa using ho, fun K hK => by
    rw [if_pos (by simp [Region.wanted, hg])]
    exact h K hK⟩
theorem mix_nil {a : Act} {w : World} (h : Q .normal a w) : wpMix P ops S need Q [] a w := h
end
end Go.Proofs.YtdmkjchmcgjjmaaDoor
