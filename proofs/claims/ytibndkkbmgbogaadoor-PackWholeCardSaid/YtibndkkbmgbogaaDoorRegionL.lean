/- A region that draws its order, its reads named by their numbers in whatever order, then the rest in its one order. Conditions: none. -/
import Derived.Test.YtibndkkbmgbogaaDoorRegionT
namespace Go.Proofs.YtibndkkbmgbogaaDoor
open Go

section
variable {P : Program} {md : Region.Mode} {ops : Array Oper} {Q : Exit → Act → World → Prop} {S : World → Prop} {need : Nat → Bool}

def seqL (md : Region.Mode) (ops : Array Oper) : List Nat → Array Bool → Bool
  | [], listed => decide (Region.ready md ops listed = [])
  | k :: ks, listed => decide (Region.ready md ops listed = [k]) && seqL md ops ks (listed.setIfInBounds k true)
def headsL (md : Region.Mode) (ops : Array Oper) (need : Nat → Bool) (tail : List Nat) : List Nat → Array Bool → Bool
  | [], listed => seqL md ops tail listed
  | k :: ks, listed => (Region.ready md ops listed).contains k && Region.free md ops listed k && waitsT md ops need k && headsL md ops need tail ks (listed.setIfInBounds k true)

def wpSeqL (P : Program) (ops : Array Oper) (S : World → Prop) (need : Nat → Bool) (Q : Exit → Act → World → Prop) : List Nat → Act → World → Prop
  | [], a, w => Q .normal a w
  | k :: ks, a, w => ∃ o, ops[k]? = some o ∧ ∀ K : Act → World → Prop, (∀ a w, (need k = true → S w) ∧ wpSeqL P ops S need Q ks a w → K a w) → if Region.wanted o (yielded ops a.tmps) = true then Oper.wp P o a w K Q else K (a.put o.dst undef) w
def wpHeadsL (P : Program) (ops : Array Oper) (S : World → Prop) (R : Act → Prop) : List Nat → Act → Prop
  | [], a => R a
  | k :: ks, a => ∃ o v, ops[k]? = some o ∧ YieldsIf P ops S o v a ∧ wpHeadsL P ops S R ks (a.put o.dst v)

theorem seq_L : ∀ (ks : List Nat) (listed : Array Bool) (a : Act) (w : World), seqL md ops ks listed = true → wpSeqL P ops S need Q ks a w → wpAnyN P md ops Q S need ks.length listed a w
  | [], listed, a, w, hB, h => ⟨by simpa [seqL] using hB, h⟩
  | k :: ks, listed, a, w, hB, h => by
    simp only [seqL, Bool.and_eq_true, decide_eq_true_eq] at hB
    obtain ⟨o, ho, h⟩ := h
    exact wpAnyN_one hB.1 ho (fun K hK => h K (fun a w ⟨hS, h2⟩ => hK a w ⟨hS, seq_L ks _ a w hB.2 h2⟩))

theorem heads_L (hsel : Region.noSelect ops = true) (hQ : ∀ c a d v w, Q (.panic c) (a.put d v) w → Q (.panic c) a w) (tail : List Nat) : ∀ (ks : List Nat) (listed : Array Bool) (a : Act) (w : World), Closed md ops listed → S w →
    headsL md ops need tail ks listed = true → wpHeadsL P ops S (fun a => wpSeqL P ops S need Q tail a w) ks a → wpAnyN P md ops Q S need (ks.length + tail.length) listed a w
  | [], listed, a, w, _, _, hB, h => by
    simp only [List.length_nil, Nat.zero_add]
    exact seq_L tail listed a w hB h
  | k :: ks, listed, a, w, hc, hS, hB, h => by
    simp only [headsL, Bool.and_eq_true] at hB
    obtain ⟨o, v, ho, hy, h⟩ := h
    rw [List.length_cons, Nat.add_right_comm]
    have hr : k ∈ Region.ready md ops listed := by simpa using hB.1.1.1
    exact wpAnyN_firstT ho (Region.noSelect_spec hsel) (fun c a w => hQ c a _ v w) (waitsT_spec hB.1.2) _ listed a w hc (Region.free_spec ho hB.1.1.2) hr hy hS (heads_L hsel hQ tail ks _ _ w (hc.set hr) hS hB.2 h)

/-- **the walk of such a region** -/
theorem wp_region_L {id : Nat} {a : Act} {w : World} {ops : Array Oper} (S : World → Prop) (need : Nat → Bool) (hs ts : List Nat) (hm : P.follows .mixedOrders = true)
    (hB : (Region.noSelect ops && decide (hs.length + ts.length = ops.size) && headsL .any ops need ts hs (Array.replicate ops.size false)) = true)
    (hQ : ∀ c a d v w, Q (.panic c) (a.put d v) w → Q (.panic c) a w) (hS : S w.drew)
    (h : wpHeadsL P ops S (fun a => wpSeqL P ops S need Q ts a w.drew) hs a) : (Code.region id ops true).wp P Q a w := by
  simp only [Bool.and_eq_true, decide_eq_true_eq] at hB
  refine wp_region_N (S := S) (need := need) hm ?_
  have := heads_L (P := P) (md := .any) (Q := Q) (S := S) (need := need) hB.1.1 hQ ts hs (Array.replicate ops.size false) a w.drew (Closed.none _) hS hB.2 h
  rw [hB.1.2] at this
  exact this

theorem headsL_step {R : Act → Prop} {k : Nat} {o : Oper} {ks : List Nat} {a : Act} {v : Value} (ho : ops[k]? = some o) (hg : o.guard = none) (h1 : ∀ w, S w → (execOp a.eval o).run P w = .ok (.value v) w)
    (h : wpHeadsL P ops S R ks (a.put o.dst v)) : wpHeadsL P ops S R (k :: ks) a := ⟨o, v, ho, .inl ⟨by simp [Region.wanted, hg], h1⟩, h⟩
theorem headsL_nil {R : Act → Prop} {a : Act} (h : R a) : wpHeadsL P ops S R [] a := h
theorem seqL_nil {a : Act} {w : World} (h : Q .normal a w) : wpSeqL P ops S need Q [] a w := h
theorem seqL_step {k : Nat} {o : Oper} {ks : List Nat} {a : Act} {w : World} (ho : ops[k]? = some o) (hg : o.guard = none)
    (h : ∀ K : Act → World → Prop, (∀ a w, (need k = true → S w) ∧ wpSeqL P ops S need Q ks a w → K a w) → Oper.wp P o a w K Q) : wpSeqL P ops S need Q (k :: ks) a w :=
  ⟨o, ho, fun K hK => by
    rw [if_pos (by simp [Region.wanted, hg])]
    exact h K hK⟩
end
end Go.Proofs.YtibndkkbmgbogaaDoor
