/- A region that draws its order, in the body of a loop over a function: as ahead of the loop (wp_region_heads). Conditions: no operation of it is a defer statement; the way out lets no machine out of memory. Marks of loops that are over: how a function leaves behind them. -/
import Derived.Test.YtibndkkbmgbogaaDoorRegion
import Derived.Test.YtibndkkbmgbogaaDoorBase
import Derived.OrdersIn
import Derived.RangeFuncCalls
import Derived.RangeFuncLeaves
import Derived.RangeFuncBox
import Derived.TacticsIn
namespace Go.Proofs.YtibndkkbmgbogaaDoor
open Go Go.RowKit

section
variable {P : Program} {md : Region.Mode} {ops : Array Oper} {Q : Exit → Act → World → Prop} {S : World → Prop} {l n : Nat}

def noDefer (ops : Array Oper) : Bool := ops.all fun o => match o.op with | .defer _ => false | _ => true
theorem noDefer_spec (h : noDefer ops = true) (j : Nat) (o : Oper) (hj : ops[j]? = some o) (c : Call) : o.op ≠ .defer c := by
  intro e
  obtain ⟨hlt, rfl⟩ := Array.getElem?_eq_some_iff.1 hj
  have h2 := (Array.all_eq_true.1 h) j hlt
  rw [e] at h2
  cases h2

theorem wpOpIn_round {i : Nat} {K K' : Act → World → Prop} {a : Act} {w : World} (hd : noDefer ops = true) (hL : ¬ LetsOut Q) (hK : ∀ a w, K a w → K' a w) (h : wpOp P ops Q i K a w) :
    wpOpIn (Fence.wide.inRound l) n P ops Q i K' a w := by
  unfold wpOp at h
  unfold wpOpIn
  cases ho : ops[i]? with
  | none => simp only [ho] at h ⊢; exact hK _ _ h
  | some o =>
    simp only [ho] at h ⊢
    have hnd := noDefer_spec hd i o ho
    split
    · rename_i hw
      simp only [hw, if_true] at h
      rcases h with h | ⟨_, h⟩
      case inr => exact absurd h hL
      unfold Oper.wp at h
      unfold Oper.wpIn
      refine ⟨fun _ _ => trivial, ?_⟩
      rw [show (Fence.wide.inRound l).round = some l from rfl, Oper.semAt_some l _ _ hnd]
      generalize (execOp a.eval o).run P w = r at *
      cases r with
      | ok x w' =>
        cases x <;> simp only [Oper.upon, Oper.uponIn] at h ⊢
        case value u => exact hK _ _ h
        case skip => exact hK _ _ h
        case defer d => exact hK _ _ h
        case enter f args =>
          refine ⟨fun e => (by cases e), (CallsIn.inRound l (callsIn_wide.2 h)).mono fun e w'' he => ?_⟩
          cases e with
          | returned u => exact hK _ _ he
          | panicked c => exact he
          | outgrown => exact he
        case row row args =>
          refine ⟨fun e => (by cases e), fun c cs _ => ?_⟩
          obtain ⟨v, w'', r, s⟩ := h c cs
          exact ⟨v, w'', hK _ _ r, stepsIn_wide.2 s⟩
      | halt x w' => cases x <;> simp only [Oper.upon, Oper.uponIn] at h ⊢ <;> exact h
    · rename_i hw
      simp only [hw] at h
      exact ⟨fun _ _ => trivial, hK _ _ h⟩

theorem wpAnyIn_round (hd : noDefer ops = true) (hL : ¬ LetsOut Q) : ∀ (fuel : Nat) (listed : Array Bool) (a : Act) (w : World), wpAny P md ops Q fuel listed a w → wpAnyIn (Fence.wide.inRound l) n P md ops Q fuel listed a w
  | 0, _, _, _, h => h
  | fuel + 1, _, _, _, h => ⟨h.1, fun i hi => wpOpIn_round hd hL (fun a w h' => wpAnyIn_round hd hL fuel _ a w h') (h.2 i hi)⟩

/-- **the walk of such a region in a round** -/
theorem wpIn_round_heads {id : Nat} {a : Act} {w : World} {lo : List Oper} (S : World → Prop) (m t : Nat) (hm : P.follows .mixedOrders = true)
    (hB : (Region.noSelect lo.toArray && decide (m + t ≤ lo.length) && headsB .any lo.toArray (m + t) t (lo.length - (m + t)) m 0 (Array.replicate lo.length false)) = true)
    (hd : noDefer lo.toArray = true) (hL : ¬ LetsOut Q)
    (hQ : ∀ c a d v w, Q (.panic c) (a.put d v) w → Q (.panic c) a w) (hS : S w.drew)
    (h : wpHeads P lo.toArray S (fun a => wpMid P lo.toArray S Q (wpList P lo.toArray Q (lo.drop (m + t))) ((lo.drop m).take t) a w.drew) (lo.take m) a) : (Code.region id lo.toArray true).wpIn (Fence.wide.inRound l) n P Q a w :=
  wpIn_region_any hm (wpAnyIn_round hd hL _ _ _ _ (wpAny_of_N _ _ _ _ (region_heads_N S m t hB hQ hS h)))
end

section
variable {P : Program} {fn : Func} {tmps : Array Value} {R : Ending → World → Prop} {n : Nat}
def markOf (D : Nat) : Deferred := { target := .collected D, args := #[] }
/-- blocks of loops that are over, none of which has taken a deferred call -/
def Marks (lo : Nat) (w : World) (Ds : List Nat) : Prop := Ds.Nodup ∧ ∀ D ∈ Ds, lo ≤ D ∧ w.heap[D]? = some (.deferred (some []))
theorem Marks.nil {lo : Nat} {w : World} : Marks lo w [] := ⟨List.nodup_nil, fun _ h => by cases h⟩
theorem Marks.cons {lo D : Nat} {w : World} {Ds : List Nat} (h : Marks lo w Ds) (hD : ∀ d ∈ Ds, d < D) (hlo : lo ≤ D) (hw : w.heap[D]? = some (.deferred (some []))) : Marks lo w (D :: Ds) :=
  ⟨List.nodup_cons.2 ⟨fun e => Nat.lt_irrefl _ (hD D e), h.1⟩, fun d hd => by
    rcases List.mem_cons.1 hd with rfl | hd
    · exact ⟨hlo, hw⟩
    · exact h.2 d hd⟩
theorem Marks.keep {lo B : Nat} {w w' : World} {Ds : List Nat} (h : Marks lo w Ds) (hk : KeepsFrom B w w') (hB : B ≤ lo) : Marks lo w' Ds :=
  ⟨h.1, fun D hD => ⟨(h.2 D hD).1, hk.same D _ (Nat.le_trans hB (h.2 D hD).1) (h.2 D hD).2 rfl⟩⟩
theorem Marks.lt {lo : Nat} {w : World} {Ds : List Nat} (h : Marks lo w Ds) : ∀ d ∈ Ds, d < w.heap.size := fun d hd => (Array.getElem?_eq_some_iff.1 (h.2 d hd).2).1

theorem leaves_marks {lo : Nat} : ∀ (Ds : List Nat) (w : World), Marks lo w Ds → (∀ w', Below lo w w' → LeavesIn Fence.wide n P fn tmps R [] .returning w') →
    LeavesInM Fence.wide n P fn tmps R (Ds.map markOf) .returning w
  | [], w, _, h => h w (Below.refl _ _)
  | D :: Ds, w, hM, h => by
    obtain ⟨hlo, hK⟩ := hM.2 D (by simp)
    obtain ⟨hn, hnd⟩ := List.nodup_cons.1 hM.1
    refine ⟨by simp, .inl ⟨D, _, rfl, run_takeDeferred hK, ?_⟩⟩
    have hg := grownBy_putObj' w D (.deferred none)
    have hb : Below lo w (w.putObj D (.deferred none)) := (Below.refl _ _).grown hg (Nat.le_of_lt (Nat.lt_of_le_of_lt hlo (Array.getElem?_eq_some_iff.1 hK).1)) (fun k e => by cases e; exact hlo)
    refine leaves_marks Ds _ ⟨hnd, fun d hd => ⟨(hM.2 d (by simp [hd])).1, ?_⟩⟩ (fun w' hw' => h w' (hb.trans hw'))
    have hne : d ≠ D := fun e => hn (e ▸ hd)
    exact (hg.block d (Array.getElem?_eq_some_iff.1 (hM.2 d (by simp [hd])).2).1 (fun e => by cases e; exact hne rfl)).trans (hM.2 d (by simp [hd])).2
end
end Go.Proofs.YtibndkkbmgbogaaDoor
