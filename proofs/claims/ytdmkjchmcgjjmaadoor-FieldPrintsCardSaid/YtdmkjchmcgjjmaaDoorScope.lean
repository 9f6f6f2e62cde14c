/- A scope with jumps forward to labels: what holds at each jump, and the walk from each label, with no jump in it. Conditions: none. -/
import Derived.WalkMore
namespace Go.Proofs.YtdmkjchmcgjjmaaDoor
open Go

/-- As Q; by a goto to label l: what Js says there. -/
def jumps (Js : Nat → Act → World → Prop) (Q : Exit → Act → World → Prop) : Exit → Act → World → Prop
  | .goto l, a, w => Js l a w
  | e, a, w => Q e a w

section
variable {P : Program} {a : Act} {w : World} {Q : Exit → Act → World → Prop} {Js : Nat → Act → World → Prop}
@[go_sem] theorem jumps_normal : jumps Js Q .normal a w = Q .normal a w := rfl
@[go_sem] theorem jumps_exit (id : Nat) : jumps Js Q (.exit id) a w = Q (.exit id) a w := rfl
@[go_sem] theorem jumps_ret : jumps Js Q .ret a w = Q .ret a w := rfl
@[go_sem] theorem jumps_panic (ch : List PanicEntry) : jumps Js Q (.panic ch) a w = Q (.panic ch) a w := rfl
@[go_sem] theorem jumps_goto (l : Nat) : jumps Js Q (.goto l) a w = Js l a w := rfl

theorem wp_scope_fwd {c : Code} (Js : Nat → Act → World → Prop) (pass : ∀ l a w, Js l a w → ∃ rest, findLabel c l = some rest ∧ rest.wp P (Exit.noGoto Q) a w) (first : c.wp P (jumps Js Q) a w) : (Code.scope c).wp P Q a w := by
  intro b k cs
  have key : ∀ l a w, Js l a w → ∃ rest, gotoIn l (.inScope c :: k) = some (.code rest :: .inScope c :: k) ∧ ∃ e a' w', Q e a' w' ∧ Arrives P (lone (b.at a (.code rest :: .inScope c :: k)) cs w) b k cs e a' w' := by
    intro l a w hJ
    obtain ⟨rest, hf, hw⟩ := pass l a w hJ
    refine ⟨rest, by simp [gotoIn, hf], ?_⟩
    obtain ⟨e, a₁, w₁, hq, harr⟩ := hw b (.inScope c :: k) cs
    cases e with
    | normal => exact ⟨.normal, a₁, w₁, hq, Steps.trans harr (.one step_inScope)⟩
    | exit id => exact ⟨.exit id, a₁, w₁, hq, fun k' hk => harr k' (by simp [exitTo, hk])⟩
    | goto l => exact hq.elim
    | ret => exact ⟨_, a₁, w₁, hq, harr⟩
    | panic ch => exact ⟨_, a₁, w₁, hq, harr⟩
    | outgrown => exact ⟨_, a₁, w₁, hq, harr⟩
  obtain ⟨e, a₁, w₁, hq, harr⟩ := first b (.inScope c :: k) cs
  cases e with
  | normal => exact ⟨.normal, a₁, w₁, hq, .head step_scope (Steps.trans harr (.one step_inScope))⟩
  | exit id => exact ⟨.exit id, a₁, w₁, hq, fun k' hk => .head step_scope (harr k' (by simp [exitTo, hk]))⟩
  | goto l =>
    obtain ⟨rest, hg, e₂, a₂, w₂, hq₂, harr₂⟩ := key l a₁ w₁ hq
    exact ⟨e₂, a₂, w₂, hq₂, .of_steps (.head step_scope (harr _ hg)) harr₂⟩
  | ret => exact ⟨_, a₁, w₁, hq, .of_steps (.one step_scope) harr⟩
  | panic ch => exact ⟨_, a₁, w₁, hq, .of_steps (.one step_scope) harr⟩
  | outgrown => exact ⟨_, a₁, w₁, hq, .of_steps (.one step_scope) harr⟩
end
end Go.Proofs.YtdmkjchmcgjjmaaDoor
