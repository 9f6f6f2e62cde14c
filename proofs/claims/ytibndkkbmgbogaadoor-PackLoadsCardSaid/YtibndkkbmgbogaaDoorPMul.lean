/- Package math/bits' Mul at 1 and a small number. Conditions: the number is small. -/
import Derived.Test.YtibndkkbmgbogaaDoorProg
import Derived.Test.YtibndkkbmgbogaaDoorBase
import Derived.OwnWalk
import Derived.Laws.Bits64b
import Derived.Outline
namespace Go.Proofs.YtibndkkbmgbogaaDoor
open Go Go.RowKit

set_option maxHeartbeats 400000 in
theorem mul64_one (k : Nat) (w : World) (h : k < 65536) : Calls Tryd.prog 98 #[.int .u64 1, .int .u64 k] w fun e w' => e = .returned (.tuple #[.int .u64 0, .int .u64 k]) ∧ w = w' := by
  have b1 : bits .and .u64 1 4294967295 = 1 := by decide
  have b0 : bits .and .u64 0 4294967295 = 0 := by decide
  have bk : bits .and .u64 (k : Int) 4294967295 = (k : Int) := by
    have e : ((k &&& 4294967295 : Nat)) = k := by
      have : (4294967295 : Nat) = 2 ^ 32 - 1 := by decide
      rw [this, Nat.and_two_pow_sub_one_eq_mod]
      omega
    have h2 := bits_and_u64_nat k 4294967295 (by omega) (by omega)
    rw [e] at h2
    exact h2
  have d0 : (k : Int) / 4294967296 = 0 := by omega
  have wk : IntKind.u64.wrap (k : Int) = (k : Int) := by rw [IntKind.wrap_u64]; omega
  have w0 : IntKind.u64.wrap 0 = 0 := by decide
  go_enter Tryd.func98, Tryd.ntmps98
  go_wp2
  go_ret2
  exact ⟨rfl, rfl⟩

theorem mul_one (k : Nat) (w : World) (h : k < 65536) : Calls Tryd.prog 95 #[.int .u64 1, .int .u64 k] w fun e w' => e = .returned (.tuple #[.int .u64 0, .int .u64 k]) ∧ w = w' := by
  have h1 := mul64_one k w h
  go_enter Tryd.func95, Tryd.ntmps95
  go_wp2_with ((go_at_call 98; refine (h1).mono ?_; rintro e w' ⟨rfl, rfl⟩))
  go_ret2
  exact ⟨rfl, rfl⟩
end Go.Proofs.YtibndkkbmgbogaaDoor
