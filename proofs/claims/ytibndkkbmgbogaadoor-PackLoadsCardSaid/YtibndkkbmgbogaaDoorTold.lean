/- errors.Is at the package's own two errors, and trie.told. Conditions: the two variables hold two different errors of errors.New's make. -/
import Derived.Test.YtibndkkbmgbogaaDoorProg
import Derived.Test.YtibndkkbmgbogaaDoorBase
import Derived.LaidEql
import Derived.Stop.Asserts
import Derived.RowKitTokens
namespace Go.Proofs.YtibndkkbmgbogaaDoor
open Go Go.RowKit Go.Extern.Stop Go.Stop Go.Extern

theorem isTypeOf (v : Value) (w : World) : (Extern.ReflectliteType.typeOf #[.iface 164 v]).run Tryd.prog w = .ok (.iface 136 (.agg #[.pointer (some ⟨4, 164, none⟩)])) w := by kernel_rfl
def cmpM : TypeId → Sem Value := fun t => do Extern.Rtype.noPackHeld "Comparable" t; pure (.bool (← typeInfo t).comparable)
theorem isComparable (w : World) : ((Extern.ReflectliteType.method cmpM) #[.agg #[.pointer (some ⟨4, 164, none⟩)]]).run Tryd.prog w = .ok (.bool true) w := by kernel_rfl
theorem isMethodComparable (v : Value) (w : World) : (Go.method 296 136 v "Comparable").run Tryd.prog w = .ok (123, v) w := by kernel_rfl
theorem isComp : (Tryd.prog.info? 164).map (·.comparable) = some true := by kernel_rfl
theorem isSize : (Tryd.prog.info? 184).map (·.size) = some 1 := by kernel_rfl
theorem noIsE (v : Value) (xT : TypeId) (w : World) : (Instr.typeAssert (.iface 164 v) xT 138 true).run Tryd.prog w = .ok (.tuple #[.nilIface, .bool false]) w := run_typeAssert_lacksB Tryd.underlying138 (by kernel_rfl) (by kernel_rfl) v xT w
theorem noUnwrapE (v : Value) (xT : TypeId) (w : World) : (Instr.typeAssert (.iface 164 v) xT 141 true).run Tryd.prog w = .ok (.tuple #[.nilIface, .bool false]) w := run_typeAssert_lacksB Tryd.underlying141 (by kernel_rfl) (by kernel_rfl) v xT w
theorem noUnwrapsE (v : Value) (xT : TypeId) (w : World) : (Instr.typeAssert (.iface 164 v) xT 143 true).run Tryd.prog w = .ok (.tuple #[.nilIface, .bool false]) w := run_typeAssert_lacksB Tryd.underlying143 (by kernel_rfl) (by kernel_rfl) v xT w

set_option maxRecDepth 100000 in
/-- errors.Is(x, x). -/
theorem is_same (a : Addr) (w : World) :
    Calls Tryd.prog 68 #[.iface 164 (.pointer (some a)), .iface 164 (.pointer (some a))] w fun e w' => e = .returned (.bool true) ∧ w = w' := by
  obtain ⟨i, hi, hcmp⟩ := Option.map_eq_some_iff.1 isComp
  obtain ⟨j, hj, hjs⟩ := Option.map_eq_some_iff.1 isSize
  have h8 := @run_callFunc_extern Tryd.prog 83 _ Extern.ReflectliteType.typeOf Tryd.func83 (by kernel_rfl) (by kernel_rfl) (by kernel_rfl) (by kernel_rfl)
  have h32 := @run_callFunc_extern Tryd.prog 123 _ (Extern.ReflectliteType.method cmpM) Tryd.func123 (by kernel_rfl) (by kernel_rfl) (by kernel_rfl) (by kernel_rfl)
  have tT := isTypeOf
  have cT := isComparable
  have mR := isMethodComparable
  have heq := run_eql_iface_ptr_same (P := Tryd.prog) w a Tryd.underlying65 Tryd.underlying164 hi hcmp hj
  go_enter Tryd.func68, Tryd.ntmps68
  go_wp2
  refine wp_loop_rounds 1 ?_
  rw [rounds_succ]
  go_wp2
  go_ret
  exact ⟨rfl, rfl⟩

set_option maxRecDepth 100000 in
/-- errors.Is(x, y), two different ones. -/
theorem is_other (a b : Addr) (ca cb : Array Value) (ta tb : TypeId) (w : World) (hne : a ≠ b) (ha : w.heap[a.block]? = some (.cells ca ta (0, 0))) (hb : w.heap[b.block]? = some (.cells cb tb (0, 0))) :
    Calls Tryd.prog 68 #[.iface 164 (.pointer (some a)), .iface 164 (.pointer (some b))] w fun e w' => e = .returned (.bool false) ∧ w = w' := by
  obtain ⟨i, hi, hcmp⟩ := Option.map_eq_some_iff.1 isComp
  obtain ⟨j, hj, hjs⟩ := Option.map_eq_some_iff.1 isSize
  have h8 := @run_callFunc_extern Tryd.prog 83 _ Extern.ReflectliteType.typeOf Tryd.func83 (by kernel_rfl) (by kernel_rfl) (by kernel_rfl) (by kernel_rfl)
  have h32 := @run_callFunc_extern Tryd.prog 123 _ (Extern.ReflectliteType.method cmpM) Tryd.func123 (by kernel_rfl) (by kernel_rfl) (by kernel_rfl) (by kernel_rfl)
  have tT := isTypeOf
  have cT := isComparable
  have mR := isMethodComparable
  have nE := noIsE
  have uE := noUnwrapE
  have vE := noUnwrapsE
  have heq := run_eql_iface_ptr_other (P := Tryd.prog) w Tryd.underlying65 Tryd.underlying164 hi hcmp hj (by rw [hjs]; decide) hne ha hb
  go_enter Tryd.func68, Tryd.ntmps68
  go_wp2
  refine wp_loop_rounds 1 ?_
  rw [rounds_succ]
  go_wp2
  go_ret
  exact ⟨rfl, rfl⟩

/-- The package's two variables hold two different errors. -/
structure Errs (w : World) (B : Nat) (a0 a1 : Addr) : Prop where
  c0 : w.cell? ⟨0, 0, none⟩ = some (.iface 164 (.pointer (some a0)))
  c1 : w.cell? ⟨1, 0, none⟩ = some (.iface 164 (.pointer (some a1)))
  ne : a0 ≠ a1
  h0 : ∃ c t, w.heap[a0.block]? = some (.cells c t (0, 0))
  h1 : ∃ c t, w.heap[a1.block]? = some (.cells c t (0, 0))
  gB : 0 < B ∧ 1 < B
  b0 : a0.block < B
  b1 : a1.block < B
theorem Errs.below {w w' : World} {B : Nat} {a0 a1 : Addr} (h : Errs w B a0 a1) (hb : Below B w w') : Errs w' B a0 a1 where
  c0 := (hb.cell (p := ⟨0, 0, none⟩) (by have := h.gB; show 0 < B; omega)).trans h.c0
  c1 := (hb.cell (p := ⟨1, 0, none⟩) (by have := h.gB; show 1 < B; omega)).trans h.c1
  ne := h.ne
  h0 := by obtain ⟨c, t, e⟩ := h.h0; exact ⟨c, t, (hb.block _ h.b0).trans e⟩
  h1 := by obtain ⟨c, t, e⟩ := h.h1; exact ⟨c, t, (hb.block _ h.b1).trans e⟩
  gB := h.gB
  b0 := h.b0
  b1 := h.b1
theorem Errs.more {w : World} {B B' : Nat} {a0 a1 : Addr} (h : Errs w B a0 a1) (hB : B ≤ B') : Errs w B' a0 a1 :=
  ⟨h.c0, h.c1, h.ne, h.h0, h.h1, by have := h.gB; omega, by have := h.b0; omega, by have := h.b1; omega⟩

theorem toldTrie_any {B : Nat} {a0 a1 : Addr} (w : World) (h : Errs w B a0 a1) :
    Calls Tryd.prog 45 #[.iface 164 (.pointer (some a1))] w fun e w' => e = .returned (.int .i64 50) ∧ w = w' := by
  have c1 := h.c1
  go_enter Tryd.func45, Tryd.ntmps45
  go_wp2_with (go_at_call 68; refine (is_same _ _).mono ?_; rintro e w' ⟨rfl, rfl⟩)
  go_ret
  exact ⟨rfl, rfl⟩

theorem toldRange_any {B : Nat} {a0 a1 : Addr} (w : World) (h : Errs w B a0 a1) :
    Calls Tryd.prog 45 #[.iface 164 (.pointer (some a0))] w fun e w' => e = .returned (.int .i64 22) ∧ w = w' := by
  have c0 := h.c0
  have c1 := h.c1
  obtain ⟨x0, t0, e0⟩ := h.h0
  obtain ⟨x1, t1, e1⟩ := h.h1
  have E0 := hide e0
  have E1 := hide e1
  clear e0 e1
  have hne := h.ne
  go_enter Tryd.func45, Tryd.ntmps45
  go_wp2_with fail
  refine (is_other a0 a1 x0 x1 t0 t1 w hne E0.out E1.out).mono ?_
  rintro e w' ⟨rfl, rfl⟩
  go_wp2_with fail
  refine (is_same a0 _).mono ?_
  rintro e w' ⟨rfl, rfl⟩
  go_wp2
  go_ret
  exact ⟨rfl, rfl⟩
end Go.Proofs.YtibndkkbmgbogaaDoor
