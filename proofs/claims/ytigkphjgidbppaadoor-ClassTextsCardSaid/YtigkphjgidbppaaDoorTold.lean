/- The program's class.told: errors.As at the package's own error. Conditions: package errors' variable holds its handle. -/
import Derived.Test.YtigkphjgidbppaaDoorProg
import Derived.Test.YtigkphjgidbppaaDoorBase
import Derived.WalkKit
import Derived.LaidEql
import Derived.Stop.Asserts
import Derived.RowKitTokens
import Derived.Laws.CopyRow
import Derived.Laws.CopyOwn
namespace Go.Proofs.YtigkphjgidbppaaDoor
open Go Go.RowKit Go.Extern.Stop Go.Stop Go.Extern

theorem as_nil (t : Value) (w : World) : Calls Tryd.prog 40 #[.nilIface, t] w fun e w' => e = .returned (.bool false) ∧ w = w' := by
  go_enter Tryd.func40, Tryd.ntmps40
  go_wp2
  go_ret
  exact ⟨rfl, rfl⟩

theorem wValueOfP (t : Addr) (w : World) : (ReflectliteValue.unpack (.iface 70 (.pointer (some t)))).run Tryd.prog w
    = .ok (.agg #[.pointer (some ⟨5, 70, none⟩), .pointer (some ⟨w.heap.size, 0, none⟩), .int .u64 150]) (w.alloc (.cells #[.pointer (some t)] 70)) := by kernel_rfl
theorem wTypeP (a : Addr) (w : World) : (ReflectliteValue.methodAny (ReflectliteValue.valueError "reflectlite.Value.Type" 0) (fun t _ _ _ => ReflectliteType.toType t) #[.agg #[.pointer (some ⟨5, 70, none⟩), .pointer (some a), .int .u64 150]]).run Tryd.prog w
    = .ok (.iface 101 (.agg #[.pointer (some ⟨5, 70, none⟩)])) w := by kernel_rfl
theorem wMethodKind (h : Value) (w : World) : (Go.method 274 101 (.agg #[h]) "Kind").run Tryd.prog w = .ok (103, h) w := by kernel_rfl
theorem wKindP (w : World) : ((ReflectliteType.abiMethod fun t => Functor.map (fun a : Nat => Value.int IntKind.u8 (a : Int)) (Rtype.kind t)) #[.pointer (some ⟨5, 70, none⟩)]).run Tryd.prog w = .ok (.int .u8 22) w := by kernel_rfl
theorem wKindW (w : World) : ((ReflectliteType.abiMethod fun t => Functor.map (fun a : Nat => Value.int IntKind.u8 (a : Int)) (Rtype.kind t)) #[.pointer (some ⟨5, 53, none⟩)]).run Tryd.prog w = .ok (.int .u8 25) w := by kernel_rfl
theorem rlm (z : Sem Value) (f : TypeId → Addr → Nat → Nat → Sem Value) (v : Value) :
    ReflectliteValue.method z f #[v] = (do match ← ReflectliteValue.parts v with | none => z | some (t, a, fl) => f t a fl (fl % 32)) := rfl
theorem wPartsP (a : Addr) (w : World) : (ReflectliteValue.parts (.agg #[.pointer (some ⟨5, 70, none⟩), .pointer (some a), .int .u64 150])).run Tryd.prog w = .ok (some (70, a, 150)) w := by kernel_rfl
theorem wIsNilP (a p : Addr) (W : World) (ha : W.cell? a = some (.pointer (some p))) :
    (ReflectliteValue.method (ReflectliteValue.valueError "reflectlite.Value.IsNil" 0) ReflectliteValue.isNil #[.agg #[.pointer (some ⟨5, 70, none⟩), .pointer (some a), .int .u64 150]]).run Tryd.prog W = .ok (.bool false) W := by
  rw [rlm]
  simp only [Sem.run_bind, wPartsP, Result.andThen]
  simp [ReflectliteValue.isNil, loadVar, isAgg, underlying, Tryd.underlying70, ha, Result.andThen]
theorem wMethodElem (h : Value) (w : World) : (Go.method 274 101 (.agg #[h]) "Elem").run Tryd.prog w = .ok (114, .agg #[h]) w := by kernel_rfl
theorem wMethodImplements (h : Value) (w : World) : (Go.method 274 101 (.agg #[h]) "Implements").run Tryd.prog w = .ok (115, .agg #[h]) w := by kernel_rfl
theorem wMethodAssignableTo (h : Value) (w : World) : (Go.method 274 101 (.agg #[h]) "AssignableTo").run Tryd.prog w = .ok (112, .agg #[h]) w := by kernel_rfl
theorem wElemP (w : World) : (ReflectliteType.method ReflectliteType.elem #[.agg #[.pointer (some ⟨5, 70, none⟩)]]).run Tryd.prog w = .ok (.iface 101 (.agg #[.pointer (some ⟨5, 53, none⟩)])) w := by kernel_rfl
theorem wImplementsW (w : World) : (ReflectliteType.relation "Implements" ReflectliteType.implements_ #[.agg #[.pointer (some ⟨5, 53, none⟩)], .iface 101 (.agg #[.pointer (some ⟨5, 49, none⟩)])]).run Tryd.prog w = .ok (.bool true) w := by kernel_rfl
theorem wTypeOfW (v : Value) (w : World) : (ReflectliteType.typeOf #[.iface 53 v]).run Tryd.prog w = .ok (.iface 101 (.agg #[.pointer (some ⟨5, 53, none⟩)])) w := by kernel_rfl
theorem wAssignableW (w : World) : (ReflectliteType.relation "AssignableTo" ReflectliteType.assignableTo #[.agg #[.pointer (some ⟨5, 53, none⟩)], .iface 101 (.agg #[.pointer (some ⟨5, 53, none⟩)])]).run Tryd.prog w = .ok (.bool true) w := by kernel_rfl
theorem wValueOfW (x y : Value) (w : World) : (ReflectliteValue.unpack (.iface 53 (.agg #[x, y]))).run Tryd.prog w
    = .ok (.agg #[.pointer (some ⟨5, 53, none⟩), .pointer (some ⟨w.heap.size, 0, none⟩), .int .u64 153]) (w.alloc (.cells #[x, y] 53)) := by kernel_rfl
theorem wElemOfP (w : World) : (Rtype.elem? 70).run Tryd.prog w = .ok (some 53) w := by kernel_rfl
theorem wMkW (p : Addr) (w : World) : (ReflectliteValue.mk 53 p ReflectliteValue.flagAddr).run Tryd.prog w = .ok (.agg #[.pointer (some ⟨5, 53, none⟩), .pointer (some p), .int .u64 409]) w := by kernel_rfl
theorem wElemVP (a p : Addr) (W : World) (ha : W.cell? a = some (.pointer (some p))) :
    (ReflectliteValue.method (ReflectliteValue.valueError "reflectlite.Value.Elem" 0) ReflectliteValue.elem #[.agg #[.pointer (some ⟨5, 70, none⟩), .pointer (some a), .int .u64 150]]).run Tryd.prog W
      = .ok (.agg #[.pointer (some ⟨5, 53, none⟩), .pointer (some p), .int .u64 409]) W := by
  rw [rlm]
  simp only [Sem.run_bind, wPartsP, Result.andThen]
  simp [ReflectliteValue.elem, loadVar, isAgg, underlying, Tryd.underlying70, ha, Result.andThen, wElemOfP, wMkW]
theorem rls (v x : Value) : ReflectliteValue.set #[v, x] = (do
    let (some (dst, a, fl), some (src, b, _)) := (← ReflectliteValue.parts v, ← ReflectliteValue.parts x)
      | unsupported (.noEntry "extern/(internal/reflectlite.Value).Set.zeroValue")
    if fl / ReflectliteValue.flagAddr % 2 == 0 then unsupported (.noEntry "extern/(internal/reflectlite.Value).Set.unaddressable")
    let val ← loadVar src b
    if ← Rtype.directlyAssignable dst src then storeVar dst a val
    else if ← Rtype.implements dst src then
      if (← Rtype.kind src) == 20 then
        match val with
        | .nilIface => unsupported (.noEntry "extern/reflectlite: a nil value of one interface type handed on as a value of another")
        | _ => storeVar dst a val
      else storeVar dst a (.iface src val)
    else panicString ("reflectlite.Set: value of type " ++ (← Rtype.spelt src) ++ " is not assignable to type " ++ (← Rtype.spelt dst))
    pure (.tuple #[])) := rfl
theorem wPartsWa (a : Addr) (w : World) : (ReflectliteValue.parts (.agg #[.pointer (some ⟨5, 53, none⟩), .pointer (some a), .int .u64 409])).run Tryd.prog w = .ok (some (53, a, 409)) w := by kernel_rfl
theorem wPartsW (a : Addr) (w : World) : (ReflectliteValue.parts (.agg #[.pointer (some ⟨5, 53, none⟩), .pointer (some a), .int .u64 153])).run Tryd.prog w = .ok (some (53, a, 153)) w := by kernel_rfl
theorem wDirectW (w : World) : (Rtype.directlyAssignable 53 53).run Tryd.prog w = .ok true w := by kernel_rfl
theorem wSizeW (w : World) : (sizeOf 53).run Tryd.prog w = .ok 2 w := by kernel_rfl
theorem wAggW (w : World) : (isAgg 53).run Tryd.prog w = .ok true w := by kernel_rfl
/-- (Value).Set: the variable at block t gets what the Value's own variable at block b holds. -/
theorem wSetW (t b : Nat) (k : Int) (u : TypeId) (z : Value) (cur : Array Value) (W : World) (hb : Blk W b 53 #[.int .i64 k, .iface u z]) (ht : Blk W t 53 cur) (hc : cur.size = 2) :
    (ReflectliteValue.set #[.agg #[.pointer (some ⟨5, 53, none⟩), .pointer (some ⟨t, 0, none⟩), .int .u64 409], .agg #[.pointer (some ⟨5, 53, none⟩), .pointer (some ⟨b, 0, none⟩), .int .u64 153]]).run Tryd.prog W
      = .ok (.tuple #[]) (W.setRow t #[.int .i64 k, .iface u z]) := by
  have hl : (loadCells ⟨b, 0, none⟩ 2).run Tryd.prog W = .ok #[.int .i64 k, .iface u z] W := by
    have := run_loadCells_list (P := Tryd.prog) W ⟨b, 0, none⟩ [.int .i64 k, .iface u z] (fun j v hj => by
      have h2 := hb.cell j
      match j, hj with
      | 0, hj => simp at hj h2; simpa [Addr.add, hj] using h2
      | 1, hj => simp at hj h2; simpa [Addr.add, hj] using h2)
    simpa using this
  have hs : (storeCells ⟨t, 0, none⟩ [.int .i64 k, .iface u z]).run Tryd.prog W = .ok () (W.setRow t #[.int .i64 k, .iface u z]) := by
    have h := run_storeCells_at Tryd.prog t 0 53 [.int .i64 k, .iface u z] 0 cur W ht (by simp [hc]) (by intro v hv; simp at hv; rcases hv with rfl | rfl <;> rfl)
    have e : cur.toList.drop 2 = [] := List.drop_of_length_le (by simp [hc])
    simpa [e] using h
  rw [rls]
  simp only [Sem.run_bind, wPartsWa, wPartsW, Result.andThen]
  simp [ReflectliteValue.flagAddr, loadVar, hl, Result.andThen, wDirectW, storeVar, Value.cells, hs]

theorem below_row (w : World) (t : Nat) (cs : Array Value) : Below t w (w.setRow t cs) := ⟨rfl, rfl, rfl, by simp [World.setRow], fun k hk => setRow_other w t k cs (by omega)⟩

set_option maxRecDepth 100000 in
set_option maxHeartbeats 4000000 in
theorem as_hit (t : Nat) (k : Int) (u : TypeId) (z : Value) (cur : Array Value) (w : World) (hg : w.cell? ⟨1, 0, none⟩ = some (.iface 101 (.agg #[.pointer (some ⟨5, 49, none⟩)]))) (ht : Blk w t 53 cur) (hc : cur.size = 2) :
    Calls Tryd.prog 40 #[.iface 53 (.agg #[.int .i64 k, .iface u z]), .iface 70 (.pointer (some ⟨t, 0, none⟩))] w fun ev w' => ev = .returned (.bool true) ∧ Blk w' t 53 #[.int .i64 k, .iface u z] ∧ Below t w w' := by
  have h6 := @run_callFunc_extern Tryd.prog 48 _ (fun args => ReflectliteValue.unpack (args.getD 0 (.tuple #[]))) Tryd.func48 (by kernel_rfl) (by kernel_rfl) (by kernel_rfl) (by kernel_rfl)
  have h7 := @run_callFunc_extern Tryd.prog 49 _ (ReflectliteValue.methodAny (ReflectliteValue.valueError "reflectlite.Value.Type" 0) (fun t _ _ _ => ReflectliteType.toType t)) Tryd.func49 (by kernel_rfl) (by kernel_rfl) (by kernel_rfl) (by kernel_rfl)
  have h8 := @run_callFunc_extern Tryd.prog 50 _ (ReflectliteValue.method (ReflectliteValue.valueError "reflectlite.Value.IsNil" 0) ReflectliteValue.isNil) Tryd.func50 (by kernel_rfl) (by kernel_rfl) (by kernel_rfl) (by kernel_rfl)
  have h27 := @run_callFunc_extern Tryd.prog 103 _ (ReflectliteType.abiMethod fun t => do pure (.int .u8 (← Rtype.kind t))) Tryd.func103 (by kernel_rfl) (by kernel_rfl) (by kernel_rfl) (by kernel_rfl)
  have h37 := @run_callFunc_extern Tryd.prog 114 _ (ReflectliteType.method ReflectliteType.elem) Tryd.func114 (by kernel_rfl) (by kernel_rfl) (by kernel_rfl) (by kernel_rfl)
  have h38 := @run_callFunc_extern Tryd.prog 115 _ (ReflectliteType.relation "Implements" ReflectliteType.implements_) Tryd.func115 (by kernel_rfl) (by kernel_rfl) (by kernel_rfl) (by kernel_rfl)
  have h10 := @run_callFunc_extern Tryd.prog 60 _ ReflectliteType.typeOf Tryd.func60 (by kernel_rfl) (by kernel_rfl) (by kernel_rfl) (by kernel_rfl)
  have h35 := @run_callFunc_extern Tryd.prog 112 _ (ReflectliteType.relation "AssignableTo" ReflectliteType.assignableTo) Tryd.func112 (by kernel_rfl) (by kernel_rfl) (by kernel_rfl) (by kernel_rfl)
  have h11 := @run_callFunc_extern Tryd.prog 61 _ (ReflectliteValue.method (ReflectliteValue.valueError "reflectlite.Value.Elem" 0) ReflectliteValue.elem) Tryd.func61 (by kernel_rfl) (by kernel_rfl) (by kernel_rfl) (by kernel_rfl)
  have h12 := @run_callFunc_extern Tryd.prog 62 _ ReflectliteValue.set Tryd.func62 (by kernel_rfl) (by kernel_rfl) (by kernel_rfl) (by kernel_rfl)
  have tO := wTypeOfW
  have mA := wMethodAssignableTo
  have aW := wAssignableW
  have vW := wValueOfW
  have f6 := wValueOfP
  have f7 := wTypeP
  have mK := wMethodKind
  have mE := wMethodElem
  have mI := wMethodImplements
  have kP := wKindP
  have kW := wKindW
  have eP := wElemP
  have iW := wImplementsW
  have hlt : 1 < w.heap.size := World.block_lt_of_cell? _ _ hg
  have htl := ht.lt
  have n8 := wIsNilP ⟨w.heap.size, 0, none⟩ ⟨t, 0, none⟩ ((w.alloc (.cells #[.pointer (some ⟨t, 0, none⟩)] 70)).alloc (.cells #[.pointer (some ⟨5, 70, none⟩), .pointer (some ⟨w.heap.size, 0, none⟩), .int .u64 150] 84)) (by simp)
  have hg2 : ((w.alloc (.cells #[.pointer (some ⟨t, 0, none⟩)] 70)).alloc (.cells #[.pointer (some ⟨5, 70, none⟩), .pointer (some ⟨w.heap.size, 0, none⟩), .int .u64 150] 84)).cell? ⟨1, 0, none⟩ = some (.iface 101 (.agg #[.pointer (some ⟨5, 49, none⟩)])) := by
    rw [World.cell?_alloc_lt _ _ ⟨1, 0, none⟩ (by simp; omega), World.cell?_alloc_lt _ _ ⟨1, 0, none⟩ hlt]; exact hg
  have el := wElemVP ⟨w.heap.size, 0, none⟩ ⟨t, 0, none⟩ (((w.alloc (.cells #[.pointer (some ⟨t, 0, none⟩)] 70)).alloc (.cells #[.pointer (some ⟨5, 70, none⟩), .pointer (some ⟨w.heap.size, 0, none⟩), .int .u64 150] 84)).alloc (.cells #[.pointer (some ⟨5, 70, none⟩), .pointer (some ⟨w.heap.size, 0, none⟩), .int .u64 150] 84)) (by rw [World.cell?_alloc_lt _ _ ⟨w.heap.size, 0, none⟩ (by simp; omega)]; simp)
  have b4 : Blk ((((w.alloc (.cells #[.pointer (some ⟨t, 0, none⟩)] 70)).alloc (.cells #[.pointer (some ⟨5, 70, none⟩), .pointer (some ⟨w.heap.size, 0, none⟩), .int .u64 150] 84)).alloc (.cells #[.pointer (some ⟨5, 70, none⟩), .pointer (some ⟨w.heap.size, 0, none⟩), .int .u64 150] 84)).alloc (.cells #[.int .i64 k, .iface u z] 53)) (w.heap.size + 1 + 1 + 1) 53 #[.int .i64 k, .iface u z] := by have := Blk.new (((w.alloc (.cells #[.pointer (some ⟨t, 0, none⟩)] 70)).alloc (.cells #[.pointer (some ⟨5, 70, none⟩), .pointer (some ⟨w.heap.size, 0, none⟩), .int .u64 150] 84)).alloc (.cells #[.pointer (some ⟨5, 70, none⟩), .pointer (some ⟨w.heap.size, 0, none⟩), .int .u64 150] 84)) 53 #[.int .i64 k, .iface u z]; simpa using this
  have t4 : Blk ((((w.alloc (.cells #[.pointer (some ⟨t, 0, none⟩)] 70)).alloc (.cells #[.pointer (some ⟨5, 70, none⟩), .pointer (some ⟨w.heap.size, 0, none⟩), .int .u64 150] 84)).alloc (.cells #[.pointer (some ⟨5, 70, none⟩), .pointer (some ⟨w.heap.size, 0, none⟩), .int .u64 150] 84)).alloc (.cells #[.int .i64 k, .iface u z] 53)) t 53 cur := (((ht.alloc _).alloc _).alloc _).alloc _
  have st := wSetW t (w.heap.size + 1 + 1 + 1) k u z cur ((((w.alloc (.cells #[.pointer (some ⟨t, 0, none⟩)] 70)).alloc (.cells #[.pointer (some ⟨5, 70, none⟩), .pointer (some ⟨w.heap.size, 0, none⟩), .int .u64 150] 84)).alloc (.cells #[.pointer (some ⟨5, 70, none⟩), .pointer (some ⟨w.heap.size, 0, none⟩), .int .u64 150] 84)).alloc (.cells #[.int .i64 k, .iface u z] 53)) b4 t4 hc
  have hbl : Below t w ((((w.alloc (.cells #[.pointer (some ⟨t, 0, none⟩)] 70)).alloc (.cells #[.pointer (some ⟨5, 70, none⟩), .pointer (some ⟨w.heap.size, 0, none⟩), .int .u64 150] 84)).alloc (.cells #[.pointer (some ⟨5, 70, none⟩), .pointer (some ⟨w.heap.size, 0, none⟩), .int .u64 150] 84)).alloc (.cells #[.int .i64 k, .iface u z] 53)) := ((((Below.refl _ _).alloc (by omega) _).alloc (by simp; omega) _).alloc (by simp; omega) _).alloc (by simp; omega) _
  have hfin : Blk (((((w.alloc (.cells #[.pointer (some ⟨t, 0, none⟩)] 70)).alloc (.cells #[.pointer (some ⟨5, 70, none⟩), .pointer (some ⟨w.heap.size, 0, none⟩), .int .u64 150] 84)).alloc (.cells #[.pointer (some ⟨5, 70, none⟩), .pointer (some ⟨w.heap.size, 0, none⟩), .int .u64 150] 84)).alloc (.cells #[.int .i64 k, .iface u z] 53)).setRow t #[.int .i64 k, .iface u z]) t 53 #[.int .i64 k, .iface u z] := setRow_heap _ _ _ _ _ _ t4
  have hbf := hbl.trans (below_row _ t #[.int .i64 k, .iface u z])
  clear b4 t4 hbl ht
  go_enter Tryd.func40, Tryd.ntmps40
  go_wp2
  refine wp_loop_rounds 1 ?_
  rw [rounds_succ]
  go_wp2
  go_ret
  exact ⟨rfl, hfin, hbf⟩

theorem told_any (k : Int) (u : TypeId) (z : Value) (w : World) (hg : w.cell? ⟨1, 0, none⟩ = some (.iface 101 (.agg #[.pointer (some ⟨5, 49, none⟩)]))) :
    Calls Tryd.prog 31 #[.iface 53 (.agg #[.int .i64 k, .iface u z])] w fun e w' => e = .returned (.int .i64 k) ∧ Below w.heap.size w w' := by
  have hlt : 1 < w.heap.size := World.block_lt_of_cell? _ _ hg
  go_enter Tryd.func31, Tryd.ntmps31
  go_wp2_with fail
  refine (as_hit w.heap.size k u z #[.int .i64 0, .nilIface] _ ((World.cell?_alloc_lt _ _ ⟨1, 0, none⟩ hlt).trans hg) (Blk.new _ _ _) rfl).mono ?_
  rintro e w1 ⟨rfl, h1, h2⟩
  have c0 := h1.cell 0
  simp only [List.getElem?_toArray, List.getElem?_cons_zero] at c0
  go_wp2
  go_ret
  exact ⟨rfl, ((Below.refl _ _).alloc (Nat.le_refl _) _).trans h2⟩

theorem told_nil (w : World) :
    Calls Tryd.prog 31 #[.nilIface] w fun e w' => e = .returned (.int .i64 0) ∧ Below w.heap.size w w' := by
  go_enter Tryd.func31, Tryd.ntmps31
  go_wp2_with ((go_at_call 40; refine (as_nil _ _).mono ?_; rintro e w' ⟨rfl, rfl⟩))
  go_ret
  exact ⟨rfl, (Below.refl _ _).alloc (Nat.le_refl _) _⟩
end Go.Proofs.YtigkphjgidbppaaDoor
