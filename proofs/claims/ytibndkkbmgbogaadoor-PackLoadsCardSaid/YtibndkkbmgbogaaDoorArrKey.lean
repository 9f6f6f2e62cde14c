/- Maps whose keys are blocks: equality of two blocks, a look-up, a store, at the level of the map's own entries. Conditions: the key's type is an array of ints. -/
import Derived.WideKeyRuns
import Derived.DeepKeys3
import Derived.RangeFuncRecord
import Derived.Test.YtibndkkbmgbogaaDoorFill
namespace Go.Proofs.YtibndkkbmgbogaaDoor
open Go Go.RowKit

section
variable {P : Program}

theorem run_eq_arr {k e n : Nat} (hk : P.underlying k = some (.array n e)) (he : P.underlying e = some (.int .i64)) {inf : TypeInfo} (hi : P.info? e = some inf) (hs : P.cellsOf e = 1) (hp : P.plainKey e = true) (x y : List Int) (hx : x.length = n) (hy : y.length = n) (w : World) :
    (Op.equal k (.agg (intArr x)) (.agg (intArr y))).run P w = .ok (decide (x = y)) w := by
  show (Op.equalIn (9999 + 1) k (.agg (intArr x)) (.agg (intArr y))).run P w = _
  rw [Op.equalIn]
  simp only [Sem.run_bind, run_underlying hk, Result.andThen_ok, run_sizeOf w hi]
  simp only [Std.Legacy.Range.forIn_eq_forIn_range', Std.Legacy.Range.size, Nat.sub_zero, Nat.add_one_sub_one, Nat.div_one, hs, Nat.mul_one]
  have key : ∀ (m s : Nat), s + m = n → (Sem.run P
          (forIn (List.range' s m) ((none, ()) : Option Bool × PUnit) fun i __s => do
            let __do_lift ← part e (intArr x) i
            let __do_lift_1 ← part e (intArr y) i
            let __do_lift ← Op.equalIn 9999 e __do_lift __do_lift_1
            if (!__do_lift) = true then pure (ForInStep.done (some false, ())) else pure (ForInStep.yield (none, ())))
          w) = .ok (if x.drop s = y.drop s then (none, ()) else (some false, ())) w := by
    intro m
    induction m with
    | zero =>
      intro s hsn
      rw [List.drop_of_length_le (by omega), List.drop_of_length_le (by omega)]
      simp
    | succ m ih =>
      intro s hsn
      have h1 : s < x.length := by omega
      have h2 : s < y.length := by omega
      have heq : (Op.equalIn 9999 e (.int .i64 x[s]) (.int .i64 y[s])).run P w = .ok (x[s] == y[s]) w := by
        show (Op.equalIn (9998 + 1) e _ _).run P w = _
        rw [Op.equalIn]
        simp [run_underlying he]
      rw [List.range'_succ, List.forIn_cons]
      simp only [Sem.run_bind, run_part_plain w hp (intArr_get x s h1), run_part_plain w hp (intArr_get y s h2), Result.andThen_ok, heq]
      rw [drop_cons h1, drop_cons h2]
      by_cases hxy : x[s] = y[s]
      · simp only [hxy, beq_self_eq_true, Bool.not_true, Bool.false_eq_true, if_false, Sem.run_pure, Result.andThen_ok, List.cons.injEq, true_and]
        exact ih (s + 1) (by omega)
      · have hb : (x[s] == y[s]) = false := by simpa using hxy
        have hcons : ¬ (x[s] :: x.drop (s + 1) = y[s] :: y.drop (s + 1)) := fun h => by injection h with h1; exact hxy h1
        simp only [hb, Bool.not_false, if_true, Sem.run_pure, Result.andThen_ok]
        rw [if_neg hcons]
  rw [key n 0 (by omega)]
  simp only [List.drop_zero, Result.andThen_ok]
  by_cases hxy : x = y
  · simp [hxy]
  · simp [hxy]

theorem run_check_arr {k e n : Nat} (hk : P.underlying k = some (.array n e)) (he : P.underlying e = some (.int .i64)) {inf : TypeInfo} (hi : P.info? e = some inf) (hs : P.cellsOf e = 1) (hp : P.plainKey e = true) (x : List Int) (hx : x.length = n) (em : Bool) (w : World) :
    (Instr.checkKey em 10000 k (.agg (intArr x))).run P w = .ok () w := by
  show (Instr.checkKey em (9999 + 1) k _).run P w = _
  rw [Instr.checkKey]
  simp only [Sem.run_bind, run_underlying hk, Result.andThen_ok]
  simp only [Std.Legacy.Range.forIn_eq_forIn_range', Std.Legacy.Range.size, Nat.sub_zero, Nat.add_one_sub_one, Nat.div_one]
  have key : ∀ (m s : Nat), s + m = n → (Sem.run P
          (forIn (List.range' s m) PUnit.unit fun i __s => do
            let __do_lift ← sizeOf e
            let __do_lift ← part e (intArr x) (i * __do_lift)
            Instr.checkKey em 9999 e __do_lift
            pure (ForInStep.yield PUnit.unit))
          w) = .ok PUnit.unit w := by
    intro m
    induction m with
    | zero => intro s _; simp
    | succ m ih =>
      intro s hsn
      have h1 : s < x.length := by omega
      have hck : (Instr.checkKey em 9999 e (.int .i64 x[s])).run P w = .ok () w := by
        show (Instr.checkKey em (9998 + 1) e _).run P w = _
        rw [Instr.checkKey]
        simp [run_underlying he]
      rw [List.range'_succ, List.forIn_cons]
      simp only [Sem.run_bind, run_sizeOf w hi, Result.andThen_ok, hs, Nat.mul_one, run_part_plain w hp (intArr_get x s h1), hck, Sem.run_pure]
      exact ih (s + 1) (by omega)
  rw [key n 0 (by omega)]
  simp

/-- the map's entry of a block -/
def ent (i : Nat) (b : List Int) : MapEntry := { key := .agg (intArr b), val := .int .i64 (i : Int), born := i }
def ents (bl : List (List Int)) : List MapEntry := bl.mapIdx ent
theorem ents_snoc (bl : List (List Int)) (x : List Int) : ents (bl ++ [x]) = ents bl ++ [ent bl.length x] := by simp [ents, List.mapIdx_append]
theorem ents_length (bl : List (List Int)) : (ents bl).length = bl.length := by simp [ents]

theorem run_find_arr {k e n : Nat} (hk : P.underlying k = some (.array n e)) (he : P.underlying e = some (.int .i64)) {inf : TypeInfo} (hi : P.info? e = some inf) (hs : P.cellsOf e = 1) (hp : P.plainKey e = true) (x : List Int) (hx : x.length = n) (w : World) :
    ∀ (bl : List (List Int)) (f : Nat → Nat) (i0 : Nat), (∀ b ∈ bl, b.length = n) →
      (Instr.findAsking k (.agg (intArr x)) (bl.mapIdx fun i b => ent (f i) b) i0).run P w = .ok ((bl.findIdx? fun b => decide (x = b)).map fun j => (i0 + j, .int .i64 (f j : Int))) w := by
  intro bl
  induction bl with
  | nil => intro f i0 _; simp [Instr.findAsking]
  | cons b bl ih =>
    intro f i0 hb
    rw [List.mapIdx_cons, Instr.findAsking]
    simp only [Sem.run_bind, ent, run_eq_arr hk he hi hs hp x b hx (hb b (by simp)), Result.andThen_ok]
    rw [List.findIdx?_cons]
    by_cases h : x = b
    · simp [h]
    · have := ih (fun j => f (j + 1)) (i0 + 1) (fun c hc => hb c (by simp [hc]))
      simp only [ent] at this
      simp only [h, decide_false, Bool.false_eq_true, if_false, this]
      congr 1
      cases bl.findIdx? fun b => decide (x = b) with
      | none => rfl
      | some j => simp; omega

/-- what is said of a block: its number, and whether it is there -/
def blkNo (bl : List (List Int)) (x : List Int) : Nat := (bl.findIdx? fun b => decide (x = b)).getD 0
def blkIn (bl : List (List Int)) (x : List Int) : Bool := (bl.findIdx? fun b => decide (x = b)).isSome

theorem run_findKey_arr {k e n : Nat} (hk : P.underlying k = some (.array n e)) (he : P.underlying e = some (.int .i64)) {inf : TypeInfo} (hi : P.info? e = some inf) (hs : P.cellsOf e = 1) (hp : P.plainKey e = true) (x : List Int) (hx : x.length = n) (w : World)
    (bl : List (List Int)) (hb : ∀ b ∈ bl, b.length = n) :
    (Instr.findKey k (.agg (intArr x)) (ents bl)).run P w = .ok ((bl.findIdx? fun b => decide (x = b)).map fun j => (j, .int .i64 (j : Int))) w := by
  rw [run_findKey_eq w (by simp [hk])]
  have := run_find_arr hk he hi hs hp x hx w bl id 0 hb
  simpa [ents] using this

theorem run_lookup_arr {mt k e n : Nat} (hmt : P.underlying mt = some (.map k e)) (hk : P.underlying k = some (.array n e)) (he : P.underlying e = some (.int .i64)) {inf : TypeInfo} (hi : P.info? e = some inf) (hs : P.cellsOf e = 1) (hp : P.plainKey e = true)
    (hz : ∀ w : World, (zeroValue e).run P w = .ok (.int .i64 0) w) (x : List Int) (hx : x.length = n) (w : World) (m c : Nat)
    (bl : List (List Int)) (hb : ∀ b ∈ bl, b.length = n) (hm : w.heap[m]? = some (.map (ents bl).toArray c)) :
    (Instr.lookup mt (.map (some m)) (.agg (intArr x)) true).run P w = .ok (.tuple #[.int .i64 (blkNo bl x : Int), .bool (blkIn bl x)]) w := by
  unfold Instr.lookup blkNo blkIn
  have hg : (getObj m).run P w = .ok (.map (ents bl).toArray c) w := by simp [getObj, Sem.run, hm]
  simp only [Sem.run_bind, run_underlying hmt, Result.andThen_ok, hg, Sem.run_pure]
  simp only [run_check_arr hk he hi hs hp x hx, Result.andThen_ok, run_findKey_arr hk he hi hs hp x hx w bl hb]
  cases bl.findIdx? fun b => decide (x = b) with
  | none => simp [hz]
  | some j => simp

theorem run_update_arr {mt k e n : Nat} (hmt : P.underlying mt = some (.map k e)) (hk : P.underlying k = some (.array n e)) (he : P.underlying e = some (.int .i64)) {inf : TypeInfo} (hi : P.info? e = some inf) (hs : P.cellsOf e = 1) (hp : P.plainKey e = true)
    (x : List Int) (hx : x.length = n) (w : World) (m : Nat)
    (bl : List (List Int)) (hb : ∀ b ∈ bl, b.length = n) (hm : w.heap[m]? = some (.map (ents bl).toArray bl.length)) (hno : blkIn bl x = false) :
    (Instr.mapUpdate mt (.map (some m)) (.agg (intArr x)) (.int .i64 (bl.length : Int))).run P w = .ok () (w.putObj m (.map (ents (bl ++ [x])).toArray (bl ++ [x]).length)) := by
  unfold Instr.mapUpdate
  have hg : (getObj m).run P w = .ok (.map (ents bl).toArray bl.length) w := by simp [getObj, Sem.run, hm]
  have hset : ∀ o : Obj, (setObj m o).run P w = .ok () (w.putObj m o) := fun o => by simp [setObj, Sem.run, hm, World.putObj]
  have hf : (bl.findIdx? fun b => decide (x = b)) = none := by
    unfold blkIn at hno
    cases h : bl.findIdx? fun b => decide (x = b) with
    | none => rfl
    | some j => simp [h] at hno
  simp only [Sem.run_bind, run_underlying hmt, Result.andThen_ok, hg]
  simp only [run_check_arr hk he hi hs hp x hx, Result.andThen_ok, run_findKey_arr hk he hi hs hp x hx w bl hb, hf, Option.map_none, hset]
  rw [ents_snoc]
  simp [ent]
end
end Go.Proofs.YtibndkkbmgbogaaDoor
