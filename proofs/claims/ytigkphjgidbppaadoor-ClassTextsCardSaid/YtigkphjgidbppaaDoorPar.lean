/- The program's class.inside; strings.Split by a blank; what a text says as a set (plain). Conditions: none but sizes. -/
import Derived.Test.YtigkphjgidbppaaDoorPrintP
import Derived.Lib.SplitLaws
import Derived.Maps.OwnSet
namespace Go.Proofs.YtigkphjgidbppaaDoor
open Go Go.RowKit

theorem list_eq_true {s : ByteArray} {l : List UInt8} (h : s = ⟨l.toArray⟩) : (s.toList == l) = true := by
  rw [h, ByteArray.toList_eq]
  simp
theorem list_eq_false {s : ByteArray} {l : List UInt8} (h : ¬ s = ⟨l.toArray⟩) : (s.toList == l) = false := by
  rw [beq_eq_false_iff_ne, ByteArray.toList_eq]
  intro e
  exact h (by rw [← e])

/-- what stands between brackets -/
def insideB (s : ByteArray) : ByteArray × Bool :=
  (⟨(Lib.trimSuffix (Lib.trimPrefix s.data.toList [91]) [93]).toArray⟩, Lib.hasPrefix s.data.toList [91] && Lib.hasSuffix (Lib.trimPrefix s.data.toList [91]) [93])

theorem trimP_len (l p : List UInt8) : (Lib.trimPrefix l p).length ≤ l.length := by
  unfold Lib.trimPrefix
  split
  · simp
  · omega
theorem trimS_len (l p : List UInt8) : (Lib.trimSuffix l p).length ≤ l.length := by
  unfold Lib.trimSuffix
  split
  · rw [List.length_take]; omega
  · omega
theorem size_mk (l : List UInt8) : (⟨l.toArray⟩ : ByteArray).size = l.length := by simp [ByteArray.size]

set_option maxRecDepth 100000 in
set_option maxHeartbeats 1000000 in
theorem inside_any (s : ByteArray) (w : World) (hs : s.size ≤ 9223372036854775807) :
    Calls Tryd.prog 43 #[.string s] w fun e w' => e = .returned (.tuple #[.string (insideB s).1, .bool (insideB s).2]) ∧ w = w' := by
  have h1 := Tryd.strings_CutPrefix s ⟨#[91]⟩ w
  have h2 := Tryd.strings_CutSuffix ⟨(Lib.trimPrefix s.data.toList [91]).toArray⟩ ⟨#[93]⟩ w (by
    rw [size_mk]
    have := trimP_len s.data.toList [91]
    have h : s.data.toList.length = s.size := rfl
    omega)
  unfold insideB
  simp only at h1 h2 ⊢
  generalize Lib.trimPrefix s.data.toList [91] = t1 at *
  generalize Lib.hasPrefix s.data.toList [91] = b1 at *
  generalize Lib.trimSuffix t1 [93] = t2 at *
  generalize Lib.hasSuffix t1 [93] = b2 at *
  go_enter Tryd.func43, Tryd.ntmps43
  go_wp2_with fail
  refine h1.mono ?_
  rintro e _ ⟨rfl, rfl⟩
  go_wp2_with fail
  refine h2.mono ?_
  rintro e _ ⟨rfl, rfl⟩
  cases b1 <;> cases b2
  all_goals
    go_wp2
    go_ret2
    exact ⟨rfl, rfl⟩

/-- a text's parts between blanks -/
def splitT (s : ByteArray) : List ByteArray := Lib.splitB ⟨#[32]⟩ 0 (Lib.countB s ⟨#[32]⟩) s
theorem splitT_pieces (sep : ByteArray) : ∀ (k : Nat) (s : ByteArray), ∀ x ∈ Lib.splitB sep 0 k s, x.size ≤ s.size
  | 0, s, x, h => by
    rw [Lib.splitB_zero, List.mem_singleton] at h
    rw [h]; exact Nat.le_refl _
  | k + 1, s, x, h => by
    rcases Lib.indexB_cases s sep with h1 | ⟨i, h1, h2⟩
    · rw [Lib.splitB_miss _ _ _ _ h1, List.mem_singleton] at h
      rw [h]; exact Nat.le_refl _
    · rw [Lib.splitB_hit _ _ _ _ _ h1, List.mem_cons] at h
      rcases h with rfl | h
      · rw [ByteArray.size_extract]; omega
      · have := splitT_pieces sep k _ x h
        rw [ByteArray.size_extract] at this
        omega
theorem split_any (s : ByteArray) (B : Nat) (z : Value) (m : Int) (w : World) (hE : CEnv w B z m) (hs : s.size ≤ 100000) :
    Calls Tryd.prog 45 #[.string s, .string ⟨#[32]⟩] w fun e w' => e = .returned (.slice (some ⟨w.heap.size, 0, none⟩) (splitT s).length (splitT s).length) ∧
      Rds w' w'.heap.size 1 (some ⟨w.heap.size, 0, none⟩) (splitT s).length (strCells (splitT s)) ∧ Below w.heap.size w w' := by
  have hl := Lib.splitB_all ⟨#[32]⟩ (by decide) 0 _ s rfl
  have hle := Lib.countB_le ⟨#[32]⟩ (by decide) _ s (Nat.le_refl _)
  refine (Tryd.strings_Split s ⟨#[32]⟩ m w (by omega) hE.hM (by decide)).mono ?_
  rintro e w' ⟨rfl, rfl⟩
  have hl2 : (splitT s).length = Lib.countB s ⟨#[32]⟩ + 1 := hl
  refine ⟨by rw [hl2], ⟨by rw [strCells_length]; omega, by omega, fun _ => ⟨_, _, rfl, by simp, fun j u hu => ?_⟩⟩, (Below.refl _ _).alloc (Nat.le_refl _) _⟩
  rw [Nat.zero_add, cell_new, List.getElem?_toArray]
  exact hu

/-- the set of names, one after another: none where one is no name, or comes twice -/
def foldS (l : List ByteArray) : List ByteArray → Nat → Option Nat
  | [], set => some set
  | t :: r, set => match numB l t with
    | none => none
    | some c => if set.testBit c then none else foldS l r (set ||| 2 ^ c)
/-- the rest of a text inside brackets -/
def restB (s : ByteArray) : ByteArray := ⟨(Lib.trimPrefix (insideB s).1.data.toList [94]).toArray⟩
def notS (s : ByteArray) : Bool := Lib.hasPrefix (insideB s).1.data.toList [94]
def setS (l : List ByteArray) (s : ByteArray) : Option Nat := if restB s = ⟨#[]⟩ then some 0 else foldS l (splitT (restB s)) 0
/-- what a text says -/
def parseB (s : ByteArray) (l : List ByteArray) : Int × Int :=
  if s = ⟨#[46]⟩ then (((2 ^ l.length - 1 : Nat) : Int), 0)
  else match numB l s with
    | some c => (((2 ^ c : Nat) : Int), 0)
    | none => if (insideB s).2 = true then
        match setS l s with
        | none => (0, 70)
        | some k => (if notS s = true then notB (k : Int) l.length else (k : Int), 0)
      else (0, 70)
theorem parse_dot (s : ByteArray) (l : List ByteArray) (h : s = ⟨#[46]⟩) : parseB s l = (((2 ^ l.length - 1 : Nat) : Int), 0) := by unfold parseB; rw [if_pos h]
theorem parse_name (s : ByteArray) (l : List ByteArray) (c : Nat) (h : ¬ s = ⟨#[46]⟩) (hn : numB l s = some c) : parseB s l = (((2 ^ c : Nat) : Int), 0) := by unfold parseB; rw [if_neg h, hn]
theorem parse_out (s : ByteArray) (l : List ByteArray) (h : ¬ s = ⟨#[46]⟩) (hn : numB l s = none) (hi : (insideB s).2 = false) : parseB s l = (0, 70) := by
  unfold parseB; rw [if_neg h, hn]; simp only; rw [hi]; rfl
theorem parse_none (s : ByteArray) (l : List ByteArray) (h : ¬ s = ⟨#[46]⟩) (hn : numB l s = none) (hi : (insideB s).2 = true) (hs : setS l s = none) : parseB s l = (0, 70) := by
  unfold parseB; rw [if_neg h, hn]; simp only; rw [if_pos hi, hs]
theorem parse_set (s : ByteArray) (l : List ByteArray) (k : Nat) (h : ¬ s = ⟨#[46]⟩) (hn : numB l s = none) (hi : (insideB s).2 = true) (hs : setS l s = some k) : parseB s l = (if notS s = true then notB (k : Int) l.length else (k : Int), 0) := by
  unfold parseB; rw [if_neg h, hn]; simp only; rw [if_pos hi, hs]
theorem fold_lt (l : List ByteArray) : ∀ (ts : List ByteArray) (set k : Nat), set < 2 ^ l.length → foldS l ts set = some k → k < 2 ^ l.length
  | [], set, k, h, e => by
    simp only [foldS, Option.some.injEq] at e
    omega
  | t :: r, set, k, h, e => by
    unfold foldS at e
    cases hn : numB l t with
    | none => rw [hn] at e; cases e
    | some c =>
      rw [hn] at e
      simp only at e
      split at e
      · cases e
      · obtain ⟨hc, _⟩ := num_some hn
        exact fold_lt l r _ k (Nat.or_lt_two_pow h (Nat.pow_lt_pow_right (by omega) hc)) e
theorem fold_bad {l ts : List ByteArray} {j k : Nat} (h : j < ts.length) (hn : numB l ts[j] = none) : foldS l (ts.drop j) k = none := by
  rw [drop_cons h, foldS, hn]
theorem fold_hit {l ts : List ByteArray} {j k c : Nat} (h : j < ts.length) (hn : numB l ts[j] = some c) (hb : k.testBit c = true) : foldS l (ts.drop j) k = none := by
  rw [drop_cons h, foldS, hn]
  simp only
  rw [if_pos hb]
theorem fold_go {l ts : List ByteArray} {j k c : Nat} (h : j < ts.length) (hn : numB l ts[j] = some c) (hb : k.testBit c = false) : foldS l (ts.drop j) k = foldS l (ts.drop (j + 1)) (k ||| 2 ^ c) := by
  rw [drop_cons h, foldS, hn]
  simp only
  rw [if_neg (by rw [hb]; decide)]
theorem inside_size (s : ByteArray) : (insideB s).1.size ≤ s.size := by
  unfold insideB
  rw [size_mk]
  have h1 := trimS_len (Lib.trimPrefix s.data.toList [91]) [93]
  have h2 := trimP_len s.data.toList [91]
  have h : s.data.toList.length = s.size := rfl
  omega
theorem rest_size (s : ByteArray) : (restB s).size ≤ s.size := by
  unfold restB
  rw [size_mk]
  have h1 := trimP_len (insideB s).1.data.toList [94]
  have h2 := inside_size s
  have h : (insideB s).1.data.toList.length = (insideB s).1.size := rfl
  omega
end Go.Proofs.YtigkphjgidbppaaDoor
