/- The variables that the package's errors and strings.Split need; strings.Split by a byte, strings.Cut, strings.Trim of blanks, HasPrefix, HasSuffix as the shelf has them, in this seat's words. Conditions: the variables hold what they hold; sizes. -/
import Derived.Lib.SplitLaws
import Derived.Test.YtdmkjchmcgjjmaaDoorShelf
import Derived.Test.YtdmkjchmcgjjmaaDoorTold
import Derived.Test.YtdmkjchmcgjjmaaDoorCode
namespace Go.Proofs.YtdmkjchmcgjjmaaDoor
open Go Go.RowKit

structure FEnv (w : World) (B : Nat) (m : Int) : Prop where
  hT : w.cell? ⟨0, 0, none⟩ = some (.iface 121 (.agg #[.pointer (some ⟨4, 52, none⟩)]))
  hM : w.cell? ⟨1, 0, none⟩ = some (.int .i64 m)
  lt : 0 < B ∧ 1 < B
theorem FEnv.below {w w' : World} {B : Nat} {m : Int} (h : FEnv w B m) (hb : Below B w w') : FEnv w' B m :=
  ⟨(hb.cell (p := ⟨0, 0, none⟩) h.lt.1).trans h.hT, (hb.cell (p := ⟨1, 0, none⟩) h.lt.2).trans h.hM, h.lt⟩
theorem FEnv.more {w : World} {B B' : Nat} {m : Int} (h : FEnv w B m) (hB : B ≤ B') : FEnv w B' m := ⟨h.hT, h.hM, by have := h.lt; omega⟩
/-- nothing that was there is turned -/
theorem below_grown {w w' : World} (hb : Below w.heap.size w w') : w.grownBy w' none := ⟨hb.os, hb.tape, hb.output, hb.size, fun k hk _ => hb.block k hk⟩
theorem own_below {w w' : World} {base e size n : Nat} {v : Value} {xs : List Value} (h : w.ownsRow base e size v n xs) (hb : Below w.heap.size w w') : w'.ownsRow base e size v n xs :=
  h.kept (below_grown hb) (by rcases h' : v.ownBlock with _ | k <;> simp)

theorem info9 : (Tryd.prog.info? 9).map (fun i => (i.zero, i.size, i.bytes)) = some (some (.string ⟨#[]⟩), 1, 16) := by kernel_rfl
theorem info3 : (Tryd.prog.info? 3).map (fun i => (i.zero, i.size, i.bytes)) = some (some (.int .i64 0), 1, 8) := by kernel_rfl
theorem info_parts {P : Program} {t : TypeId} {z : Option Value} {s b : Nat} (h : (P.info? t).map (fun i => (i.zero, i.size, i.bytes)) = some (z, s, b)) : ∃ i, P.info? t = some i ∧ i.zero = z ∧ i.size = s ∧ i.bytes = b := by
  cases hi : P.info? t with
  | none => rw [hi] at h; cases h
  | some i =>
    rw [hi] at h
    simp only [Option.map_some, Option.some.injEq, Prod.mk.injEq] at h
    exact ⟨i, rfl, h.1, h.2.1, h.2.2⟩

theorem list_eq_true {s : ByteArray} {l : List UInt8} (h : s = ⟨l.toArray⟩) : (s.toList == l) = true := by
  rw [h, ByteArray.toList_eq]
  simp
theorem list_eq_false {s : ByteArray} {l : List UInt8} (h : ¬ s = ⟨l.toArray⟩) : (s.toList == l) = false := by
  rw [beq_eq_false_iff_ne, ByteArray.toList_eq]
  intro e
  exact h (by rw [← e])
theorem size_mk (l : List UInt8) : (⟨l.toArray⟩ : ByteArray).size = l.length := by simp [ByteArray.size]
theorem data_inj {s t : ByteArray} (h : s.data.toList = t.data.toList) : s = t := Go.WideShapes.bytes_inj h

theorem one_sz (c : UInt8) : 1 ≤ (⟨#[c]⟩ : ByteArray).size := Nat.le_refl 1
/-- a text's parts between bytes c -/
def splitT (c : UInt8) (s : ByteArray) : List ByteArray := Lib.splitB ⟨#[c]⟩ 0 (Lib.countB s ⟨#[c]⟩) s
theorem splitT_pieces (sep : ByteArray) : ∀ (k : Nat) (s : ByteArray), ∀ x ∈ Lib.splitB sep 0 k s, x.size ≤ s.size
  | 0, s, x, h => by
    rw [Lib.splitB_zero, List.mem_singleton] at h
    rw [h]; exact Nat.le_refl _
  | k + 1, s, x, h => by
    rcases Lib.indexB_cases s sep with h1 | ⟨i, h1, h2⟩
    · rw [Lib.splitB_miss _ _ _ _ h1, List.mem_singleton] at h
      rw [h]; exact Nat.le_refl _
    · rw [Lib.splitB_hit _ _ _ _ _ h1, List.mem_cons] at h
      rcases h with rfl | h
      · rw [ByteArray.size_extract]; omega
      · have := splitT_pieces sep k _ x h
        rw [ByteArray.size_extract] at this
        omega
theorem splitT_size {c : UInt8} {s x : ByteArray} (h : x ∈ splitT c s) : x.size ≤ s.size := splitT_pieces _ _ _ _ h
theorem splitT_len (c : UInt8) (s : ByteArray) : 1 ≤ (splitT c s).length ∧ (splitT c s).length ≤ s.size + 1 := by
  have h1 : (splitT c s).length = Lib.countB s ⟨#[c]⟩ + 1 := Lib.splitB_all ⟨#[c]⟩ (one_sz c) 0 _ s rfl
  have h2 := Lib.countB_le ⟨#[c]⟩ (one_sz c) _ s (Nat.le_refl _)
  omega
theorem split_any (c : UInt8) (s : ByteArray) (B : Nat) (m : Int) (w : World) (hE : FEnv w B m) (hs : s.size ≤ 100000) :
    Calls Tryd.prog 30 #[.string s, .string ⟨#[c]⟩] w fun e w' => e = .returned (.slice (some ⟨w.heap.size, 0, none⟩) (splitT c s).length (splitT c s).length) ∧
      Rds w' w'.heap.size 1 (some ⟨w.heap.size, 0, none⟩) (splitT c s).length (strCells (splitT c s)) ∧ Below w.heap.size w w' ∧ w.heap.size < w'.heap.size := by
  have hl := Lib.splitB_all ⟨#[c]⟩ (one_sz c) 0 _ s rfl
  have hle := Lib.countB_le ⟨#[c]⟩ (one_sz c) _ s (Nat.le_refl _)
  refine (Tryd.strings_Split s ⟨#[c]⟩ m w (by omega) hE.hM (one_sz c)).mono ?_
  rintro e w' ⟨rfl, rfl⟩
  have hl2 : (splitT c s).length = Lib.countB s ⟨#[c]⟩ + 1 := hl
  refine ⟨by rw [hl2], ⟨by rw [strCells_length]; omega, by omega, fun _ => ⟨_, _, rfl, by simp, fun j u hu => ?_⟩⟩, (Below.refl _ _).alloc (Nat.le_refl _) _, by simp⟩
  rw [Nat.zero_add, cell_new, List.getElem?_toArray]
  exact hu

theorem own_more {w : World} {base base' e size n : Nat} {v : Value} {xs : List Value} (h : w.ownsRow base e size v n xs) (hb : base' ≤ base) : w.ownsRow base' e size v n xs :=
  ⟨h.1, h.2.imp id (fun ⟨g, cap, cur, h1, h2, h3⟩ => ⟨g, cap, cur, h1, Nat.le_trans hb h2, h3⟩)⟩

/-- a text without blanks at its ends -/
def trimT (s : ByteArray) : ByteArray := ⟨(Lib.trimS s.data.toList [32, 9, 13]).toArray⟩
theorem dropWhile_len (p : UInt8 → Bool) (l : List UInt8) : (l.dropWhile p).length ≤ l.length := by
  have := (List.dropWhile_suffix p (l := l)).length_le
  exact this
theorem trimT_size (s : ByteArray) : (trimT s).size ≤ s.size := by
  unfold trimT
  rw [size_mk]
  unfold Lib.trimS Lib.trimLeftS Lib.trimRightS
  have h1 := dropWhile_len ([32, 9, 13] : List UInt8).contains (s.data.toList.reverse.dropWhile ([32, 9, 13] : List UInt8).contains).reverse
  have h2 := dropWhile_len ([32, 9, 13] : List UInt8).contains s.data.toList.reverse
  have h : s.data.toList.length = s.size := rfl
  rw [List.length_reverse] at h1 h2
  exact Nat.le_trans h1 (by omega)
theorem trim_any (s : ByteArray) (w : World) (hs : s.size ≤ 9223372036854775807) :
    Calls Tryd.prog 50 #[.string s, .string ⟨#[32, 9, 13]⟩] w (Freed w (.string (trimT s))) :=
  Tryd.strings_Trim s ⟨#[32, 9, 13]⟩ w hs (by decide) (Go.Proofs.ascii_of_all (by decide))

/-- a text, cut at the first place of another -/
def cutH (s sep : ByteArray) : ByteArray := ⟨(Lib.cut s.data.toList sep.data.toList).1.toArray⟩
def cutR (s sep : ByteArray) : ByteArray := ⟨(Lib.cut s.data.toList sep.data.toList).2.1.toArray⟩
def cutIs (s sep : ByteArray) : Bool := (Lib.cut s.data.toList sep.data.toList).2.2
theorem cut_size (s sep : ByteArray) : (cutH s sep).size ≤ s.size ∧ (cutR s sep).size ≤ s.size := by
  have h : s.data.toList.length = s.size := rfl
  unfold cutH cutR
  rw [size_mk, size_mk]
  unfold Lib.cut
  split
  · refine ⟨?_, ?_⟩
    · show (List.take _ _).length ≤ _
      rw [List.length_take]
      exact Nat.min_le_right _ _
    · show (List.drop _ _).length ≤ _
      rw [List.length_drop]
      exact Nat.sub_le _ _
  · exact ⟨Nat.le_of_eq h, Nat.zero_le _⟩
theorem cut_any (s sep : ByteArray) (B : Nat) (m : Int) (w : World) (hE : FEnv w B m) (hs : s.size ≤ 100000) :
    Calls Tryd.prog 49 #[.string s, .string sep] w (fun e w' => e = .returned (.tuple #[.string (cutH s sep), .string (cutR s sep), .bool (cutIs s sep)]) ∧ ∃ q, w' = w.drewN q) :=
  Tryd.strings_Cut s sep m w (by omega) hE.hM
end Go.Proofs.YtdmkjchmcgjjmaaDoor
