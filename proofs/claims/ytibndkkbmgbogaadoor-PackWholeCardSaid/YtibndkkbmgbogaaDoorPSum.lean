/- Bytes' sums: the program's pack.Sum, the reference's Sum; the law's cut. Conditions: the text is no longer than a text can be. -/
import Derived.Test.YtibndkkbmgbogaaDoorProg
import Derived.Test.YtibndkkbmgbogaaDoorBase
import Derived.Test.YtibndkkbmgbogaaDoorClone
import Derived.Laws.IdiomStrings
import Derived.BigQuiet
import Derived.Deep.QuietTactic
import Derived.Outline
namespace Go.Proofs.YtibndkkbmgbogaaDoor
open Go Go.RowKit

/-- bytes together -/
def sumB (l : List UInt8) : Nat := (l.map UInt8.toNat).sum
theorem sumB_nil : sumB [] = 0 := rfl
theorem sumB_app (l m : List UInt8) : sumB (l ++ m) = sumB l + sumB m := by simp [sumB]
theorem sumB_snoc (l : List UInt8) (b : UInt8) : sumB (l ++ [b]) = sumB l + b.toNat := by simp [sumB]
theorem sumB_le (l : List UInt8) : sumB l ≤ 255 * l.length := by
  induction l with
  | nil => simp [sumB]
  | cons b l ih =>
    have e : sumB (b :: l) = b.toNat + sumB l := by simp [sumB]
    rw [e, List.length_cons]
    have := b.toNat_lt
    omega
theorem sumB_take (s : ByteArray) (k : Nat) (h : k < s.size) : sumB (s.data.toList.take (k + 1)) = sumB (s.data.toList.take k) + s.data[k].toNat := by
  rw [List.take_succ_eq_append_getElem (by simpa using h), sumB_snoc]
  rfl
theorem sumB_all (s : ByteArray) : sumB (s.data.toList.take s.size) = sumB s.data.toList := by
  rw [List.take_of_length_le (by simp)]

def Freed (w : World) (v : Value) (e : Ending) (w' : World) : Prop := e = .returned v ∧ Below w.heap.size w w'

/-- what []byte of a text has laid -/
theorem bytes_laid {w : World} (s : ByteArray) (cap t : Nat) (fr : Nat × Nat) (j : Nat) (hj : j < s.size) : ((w.alloc (.cells (bytesRow s cap) t fr)).drew).cell? ⟨w.heap.size, j, none⟩ = some (.int .u8 (s.data[j].toNat : Int)) := by
  have h : ((w.alloc (.cells (bytesRow s cap) t fr)).drew).heap[w.heap.size]? = some (.cells (bytesRow s cap) t fr) := heap_alloc_new w _
  rw [cell_of_row _ _ j _ _ fr h]
  exact bytesRow_at s cap j hj

set_option maxHeartbeats 800000 in
theorem sum_any (s : ByteArray) (w : World) (hs : s.size ≤ 1000000) : Calls Tryd.prog 36 #[.string s] w (Freed w (.int .i64 ((sumB s.data.toList % 65536 : Nat) : Int))) := by
  have hconv := fun W : World => run_bytes_of_string (P := Tryd.prog) W 9 45 5 s Tryd.underlying9 Tryd.underlying45 Tryd.underlying5
  go_enter Tryd.func36, Tryd.ntmps36
  go_wp2_with fail
  clear hconv
  generalize grownCap w s.size 0 5 = cap at *
  have hcell := fun j hj => bytes_laid (w := w) s cap 5 ((bytesRow s cap).size, (bytesRow s cap).size + 1) j hj
  have hb1 : Below w.heap.size w ((w.alloc (.cells (bytesRow s cap) 5 ((bytesRow s cap).size, (bytesRow s cap).size + 1))).drew) := ((Below.refl _ _).alloc (Nat.le_refl _) _).drew
  generalize (w.alloc (.cells (bytesRow s cap) 5 ((bytesRow s cap).size, (bytesRow s cap).size + 1))).drew = W1 at *
  have HC := hide hcell
  clear hcell
  go_loopw [3, 9] (fun n i wr => ∃ k : Nat, k ≤ s.size ∧ i = .int .i64 k ∧ n = .int .i64 ((sumB (s.data.toList.take k) : Nat) : Int) ∧ wr = W1) (fun _ i _ => s.size - (intOf i).toNat)
  case atStart => exact ⟨0, Nat.zero_le _, rfl, rfl, rfl⟩
  case round =>
    obtain ⟨k, hk, rfl, rfl, rfl⟩ := hrel
    have hle := sumB_le (s.data.toList.take k)
    have hl : (s.data.toList.take k).length ≤ k := List.length_take_le _ _
    by_cases hlt : k < s.size
    · have c0 := HC.out k hlt
      have HT := hide (sumB_take s k hlt)
      have hbt := (s.data[k]'hlt).toNat_lt
      generalize (s.data[k]'hlt).toNat = c at *
      generalize sumB (s.data.toList.take k) = m at *
      go_wp2
      go_roundw
      case rel => exact ⟨k + 1, by omega, by go_num, by rw [HT.out]; go_num, by first | rfl | trivial⟩
      case measure => simp [intOf]; omega
    · obtain rfl : k = s.size := by omega
      have HA := hide (sumB_all s)
      generalize sumB (s.data.toList.take s.size) = m at *
      go_wp2
      go_ret
      exact ⟨by rw [← HA.out]; exact ret_i64 (by omega), hb1⟩

set_option maxHeartbeats 800000 in
theorem refSum_any (s : ByteArray) (w : World) (hs : s.size ≤ 1000000) : Calls Tryd.prog 32 #[.string s] w fun e w' => e = .returned (.int .i64 ((sumB s.data.toList % 65536 : Nat) : Int)) ∧ w = w' := by
  go_enter Tryd.func32, Tryd.ntmps32
  go_wp2_with fail
  go_loop [3, 4] (fun n i => ∃ (k m : Nat), k ≤ s.size ∧ i = .int .i64 k ∧ n = .int .i64 (m : Int) ∧ m = sumB (s.data.toList.take k) % 65536) (fun _ i => s.size - (intOf i).toNat)
  case atStart => exact ⟨0, 0, Nat.zero_le _, rfl, rfl, rfl⟩
  case round =>
    obtain ⟨k, m, hk, rfl, rfl, hm⟩ := hrel
    have hm2 : m < 65536 := by rw [hm]; exact Nat.mod_lt _ (by omega)
    have HM := hide hm
    clear hm
    by_cases hlt : k < s.size
    · have HT := hide (sumB_take s k hlt)
      have hbt := (s.data[k]'hlt).toNat_lt
      have hge : (s[k]'hlt) = s.data[k]'hlt := rfl
      go_wp2
      go_round
      case rel => exact ⟨k + 1, (m + (s.data[k]'hlt).toNat) % 65536, by omega, by go_num, by go_num, by rw [HT.out, HM.out]; omega⟩
      case measure => simp [intOf]; omega
    · obtain rfl : k = s.size := by omega
      have HA := hide (sumB_all s)
      go_wp2
      go_ret
      exact ⟨ret_i64 (by rw [HM.out, HA.out]; omega), by first | rfl | trivial⟩

set_option maxHeartbeats 400000 in
theorem cut_any (s : ByteArray) (w : World) (hs : s.size ≤ 9223372036854775807) : Calls Tryd.prog 31 #[.string s] w fun e w' => e = .returned (.string (s.extract 0 (min s.size 600))) ∧ w = w' := by
  go_enter Tryd.func31, Tryd.ntmps31
  by_cases h : s.size ≤ 600
  · go_wp2
    go_ret
    exact ⟨by rw [show min s.size 600 = s.size by omega, ByteArray.extract_zero_size]; rfl, rfl⟩
  · go_wp2
    go_ret
    exact ⟨by rw [show min s.size 600 = 600 by omega]; rfl, rfl⟩
end Go.Proofs.YtibndkkbmgbogaaDoor

/- Plain facts of runs. No program in sight; conditions: none. -/
namespace Go.Proofs.YtibndkkbmgbogaaDoor
open Go Go.RowKit

/-- one number ahead of runs -/
def consRun (x : Int) : List (Int × Int) → List (Int × Int)
  | [] => [(1, x)]
  | (n, y) :: t => if y = x then (n + 1, y) :: t else (1, x) :: (n, y) :: t
/-- numbers' runs -/
def runsOf : List Int → List (Int × Int)
  | [] => []
  | x :: l => consRun x (runsOf l)
/-- one number behind runs -/
def snocRun (r : List (Int × Int)) (x : Int) : List (Int × Int) :=
  match r.getLast? with
  | some (n, y) => if y = x then r.dropLast ++ [(n + 1, y)] else r ++ [(1, x)]
  | none => [(1, x)]
theorem runsOf_head {l : List Int} {n x : Int} {t : List (Int × Int)} (h : runsOf l = (n, x) :: t) : l.head? = some x := by
  cases l with
  | nil => cases h
  | cons y l =>
    simp only [runsOf] at h
    simp only [List.head?_cons, Option.some.injEq]
    cases hr : runsOf l with
    | nil => rw [hr] at h; simp [consRun] at h; exact h.1.2
    | cons p q =>
      obtain ⟨m, z⟩ := p
      rw [hr] at h
      simp only [consRun] at h
      by_cases hz : z = y
      · rw [if_pos hz] at h; simp at h; rw [← hz]; exact h.1.2
      · rw [if_neg hz] at h; simp at h; exact h.1.2
/-- a run, and what stands behind it -/
theorem runsOf_run (x : Int) (m : List Int) (hm : m.head? ≠ some x) : ∀ k : Nat, runsOf (List.replicate (k + 1) x ++ m) = ((k : Int) + 1, x) :: runsOf m
  | 0 => by
    show consRun x (runsOf m) = _
    cases hr : runsOf m with
    | nil => simp [consRun]
    | cons p t =>
      obtain ⟨n, y⟩ := p
      have := runsOf_head hr
      have hy : ¬ y = x := fun e => hm (by rw [this, e])
      simp [consRun, hy]
  | k + 1 => by
    rw [List.replicate_succ, List.cons_append]
    simp only [runsOf]
    rw [runsOf_run x m hm k]
    simp [consRun]
theorem runsOf_pos (l : List Int) : ∀ p ∈ runsOf l, 1 ≤ p.1 := by
  induction l with
  | nil => intro p h; cases h
  | cons x l ih =>
    intro p hp
    simp only [runsOf] at hp
    cases hr : runsOf l with
    | nil => rw [hr] at hp; simp [consRun] at hp; rw [hp]; omega
    | cons q t =>
      obtain ⟨n, y⟩ := q
      rw [hr] at hp ih
      simp only [consRun] at hp
      by_cases h : y = x
      · rw [if_pos h] at hp
        rcases List.mem_cons.1 hp with rfl | hp
        · have := ih (n, y) (by simp); simp at this ⊢; omega
        · exact ih p (by simp [hp])
      · rw [if_neg h] at hp
        rcases List.mem_cons.1 hp with rfl | hp
        · simp
        · exact ih p hp
/-- the numbers of runs -/
def unruns (r : List (Int × Int)) : List Int := r.flatMap fun p => List.replicate p.1.toNat p.2
theorem unruns_cons (p : Int × Int) (r : List (Int × Int)) : unruns (p :: r) = List.replicate p.1.toNat p.2 ++ unruns r := rfl
theorem unruns_runsOf (l : List Int) : unruns (runsOf l) = l := by
  induction l with
  | nil => rfl
  | cons x l ih =>
    simp only [runsOf]
    cases hr : runsOf l with
    | nil =>
      rw [hr] at ih
      simp only [consRun]
      rw [unruns_cons, ih]
      rfl
    | cons q t =>
      obtain ⟨n, y⟩ := q
      have hp := runsOf_pos l (n, y) (by rw [hr]; simp)
      simp at hp
      rw [hr] at ih
      rw [unruns_cons] at ih
      simp only [consRun]
      by_cases h : y = x
      · rw [if_pos h, unruns_cons]
        simp only
        simp only at ih
        rw [show (n + 1).toNat = n.toNat + 1 by omega, List.replicate_succ, List.cons_append, ih, h]
      · rw [if_neg h, unruns_cons]
        simp only
        rw [unruns_cons, ih]
        rfl
theorem runsOf_len (l : List Int) : (runsOf l).length ≤ l.length := by
  induction l with
  | nil => simp [runsOf]
  | cons x l ih =>
    simp only [runsOf]
    cases hr : runsOf l with
    | nil => simp [consRun]
    | cons q t =>
      obtain ⟨n, y⟩ := q
      rw [hr] at ih
      simp only [consRun]
      split <;> simp at ih ⊢ <;> omega
/-- neighbours are of two numbers -/
def Alt (r : List (Int × Int)) : Prop := ∀ i p q, r[i]? = some p → r[i + 1]? = some q → p.2 ≠ q.2
theorem Alt.tail {p : Int × Int} {r : List (Int × Int)} (h : Alt (p :: r)) : Alt r := fun i a b ha hb => h (i + 1) a b (by simpa using ha) (by simpa using hb)
theorem Alt.cons {p : Int × Int} {r : List (Int × Int)} (h : Alt r) (hp : ∀ q, r.head? = some q → p.2 ≠ q.2) : Alt (p :: r) := fun i a b ha hb => by
  cases i with
  | zero =>
    simp at ha hb
    subst ha
    exact hp b (by rw [List.head?_eq_getElem?]; exact hb)
  | succ i => exact h i a b (by simpa using ha) (by simpa using hb)
theorem runsOf_alt (l : List Int) : Alt (runsOf l) := by
  induction l with
  | nil => intro i p q h; simp [runsOf] at h
  | cons x l ih =>
    simp only [runsOf]
    cases hr : runsOf l with
    | nil => simp only [consRun]; intro i p q h1 h2; simp at h2
    | cons q t =>
      obtain ⟨n, y⟩ := q
      rw [hr] at ih
      simp only [consRun]
      by_cases h : y = x
      · rw [if_pos h]
        refine Alt.cons ih.tail fun q hq => ?_
        have := ih 0 (n, y) q (by simp) (by rw [List.head?_eq_getElem?] at hq; simpa using hq)
        simpa using this
      · rw [if_neg h]
        exact Alt.cons ih fun q hq => by simp at hq; subst hq; exact fun e => h e.symm
/-- runs without equal neighbours, of one or more numbers each, are those of their numbers -/
theorem runsOf_unruns (r : List (Int × Int)) (hp : ∀ p ∈ r, 1 ≤ p.1) (ha : Alt r) : runsOf (unruns r) = r := by
  induction r with
  | nil => rfl
  | cons p r ih =>
    obtain ⟨n, x⟩ := p
    have hn := hp (n, x) (by simp)
    simp only at hn
    have ih' := ih (fun q hq => hp q (by simp [hq])) ha.tail
    rw [unruns_cons]
    simp only
    obtain ⟨k, hk⟩ : ∃ k : Nat, n = (k : Int) + 1 := ⟨(n - 1).toNat, by omega⟩
    rw [hk, show ((k : Int) + 1).toNat = k + 1 by omega, runsOf_run, ih']
    cases r with
    | nil => simp [unruns]
    | cons q t =>
      obtain ⟨m, y⟩ := q
      have hm := hp (m, y) (by simp)
      simp only at hm
      rw [unruns_cons]
      simp only
      rw [show m.toNat = (m.toNat - 1) + 1 by omega, List.replicate_succ]
      simp only [List.cons_append, List.head?_cons, ne_eq, Option.some.injEq]
      have := ha 0 (n, x) (m, y) (by simp) (by simp)
      exact fun e => this e.symm
/-- one number more -/
theorem runsOf_snoc (l : List Int) (x : Int) : runsOf (l ++ [x]) = snocRun (runsOf l) x := by
  induction l with
  | nil => rfl
  | cons y l ih =>
    rw [List.cons_append]
    simp only [runsOf]
    rw [ih]
    cases hr : runsOf l with
    | nil =>
      simp only [snocRun, consRun, List.getLast?_nil, List.getLast?_singleton]
      by_cases h : x = y
      · simp [h]
      · simp [h]
        exact fun e => h e.symm
    | cons q t =>
      obtain ⟨n, z⟩ := q
      cases t with
      | nil =>
        simp only [snocRun, consRun, List.getLast?_singleton]
        by_cases h : z = x
        · by_cases h2 : z = y
          · subst h
            subst h2
            simp
          · subst h
            simp [h2]
        · by_cases h2 : z = y
          · subst h2
            simp [h]
          · simp [h, h2]
      | cons p t =>
        have hg : ((n, z) :: p :: t).getLast? = (p :: t).getLast? := by simp [List.getLast?_cons_cons]
        simp only [snocRun, hg]
        have hg2 : ∀ (a : Int × Int), (a :: p :: t).getLast? = (p :: t).getLast? := fun a => by simp [List.getLast?_cons_cons]
        cases hl : (p :: t).getLast? with
        | none => simp at hl
        | some a =>
          obtain ⟨m, u⟩ := a
          simp only
          by_cases h2 : z = y
          · have e1 : consRun y ((n, z) :: p :: t) = (n + 1, z) :: p :: t := by simp [consRun, h2]
            rw [e1, hg2, hl]
            simp only
            by_cases h : u = x
            · simp [h, consRun, h2, List.dropLast_cons_cons]
            · simp [h, consRun, h2]
          · have e1 : consRun y ((n, z) :: p :: t) = (1, y) :: (n, z) :: p :: t := by simp [consRun, h2]
            rw [e1, List.getLast?_cons_cons, hg2, hl]
            simp only
            by_cases h : u = x
            · simp [h, consRun, h2, List.dropLast_cons_cons]
            · simp [h, consRun, h2]
end Go.Proofs.YtibndkkbmgbogaaDoor
