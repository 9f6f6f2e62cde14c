/- Plain facts: what is packed is loaded as it was, and what is loaded is packed as it was. No program in sight; conditions: stated. -/
import Derived.Test.YtibndkkbmgbogaaDoorPShownL
namespace Go.Proofs.YtibndkkbmgbogaaDoor
open Go Go.RowKit

/-- what a taker reads, and how it is written -/
structure TakeLaw (take : RS → Nat × RS) (tb : Nat → List UInt8) (lim : Nat) : Prop where
  fwd : ∀ n l b, n < lim → take (tb n ++ l, b) = (n, (l, b))
  back : ∀ s, (take s).2.2 = false → s.2 = false ∧ s.1 = tb (take s).1 ++ (take s).2.1
def oneB (n : Nat) : List UInt8 := [UInt8.ofNat n]
theorem takeOne : TakeLaw rOne oneB 256 := by
  refine ⟨fun n l b hn => ?_, fun s h => ?_⟩
  · simp only [oneB, List.singleton_append, rOne]
    rw [UInt8.toNat_ofNat_of_lt' (by simpa using hn)]
  · obtain ⟨l, b⟩ := s
    cases l with
    | nil => simp [rOne] at h
    | cons x l =>
      simp only [rOne] at h
      subst h
      refine ⟨rfl, ?_⟩
      simp [rOne, oneB]
theorem takeTwo : TakeLaw rTwo twoB 65536 := by
  refine ⟨fun n l b hn => ?_, fun s h => ?_⟩
  · have e : (twoB n ++ l, b) = ((oneB (n / 256) ++ (oneB (n % 256) ++ l), b) : RS) := rfl
    have h1 := takeOne.fwd (n / 256) (oneB (n % 256) ++ l) b (by omega)
    have h2 := takeOne.fwd (n % 256) l b (by omega)
    unfold rTwo
    rw [e, h1]
    simp only [h2]
    congr 1
    omega
  · have h' : (rOne (rOne s).2).2.2 = false := h
    obtain ⟨a1, a2⟩ := takeOne.back _ h'
    obtain ⟨b1, b2⟩ := takeOne.back s a1
    refine ⟨b1, ?_⟩
    have l1 := rOne_lt s
    have l2 := rOne_lt (rOne s).2
    rw [b2, a2]
    unfold rTwo twoB
    simp only [oneB]
    rw [show ((rOne s).1 * 256 + (rOne (rOne s).2).1) / 256 = (rOne s).1 by omega, show ((rOne s).1 * 256 + (rOne (rOne s).2).1) % 256 = (rOne (rOne s).2).1 by omega]
    rfl

def enc (tb : Nat → List UInt8) (r : List (Int × Int)) : List UInt8 := r.flatMap fun p => tb (p.1 - 1).toNat ++ tb p.2.toNat
theorem enc_one (r : List (Int × Int)) : enc oneB r = blkB r := rfl
theorem enc_two (r : List (Int × Int)) : enc twoB r = idxB r := rfl
section
variable {take : RS → Nat × RS} {tb : Nat → List UInt8} {lim : Nat}
theorem fill_fwd (H : TakeLaw take tb lim) (n : Nat) : ∀ (q : List (Int × Int)) (f : Nat) (out : List Int) (last : Nat × Int) (rest : List UInt8),
    (∀ p ∈ q, 1 ≤ p.1 ∧ p.1 ≤ lim ∧ 0 ≤ p.2 ∧ p.2 < lim) → Alt q → (∀ p, q.head? = some p → 0 < last.1 → last.2 ≠ p.2) → out.length + (unruns q).length = n → q.length < f →
    rFill take n f out last (enc tb q ++ rest, false) = (out ++ unruns q, (rest, false)) := by
  intro q
  induction q with
  | nil =>
    intro f out last rest _ _ _ hn hf
    obtain ⟨f, rfl⟩ : ∃ g, f = g + 1 := ⟨f - 1, by simp at hf; omega⟩
    have h0 : out.length = n := by simpa [unruns] using hn
    rw [rFill, if_neg (by omega)]
    simp [enc, unruns]
  | cons p q ih =>
    intro f out last rest hp ha hh hn hf
    obtain ⟨f, rfl⟩ : ∃ g, f = g + 1 := ⟨f - 1, by simp at hf; omega⟩
    obtain ⟨k, x⟩ := p
    obtain ⟨p1, p2, p3, p4⟩ := hp (k, x) (by simp)
    simp only at p1 p2 p3 p4
    have hx : ((x.toNat : Nat) : Int) = x := by omega
    have hl : out.length + (k.toNat + (unruns q).length) = n := by
      rw [← hn, unruns_cons]
      simp
    have e : (enc tb ((k, x) :: q) ++ rest, false) = ((tb (k - 1).toNat ++ (tb x.toNat ++ (enc tb q ++ rest)), false) : RS) := by
      unfold enc
      simp only [List.flatMap_cons, List.append_assoc]
    have t1 := H.fwd (k - 1).toNat (tb x.toNat ++ (enc tb q ++ rest)) false (by omega)
    have t2 := H.fwd x.toNat (enc tb q ++ rest) false (by omega)
    rw [e, rFill, if_pos ⟨by omega, rfl⟩, t1]
    simp only [t2]
    rw [if_neg, show (k - 1).toNat + 1 = k.toNat by omega, hx, ih f _ _ rest (fun p h => hp p (by simp [h])) ha.tail ?_ ?_ (by simp at hf; omega)]
    · rw [unruns_cons, List.append_assoc]
    · intro p hq _
      have := ha 0 (k, x) p (by simp) (by rw [List.getElem?_cons_succ, ← List.head?_eq_getElem?]; exact hq)
      exact this
    · rw [List.length_append, List.length_replicate]
      omega
    · rintro (h | h)
      · omega
      · exact hh (k, x) rfl h.2 (by rw [h.1, hx])
theorem fill_bad (H : TakeLaw take tb lim) (n : Nat) : ∀ (f : Nat) (out : List Int) (last : Nat × Int) (s : RS), (rFill take n f out last s).2.2 = false → s.2 = false := by
  intro f
  induction f with
  | zero => intro out last s h; exact h
  | succ f ih =>
    intro out last s h
    rw [rFill] at h
    split at h
    · rename_i h1
      exact h1.2
    · exact h
theorem fill_back (H : TakeLaw take tb lim) (hl : ∀ s, (take s).1 < lim) (n : Nat) : ∀ (f : Nat) (out : List Int) (last : Nat × Int) (s : RS), (rFill take n f out last s).2.2 = false →
    ∃ q, (rFill take n f out last s).1 = out ++ unruns q ∧ s.1 = enc tb q ++ (rFill take n f out last s).2.1 ∧ Alt q ∧ (∀ p, q.head? = some p → 0 < last.1 → last.2 ≠ p.2) ∧ ∀ p ∈ q, 1 ≤ p.1 := by
  intro f
  induction f with
  | zero =>
    intro out last s _
    exact ⟨[], by simp [rFill, unruns], by simp [rFill, enc], fun i p q h => by simp at h, fun p h => by simp at h, fun p h => by simp at h⟩
  | succ f ih =>
    intro out last s h
    rw [rFill] at h ⊢
    split at h
    · rename_i h1
      rw [if_pos h1]
      split at h
      · simp at h
      · rename_i h2
        rw [if_neg h2]
        obtain ⟨q, i1, i2, i3, i4, i5⟩ := ih _ _ _ h
        have g1 := fill_bad H n _ _ _ _ h
        obtain ⟨b1, b2⟩ := H.back _ g1
        obtain ⟨c1, c2⟩ := H.back _ b1
        refine ⟨((((take s).1 + 1 : Nat) : Int), ((take (take s).2).1 : Int)) :: q, ?_, ?_, ?_, ?_, ?_⟩
        · rw [i1, unruns_cons, List.append_assoc]
          rfl
        · rw [c2, b2, i2]
          unfold enc
          simp only [List.flatMap_cons, List.append_assoc]
          rw [show ((((take s).1 + 1 : Nat) : Int) - 1).toNat = (take s).1 by omega, Int.toNat_natCast]
        · exact Alt.cons i3 (fun p hp => i4 p hp (by simp))
        · intro p hp h0
          simp only [List.head?_cons, Option.some.injEq] at hp
          subst hp
          intro e
          exact h2 (Or.inr ⟨e, h0⟩)
        · intro p hp
          rcases List.mem_cons.1 hp with rfl | hp
          · simp
            omega
          · exact i5 p hp
    · rename_i h1
      rw [if_neg h1]
      exact ⟨[], by simp [unruns], by simp [enc], fun i p q h => by simp at h, fun p h => by simp at h, fun p h => by simp at h⟩
/-- numbers written, and read -/
theorem fill_runs (H : TakeLaw take tb lim) (l : List Int) (n : Nat) (rest : List UInt8) (hn : l.length = n) (hp : ∀ p ∈ runsOf l, 1 ≤ p.1 ∧ p.1 ≤ lim ∧ 0 ≤ p.2 ∧ p.2 < lim) :
    rFill take n (n + 1) [] (0, 0) (enc tb (runsOf l) ++ rest, false) = (l, (rest, false)) := by
  have h := fill_fwd H n (runsOf l) (n + 1) [] (0, 0) rest hp (runsOf_alt l) (fun p _ h0 => by simp at h0) (by rw [unruns_runsOf]; simpa using hn) (by have := runsOf_len l; omega)
  rw [unruns_runsOf, List.nil_append] at h
  exact h
/-- numbers read, and written -/
theorem fill_read (H : TakeLaw take tb lim) (hl : ∀ s, (take s).1 < lim) (n : Nat) (s : RS) (h : (rFill take n (n + 1) [] (0, 0) s).2.2 = false) :
    s.1 = enc tb (runsOf (rFill take n (n + 1) [] (0, 0) s).1) ++ (rFill take n (n + 1) [] (0, 0) s).2.1 := by
  obtain ⟨q, h1, h2, h3, _, h5⟩ := fill_back H hl n _ _ _ _ h
  rw [h1, List.nil_append, runsOf_unruns q h5 h3]
  exact h2
end

theorem blocks_fwd : ∀ (l bl : List (List Int)) (rest : List UInt8), (∀ b ∈ l, blockB b = true) → rBlocks l.length bl (blksB l ++ rest, false) = (some (bl ++ l), (rest, false)) := by
  intro l
  induction l with
  | nil => intro bl rest _; simp [rBlocks, blksB]
  | cons b l ih =>
    intro bl rest h
    have hb := h b (by simp)
    have e : blksB (b :: l) ++ rest = enc oneB (runsOf b) ++ (blksB l ++ rest) := by simp [blksB, enc_one]
    have h1 := fill_runs takeOne b 256 (blksB l ++ rest) (blockB_len hb) (fun p hp => by have := block_runs hb p hp; omega)
    rw [e, List.length_cons, rBlocks, if_neg (by simp), h1]
    simp only
    rw [ih _ rest (fun b hb => h b (by simp [hb])), List.append_assoc]
    rfl
theorem blocks_back : ∀ (k : Nat) (bl : List (List Int)) (s : RS) (bl' : List (List Int)), (rBlocks k bl s).1 = some bl' → (rBlocks k bl s).2.2 = false →
    ∃ l, bl' = bl ++ l ∧ l.length = k ∧ s.1 = blksB l ++ (rBlocks k bl s).2.1 ∧ s.2 = false := by
  intro k
  induction k with
  | zero =>
    intro bl s bl' h h2
    simp only [rBlocks, Option.some.injEq] at h
    subst h
    exact ⟨[], by simp, rfl, by simp [rBlocks, blksB], h2⟩
  | succ k ih =>
    intro bl s bl' h h2
    rw [rBlocks] at h h2 ⊢
    split at h
    · cases h
    · rename_i h3
      rw [if_neg h3] at h2 ⊢
      obtain ⟨l, e1, e2, e3, e4⟩ := ih _ _ _ h h2
      have := fill_read takeOne rOne_lt 256 s e4
      refine ⟨_ :: l, by rw [e1, List.append_assoc]; rfl, by simp [e2], ?_, by simpa using h3⟩
      rw [this, e3]
      simp only [blksB, List.flatMap_cons, List.append_assoc, enc_one]

theorem load_fwd (T : Tr) (hT : T.rightB = true) (hb : T.bl.length ≤ 300) : rLoad (twoB T.bl.length ++ blksB T.bl ++ idxB (runsOf T.ix), false) = some T := by
  have h1 := takeTwo.fwd T.bl.length (blksB T.bl ++ (enc twoB (runsOf T.ix) ++ [])) false (by omega)
  have h2 := blocks_fwd T.bl [] (enc twoB (runsOf T.ix) ++ []) (fun b hb' => by
    obtain ⟨i, hi, rfl⟩ := List.getElem_of_mem hb'
    exact right_block hT hi)
  have h3 := fill_runs takeTwo T.ix 4352 [] (right_ix hT) (fun p hp => by have := index_runs hT hb p hp; omega)
  have e : twoB T.bl.length ++ blksB T.bl ++ idxB (runsOf T.ix) = twoB T.bl.length ++ (blksB T.bl ++ (enc twoB (runsOf T.ix) ++ [])) := by
    rw [enc_two, List.append_nil, List.append_assoc]
  unfold rLoad
  rw [e, h1]
  simp only [h2, List.nil_append]
  rw [if_neg (by omega)]
  have h3' : rFill rTwo 4352 4353 [] (0, 0) (enc twoB (runsOf T.ix) ++ [], false) = (T.ix, ([], false)) := h3
  rw [h3']
  simp [hT]
theorem load_back (l : List UInt8) (T : Tr) (h : rLoad (l, false) = some T) : T.rightB = true ∧ T.bl.length ≤ 300 ∧ l = twoB T.bl.length ++ blksB T.bl ++ idxB (runsOf T.ix) := by
  unfold rLoad at h
  split at h
  · cases h
  · rename_i h0
    have hB := blocks_back (rTwo (l, false)).1 [] (rTwo (l, false)).2
    generalize hr : rBlocks (rTwo (l, false)).1 [] (rTwo (l, false)).2 = r at h hB
    obtain ⟨ob, s1⟩ := r
    cases ob with
    | none => cases h
    | some bl =>
      simp only at h
      have hF := fill_read takeTwo rTwo_lt 4352 s1
      have hG := fill_bad takeTwo 4352 4353 [] (0, 0) s1
      have e4 : (4352 + 1 : Nat) = 4353 := rfl
      rw [e4] at hF
      generalize rFill rTwo 4352 4353 [] (0, 0) s1 = q at h hF hG
      split at h
      · rename_i h1
        obtain ⟨g1, g2, g3⟩ := h1
        have hT := Option.some.inj h
        subst hT
        have f1 := hG g1
        obtain ⟨m, m1, m2, m3, m4⟩ := hB bl rfl f1
        rw [List.nil_append] at m1
        subst m1
        have t1 := (takeTwo.back (l, false) m4).2
        refine ⟨g3, by simp only; omega, ?_⟩
        simp only at t1 ⊢
        rw [t1, m3, hF g1, g2, enc_two, m2, List.append_nil, List.append_assoc]
      · cases h
end Go.Proofs.YtibndkkbmgbogaaDoor
