/- Plain facts: what is packed is loaded as it was, and what is loaded is packed as it was. No program in sight; conditions: stated. -/
import Derived.Test.YtibndkkbmgbogaaDoorPLoad3
namespace Go.Proofs.YtibndkkbmgbogaaDoor
open Go Go.RowKit

/-- what a taker reads, and how it is written -/
structure TakeLaw (take : RS → Nat × RS) (tb : Nat → List UInt8) (lim : Nat) : Prop where
  fwd : ∀ n l b, n < lim → take (tb n ++ l, b) = (n, (l, b))
  back : ∀ s, (take s).2.2 = false → s.2 = false ∧ s.1 = tb (take s).1 ++ (take s).2.1
def oneB (n : Nat) : List UInt8 := [UInt8.ofNat n]
theorem takeOne : TakeLaw rOne oneB 256 := by
  refine ⟨fun n l b hn => ?_, fun s h => ?_⟩
  · simp only [oneB, List.singleton_append, rOne]
    rw [UInt8.toNat_ofNat_of_lt' (by simpa using hn)]
  · obtain ⟨l, b⟩ := s
    cases l with
    | nil => simp [rOne] at h
    | cons x l =>
      simp only [rOne] at h
      subst h
      refine ⟨rfl, ?_⟩
      simp [rOne, oneB]
theorem takeTwo : TakeLaw rTwo twoB 65536 := by
  refine ⟨fun n l b hn => ?_, fun s h => ?_⟩
  · have e : (twoB n ++ l, b) = ((oneB (n / 256) ++ (oneB (n % 256) ++ l), b) : RS) := rfl
    have h1 := takeOne.fwd (n / 256) (oneB (n % 256) ++ l) b (by omega)
    have h2 := takeOne.fwd (n % 256) l b (by omega)
    unfold rTwo
    rw [e, h1]
    simp only [h2]
    congr 1
    omega
  · have h' : (rOne (rOne s).2).2.2 = false := h
    obtain ⟨a1, a2⟩ := takeOne.back _ h'
    obtain ⟨b1, b2⟩ := takeOne.back s a1
    refine ⟨b1, ?_⟩
    have l1 := rOne_lt s
    have l2 := rOne_lt (rOne s).2
    rw [b2, a2]
    unfold rTwo twoB
    simp only [oneB]
    rw [show ((rOne s).1 * 256 + (rOne (rOne s).2).1) / 256 = (rOne s).1 by omega, show ((rOne s).1 * 256 + (rOne (rOne s).2).1) % 256 = (rOne (rOne s).2).1 by omega]
    rfl

def enc (tb : Nat → List UInt8) (r : List (Int × Int)) : List UInt8 := r.flatMap fun p => tb (p.1 - 1).toNat ++ tb p.2.toNat
theorem enc_one (r : List (Int × Int)) : enc oneB r = blkB r := rfl
theorem enc_two (r : List (Int × Int)) : enc twoB r = idxB r := rfl
section
variable {take : RS → Nat × RS} {tb : Nat → List UInt8} {lim : Nat}
theorem fill_fwd (H : TakeLaw take tb lim) (n : Nat) : ∀ (q : List (Int × Int)) (f : Nat) (out : List Int) (last : Nat × Int) (rest : List UInt8),
    (∀ p ∈ q, 1 ≤ p.1 ∧ p.1 ≤ lim ∧ 0 ≤ p.2 ∧ p.2 < lim) → Alt q → (∀ p, q.head? = some p → 0 < last.1 → last.2 ≠ p.2) → out.length + (unruns q).length = n → q.length < f →
    rFill take n f out last (enc tb q ++ rest, false) = (out ++ unruns q, (rest, false)) := by
  intro q
  induction q with
  | nil =>
    intro f out last rest _ _ _ hn hf
    obtain ⟨f, rfl⟩ : ∃ g, f = g + 1 := ⟨f - 1, by simp at hf; omega⟩
    have h0 : out.length = n := by simpa [unruns] using hn
    rw [rFill, if_neg (by omega)]
    simp [enc, unruns]
  | cons p q ih =>
    intro f out last rest hp ha hh hn hf
    obtain ⟨f, rfl⟩ : ∃ g, f = g + 1 := ⟨f - 1, by simp at hf; omega⟩
    obtain ⟨k, x⟩ := p
    obtain ⟨p1, p2, p3, p4⟩ := hp (k, x) (by simp)
    simp only at p1 p2 p3 p4
    have hx : ((x.toNat : Nat) : Int) = x := by omega
    have hl : out.length + (k.toNat + (unruns q).length) = n := by
      rw [← hn, unruns_cons]
      simp
    have e : (enc tb ((k, x) :: q) ++ rest, false) = ((tb (k - 1).toNat ++ (tb x.toNat ++ (enc tb q ++ rest)), false) : RS) := by
      unfold enc
      simp only [List.flatMap_cons, List.append_assoc]
    have t1 := H.fwd (k - 1).toNat (tb x.toNat ++ (enc tb q ++ rest)) false (by omega)
    have t2 := H.fwd x.toNat (enc tb q ++ rest) false (by omega)
    rw [e, rFill, if_pos ⟨by omega, rfl⟩, t1]
    simp only [t2]
    rw [if_neg, show (k - 1).toNat + 1 = k.toNat by omega, hx, ih f _ _ rest (fun p h => hp p (by simp [h])) ha.tail ?_ ?_ (by simp at hf; omega)]
    · rw [unruns_cons, List.append_assoc]
    · intro p hq _
      have := ha 0 (k, x) p (by simp) (by rw [List.getElem?_cons_succ, ← List.head?_eq_getElem?]; exact hq)
      exact this
    · rw [List.length_append, List.length_replicate]
      omega
    · rintro (h | h)
      · omega
      · exact hh (k, x) rfl h.2 (by rw [h.1, hx])
theorem fill_bad (_ : TakeLaw take tb lim) (n : Nat) : ∀ (f : Nat) (out : List Int) (last : Nat × Int) (s : RS), (rFill take n f out last s).2.2 = false → s.2 = false := by
  intro f
  induction f with
  | zero => intro out last s h; exact h
  | succ f ih =>
    intro out last s h
    rw [rFill] at h
    split at h
    · rename_i h1
      exact h1.2
    · exact h
theorem fill_back (H : TakeLaw take tb lim) (n : Nat) : ∀ (f : Nat) (out : List Int) (last : Nat × Int) (s : RS), (rFill take n f out last s).2.2 = false →
    ∃ q, (rFill take n f out last s).1 = out ++ unruns q ∧ s.1 = enc tb q ++ (rFill take n f out last s).2.1 ∧ Alt q ∧ (∀ p, q.head? = some p → 0 < last.1 → last.2 ≠ p.2) ∧ ∀ p ∈ q, 1 ≤ p.1 := by
  intro f
  induction f with
  | zero =>
    intro out last s _
    exact ⟨[], by simp [rFill, unruns], by simp [rFill, enc], fun i p q h => by simp at h, fun p h => by simp at h, fun p h => by simp at h⟩
  | succ f ih =>
    intro out last s h
    rw [rFill] at h ⊢
    split at h
    · rename_i h1
      rw [if_pos h1]
      split at h
      · simp at h
      · rename_i h2
        rw [if_neg h2]
        obtain ⟨q, i1, i2, i3, i4, i5⟩ := ih _ _ _ h
        have g1 := fill_bad H n _ _ _ _ h
        obtain ⟨b1, b2⟩ := H.back _ g1
        obtain ⟨c1, c2⟩ := H.back _ b1
        refine ⟨((((take s).1 + 1 : Nat) : Int), ((take (take s).2).1 : Int)) :: q, ?_, ?_, ?_, ?_, ?_⟩
        · rw [i1, unruns_cons, List.append_assoc]
          rfl
        · rw [c2, b2, i2]
          unfold enc
          simp only [List.flatMap_cons, List.append_assoc]
          rw [show ((((take s).1 + 1 : Nat) : Int) - 1).toNat = (take s).1 by omega, Int.toNat_natCast]
        · exact Alt.cons i3 (fun p hp => i4 p hp (by simp))
        · intro p hp h0
          simp only [List.head?_cons, Option.some.injEq] at hp
          subst hp
          intro e
          exact h2 (Or.inr ⟨e, h0⟩)
        · intro p hp
          rcases List.mem_cons.1 hp with rfl | hp
          · simp
            omega
          · exact i5 p hp
    · rename_i h1
      rw [if_neg h1]
      exact ⟨[], by simp [unruns], by simp [enc], fun i p q h => by simp at h, fun p h => by simp at h, fun p h => by simp at h⟩
/-- numbers written, and read -/
theorem fill_runs (H : TakeLaw take tb lim) (l : List Int) (n : Nat) (rest : List UInt8) (hn : l.length = n) (hp : ∀ p ∈ runsOf l, 1 ≤ p.1 ∧ p.1 ≤ lim ∧ 0 ≤ p.2 ∧ p.2 < lim) :
    rFill take n (n + 1) [] (0, 0) (enc tb (runsOf l) ++ rest, false) = (l, (rest, false)) := by
  have h := fill_fwd H n (runsOf l) (n + 1) [] (0, 0) rest hp (runsOf_alt l) (fun p _ h0 => by simp at h0) (by rw [unruns_runsOf]; simpa using hn) (by have := runsOf_len l; omega)
  rw [unruns_runsOf, List.nil_append] at h
  exact h
/-- numbers read, and written -/
theorem fill_read (H : TakeLaw take tb lim) (n : Nat) (s : RS) (h : (rFill take n (n + 1) [] (0, 0) s).2.2 = false) :
    s.1 = enc tb (runsOf (rFill take n (n + 1) [] (0, 0) s).1) ++ (rFill take n (n + 1) [] (0, 0) s).2.1 := by
  obtain ⟨q, h1, h2, h3, _, h5⟩ := fill_back H n _ _ _ _ h
  rw [h1, List.nil_append, runsOf_unruns q h5 h3]
  exact h2
end

theorem blocks_fwd : ∀ (l bl : List (List Int)) (rest : List UInt8), (∀ b ∈ l, blockB b = true) → rBlocks l.length bl (blksB l ++ rest, false) = (some (bl ++ l), (rest, false)) := by
  intro l
  induction l with
  | nil => intro bl rest _; simp [rBlocks, blksB]
  | cons b l ih =>
    intro bl rest h
    have hb := h b (by simp)
    have e : blksB (b :: l) ++ rest = enc oneB (runsOf b) ++ (blksB l ++ rest) := by simp [blksB, enc_one]
    have h1 := fill_runs takeOne b 256 (blksB l ++ rest) (blockB_len hb) (fun p hp => by have := block_runs hb p hp; omega)
    rw [e, List.length_cons, rBlocks, if_neg (by simp), h1]
    simp only
    rw [ih _ rest (fun b hb => h b (by simp [hb])), List.append_assoc]
    rfl
theorem blocks_back : ∀ (k : Nat) (bl : List (List Int)) (s : RS) (bl' : List (List Int)), (rBlocks k bl s).1 = some bl' → (rBlocks k bl s).2.2 = false →
    ∃ l, bl' = bl ++ l ∧ l.length = k ∧ s.1 = blksB l ++ (rBlocks k bl s).2.1 ∧ s.2 = false := by
  intro k
  induction k with
  | zero =>
    intro bl s bl' h h2
    simp only [rBlocks, Option.some.injEq] at h
    subst h
    exact ⟨[], by simp, rfl, by simp [rBlocks, blksB], h2⟩
  | succ k ih =>
    intro bl s bl' h h2
    rw [rBlocks] at h h2 ⊢
    split at h
    · cases h
    · rename_i h3
      rw [if_neg h3] at h2 ⊢
      obtain ⟨l, e1, e2, e3, e4⟩ := ih _ _ _ h h2
      have := fill_read takeOne 256 s e4
      refine ⟨_ :: l, by rw [e1, List.append_assoc]; rfl, by simp [e2], ?_, by simpa using h3⟩
      rw [this, e3]
      simp only [blksB, List.flatMap_cons, List.append_assoc, enc_one]

theorem load_fwd (T : Tr) (hT : T.rightB = true) (hb : T.bl.length ≤ 300) : rLoad (twoB T.bl.length ++ blksB T.bl ++ idxB (runsOf T.ix), false) = some T := by
  have h1 := takeTwo.fwd T.bl.length (blksB T.bl ++ (enc twoB (runsOf T.ix) ++ [])) false (by omega)
  have h2 := blocks_fwd T.bl [] (enc twoB (runsOf T.ix) ++ []) (fun b hb' => by
    obtain ⟨i, hi, rfl⟩ := List.getElem_of_mem hb'
    exact right_block hT hi)
  have h3 := fill_runs takeTwo T.ix 4352 [] (right_ix hT) (fun p hp => by have := index_runs hT hb p hp; omega)
  have e : twoB T.bl.length ++ blksB T.bl ++ idxB (runsOf T.ix) = twoB T.bl.length ++ (blksB T.bl ++ (enc twoB (runsOf T.ix) ++ [])) := by
    rw [enc_two, List.append_nil, List.append_assoc]
  unfold rLoad
  rw [e, h1]
  simp only [h2, List.nil_append]
  rw [if_neg (by omega)]
  have h3' : rFill rTwo 4352 4353 [] (0, 0) (enc twoB (runsOf T.ix) ++ [], false) = (T.ix, ([], false)) := h3
  rw [h3']
  simp [hT]
theorem load_back (l : List UInt8) (T : Tr) (h : rLoad (l, false) = some T) : T.rightB = true ∧ T.bl.length ≤ 300 ∧ l = twoB T.bl.length ++ blksB T.bl ++ idxB (runsOf T.ix) := by
  unfold rLoad at h
  split at h
  · cases h
  · rename_i h0
    have hB := blocks_back (rTwo (l, false)).1 [] (rTwo (l, false)).2
    generalize hr : rBlocks (rTwo (l, false)).1 [] (rTwo (l, false)).2 = r at h hB
    obtain ⟨ob, s1⟩ := r
    cases ob with
    | none => cases h
    | some bl =>
      simp only at h
      have hF := fill_read takeTwo 4352 s1
      have hG := fill_bad takeTwo 4352 4353 [] (0, 0) s1
      have e4 : (4352 + 1 : Nat) = 4353 := rfl
      rw [e4] at hF
      generalize rFill rTwo 4352 4353 [] (0, 0) s1 = q at h hF hG
      split at h
      · rename_i h1
        obtain ⟨g1, g2, g3⟩ := h1
        have hT := Option.some.inj h
        subst hT
        have f1 := hG g1
        obtain ⟨m, m1, m2, m3, m4⟩ := hB bl rfl f1
        rw [List.nil_append] at m1
        subst m1
        have t1 := (takeTwo.back (l, false) m4).2
        refine ⟨g3, by simp only; omega, ?_⟩
        simp only at t1 ⊢
        rw [t1, m3, hF g1, g2, enc_two, m2, List.append_nil, List.append_assoc]
      · cases h
end Go.Proofs.YtibndkkbmgbogaaDoor

/- Plain facts on what Load answers: at a trie's bytes; at bytes of which one has turned; and what an answer tells. No program in sight; conditions: stated. -/
namespace Go.Proofs.YtibndkkbmgbogaaDoor
open Go Go.RowKit

theorem ext_list (s : ByteArray) (a b : Nat) : (s.extract a b).data.toList = (s.data.toList.drop a).take (b - a) := by
  rw [ByteArray.data_extract, Array.toList_extract, List.extract_eq_take_drop]
theorem bytes_of {s t : ByteArray} (h : s.data.toList = t.data.toList) : s = t := ByteArray.ext (Array.ext' h)
theorem size_list (s : ByteArray) : s.size = s.data.toList.length := by simp
theorem getD_list (s : ByteArray) (i : Nat) : s.data.getD i 0 = s.data.toList.getD i 0 := by
  simp [Array.getD_eq_getD_getElem?, List.getD_eq_getElem?_getD]

theorem twoB_len (n : Nat) : (twoB n).length = 2 := rfl
theorem packB_len (T : Tr) : (packB T).length = (bodyB T).length + 2 := by unfold packB; rw [List.length_append, twoB_len]
theorem bodyB_len (T : Tr) : 5 ≤ (bodyB T).length := by
  unfold bodyB
  simp only [List.length_append, twoB_len]
  have : markB.length = 3 := rfl
  omega
/-- behind the mark, and before the sum -/
def midB (T : Tr) : List UInt8 := twoB T.bl.length ++ blksB T.bl ++ idxB (runsOf T.ix)
theorem bodyB_mid (T : Tr) : bodyB T = markB ++ midB T := by unfold bodyB midB; simp only [List.append_assoc]
theorem packB_mid (T : Tr) : packB T = markB ++ midB T ++ twoB (sumB (bodyB T) % 65536) := by unfold packB; rw [bodyB_mid]
def numB (l : List UInt8) (i : Nat) : Nat := (l.getD i 0).toNat * 256 + (l.getD (i + 1) 0).toNat
theorem num_two (l m : List UInt8) (n : Nat) (hn : n < 65536) : numB (l ++ (twoB n ++ m)) l.length = n := by
  unfold numB twoB
  simp only [List.getD_eq_getElem?_getD, List.getElem?_append_right (Nat.le_refl l.length), List.getElem?_append_right (Nat.le_succ l.length), Nat.sub_self]
  rw [show l.length + 1 - l.length = 1 by omega]
  simp only [List.cons_append, List.getElem?_cons_zero, List.getElem?_cons_succ, Option.getD_some]
  rw [UInt8.toNat_ofNat_of_lt' (show n / 256 < UInt8.size by change n / 256 < 256; omega), UInt8.toNat_ofNat_of_lt' (show n % 256 < UInt8.size by change n % 256 < 256; omega)]
  omega
/-- loadB over a list -/
theorem load_list (s : ByteArray) (h7 : 7 ≤ s.size) (hm : s.extract 0 3 = ⟨#[86, 84, 49]⟩) : loadB s =
    if sumB (s.data.toList.take (s.data.toList.length - 2)) % 65536 ≠ numB s.data.toList (s.data.toList.length - 2) then noTr 61
    else match rLoad ((s.data.toList.take (s.data.toList.length - 2)).drop 3, false) with
      | none => noTr 60
      | some T => (T, 0) := by
  rw [load_def s h7 hm, ext_list, ext_list, List.drop_zero, getD_list, getD_list, Nat.sub_zero]
  rw [size_list] at h7 ⊢
  have e : s.data.toList.length - 1 = s.data.toList.length - 2 + 1 := by omega
  have e2 : (s.data.toList.drop 3).take (s.data.toList.length - 2 - 3) = (s.data.toList.take (s.data.toList.length - 2)).drop 3 := by rw [List.drop_take]
  rw [e, e2]
  rfl
theorem mark_of {s : ByteArray} (h : s.data.toList.take 3 = markB) : s.extract 0 3 = ⟨#[86, 84, 49]⟩ := bytes_of (by rw [ext_list]; exact h)
theorem mark_to {s : ByteArray} (h : s.extract 0 3 = ⟨#[86, 84, 49]⟩) : s.data.toList.take 3 = markB := by
  have := ext_list s 0 3
  rw [h] at this
  exact this.symm

theorem load_pack (T : Tr) (hT : T.rightB = true) (hb : T.bl.length ≤ 300) : loadB ⟨(packB T).toArray⟩ = (T, 0) := by
  have h5 := bodyB_len T
  have hl := packB_len T
  rw [load_list _ (by rw [size_list]; simp only; omega) (mark_of (by simp only; rw [packB_mid]; rfl))]
  simp only
  have e : (packB T).length - 2 = (bodyB T).length := by omega
  have e1 : (packB T).take (bodyB T).length = bodyB T := by unfold packB; exact List.take_left
  have e2 : numB (packB T) (bodyB T).length = sumB (bodyB T) % 65536 := by
    have := num_two (bodyB T) [] (sumB (bodyB T) % 65536) (by omega)
    rwa [List.append_nil] at this
  have e3 : (bodyB T).drop 3 = midB T := by rw [bodyB_mid]; rfl
  rw [e, e1, e2, if_neg (by simp), e3]
  have := load_fwd T hT hb
  rw [show twoB T.bl.length ++ blksB T.bl ++ idxB (runsOf T.ix) = midB T from rfl] at this
  rw [this]

/-- what an answer without an error tells -/
theorem load_good (s : ByteArray) (h : (loadB s).2 = 0) : (loadB s).1.rightB = true ∧ (loadB s).1.bl.length ≤ 300 ∧ s.data.toList = packB (loadB s).1 ∧ 7 ≤ s.size := by
  by_cases h1 : s.size < 7 ∨ ¬ s.extract 0 3 = ⟨#[86, 84, 49]⟩
  · unfold loadB at h
    rw [if_pos h1] at h
    cases h
  have h7 : 7 ≤ s.size := by
    rcases Nat.lt_or_ge s.size 7 with hh | hh
    · exact absurd (Or.inl hh) h1
    · exact hh
  have hm : s.extract 0 3 = ⟨#[86, 84, 49]⟩ := by
    by_cases hh : s.extract 0 3 = ⟨#[86, 84, 49]⟩
    · exact hh
    · exact absurd (Or.inr hh) h1
  have hk := mark_to hm
  rw [load_list s h7 hm] at h ⊢
  have h8 := h7
  rw [size_list] at h7
  clear hm h1
  generalize s.data.toList = l at *
  split at h
  · cases h
  · rename_i h2
    rw [if_neg h2]
    generalize hr : rLoad ((l.take (l.length - 2)).drop 3, false) = r at h ⊢
    cases r with
    | none => cases h
    | some T =>
      simp only
      obtain ⟨t1, t2, t3⟩ := load_back _ _ hr
      refine ⟨t1, t2, ?_, h8⟩
      have e1 : (l.take (l.length - 2)).take 3 = markB := by
        rw [List.take_take, Nat.min_eq_left (by omega)]
        exact hk
      have e2 : l.take (l.length - 2) = bodyB T := by
        rw [← List.take_append_drop 3 (l.take (l.length - 2)), e1, t3, bodyB_mid]
        rfl
      have e3 : l.drop (l.length - 2) = twoB (numB l (l.length - 2)) := by
        rw [List.drop_eq_getElem_cons (by omega), show l.length - 2 + 1 = l.length - 1 by omega, List.drop_eq_getElem_cons (by omega), show l.length - 1 + 1 = l.length by omega, List.drop_length]
        unfold numB twoB
        rw [show l.length - 2 + 1 = l.length - 1 by omega]
        simp only [List.getD_eq_getElem?_getD, List.getElem?_eq_getElem (show l.length - 2 < l.length by omega), List.getElem?_eq_getElem (show l.length - 1 < l.length by omega), Option.getD_some]
        have a := (l[l.length - 2]).toNat_lt
        have b := (l[l.length - 1]).toNat_lt
        rw [show ((l[l.length - 2]).toNat * 256 + (l[l.length - 1]).toNat) / 256 = (l[l.length - 2]).toNat by omega, show ((l[l.length - 2]).toNat * 256 + (l[l.length - 1]).toNat) % 256 = (l[l.length - 1]).toNat by omega]
        simp
      rw [← List.take_append_drop (l.length - 2) l, e3, e2]
      unfold packB
      rw [← e2]
      rw [show sumB (l.take (l.length - 2)) % 65536 = numB l (l.length - 2) by simpa using h2]
/-- an error hands back nothing -/
theorem load_none (s : ByteArray) (h : (loadB s).2 ≠ 0) : (loadB s).1 = ⟨[], []⟩ := by
  unfold loadB at h ⊢
  split
  · rfl
  · rename_i h1
    rw [if_neg h1] at h
    split
    · rfl
    · rename_i h2
      rw [if_neg h2] at h
      split
      · rfl
      · rename_i h3
        rw [h3] at h
        exact absurd rfl h

theorem sumB_set : ∀ (l : List UInt8) (i : Nat) (b : UInt8) (h : i < l.length), sumB (l.set i b) + (l[i]).toNat = sumB l + b.toNat
  | [], i, b, h => by simp at h
  | x :: l, 0, b, h => by simp [sumB]; omega
  | x :: l, i + 1, b, h => by
    have := sumB_set l i b (by simpa using h)
    simp only [List.set_cons_succ, List.getElem_cons_succ, sumB, List.map_cons, List.sum_cons] at this ⊢
    omega
theorem take_set {l : List UInt8} {i k : Nat} {b : UInt8} : (l.set i b).take k = (l.take k).set i b := by
  rw [List.take_set]
theorem num_set {l : List UInt8} {i k : Nat} {b : UInt8} (h : i < k) : numB (l.set i b) k = numB l k := by
  unfold numB
  simp only [List.getD_eq_getElem?_getD]
  rw [List.getElem?_set_ne (by omega), List.getElem?_set_ne (by omega)]
/-- one byte has turned -/
theorem load_turned (T : Tr) (at' : Nat) (b : UInt8) (ha : at' < (packB T).length) (hb : b ≠ (packB T)[at']) :
    loadB ⟨((packB T).set at' b).toArray⟩ = noTr (if at' < 3 then 60 else 61) := by
  have h5 := bodyB_len T
  have hl := packB_len T
  have hbn : b.toNat ≠ ((packB T)[at']).toNat := fun e => hb (UInt8.toNat_inj.1 e)
  have b1 := b.toNat_lt
  have b2 := ((packB T)[at']).toNat_lt
  by_cases h3 : at' < 3
  · rw [if_pos h3]
    unfold loadB
    rw [if_pos]
    right
    intro hm
    have := mark_to hm
    simp only at this
    rw [take_set] at this
    have hk : (packB T).take 3 = markB := by rw [packB_mid]; rfl
    have hg : ((packB T).take 3)[at']? = some (packB T)[at'] := by rw [List.getElem?_take, if_pos h3, List.getElem?_eq_getElem ha]
    have hg2 : (((packB T).take 3).set at' b)[at']? = some b := by
      rw [List.getElem?_set_self]
      rw [List.length_take]
      omega
    rw [this, ← hk, hg] at hg2
    exact hb (Option.some.inj hg2).symm
  · rw [if_neg h3]
    rw [load_list _ (by rw [size_list]; simp only [List.length_set]; omega) (mark_of (by
      simp only
      rw [take_set, List.set_eq_of_length_le (by rw [List.length_take]; omega), packB_mid]
      rfl)), if_pos]
    simp only [List.length_set]
    have e : (packB T).length - 2 = (bodyB T).length := by omega
    have e1 : (packB T).take (bodyB T).length = bodyB T := by unfold packB; exact List.take_left
    have e2 : numB (packB T) (bodyB T).length = sumB (bodyB T) % 65536 := by
      have := num_two (bodyB T) [] (sumB (bodyB T) % 65536) (by omega)
      rwa [List.append_nil] at this
    rw [e, take_set, e1]
    by_cases h4 : at' < (bodyB T).length
    · rw [num_set h4, e2]
      have := sumB_set (bodyB T) at' b h4
      have hg : (packB T)[at'] = (bodyB T)[at'] := by
        have q : (packB T)[at']? = (bodyB T)[at']? := by unfold packB; rw [List.getElem?_append_left h4]
        rw [List.getElem?_eq_getElem ha, List.getElem?_eq_getElem h4] at q
        exact Option.some.inj q
      rw [hg] at hbn b2
      omega
    · rw [List.set_eq_of_length_le (by omega)]
      rw [← e2]
      unfold numB
      simp only [List.getD_eq_getElem?_getD]
      have c : at' = (bodyB T).length ∨ at' = (bodyB T).length + 1 := by omega
      have l0 : (bodyB T).length < (packB T).length := by omega
      have l1 : (bodyB T).length + 1 < (packB T).length := by omega
      have m0 := ((packB T)[(bodyB T).length]).toNat_lt
      have m1 := ((packB T)[(bodyB T).length + 1]).toNat_lt
      rcases c with rfl | rfl
      · rw [List.getElem?_set_self l0, List.getElem?_set_ne (by omega), List.getElem?_eq_getElem l0, List.getElem?_eq_getElem l1]
        simp only [Option.getD_some]
        omega
      · rw [List.getElem?_set_self l1, List.getElem?_set_ne (by omega), List.getElem?_eq_getElem l0, List.getElem?_eq_getElem l1]
        simp only [Option.getD_some]
        omega
end Go.Proofs.YtibndkkbmgbogaaDoor

/- Plain facts: the reference's decoding, tried by packing, is what Load answers. No program in sight; conditions: stated. -/
namespace Go.Proofs.YtibndkkbmgbogaaDoor
open Go Go.RowKit

/-- one block as the reference reads it: runs, till it has 256 values or more -/
def dBlock : List UInt8 → List Int → List Int × List UInt8
  | x :: y :: r, b => if b.length < 256 then dBlock r (b ++ List.replicate (x.toNat + 1) (y.toNat : Int)) else (b, x :: y :: r)
  | r, b => (b, r)
/-- so many blocks -/
def dBlocks : Nat → List (List Int) → List UInt8 → List (List Int) × List UInt8
  | 0, bl, r => (bl, r)
  | k + 1, bl, r => dBlocks k (bl ++ [(dBlock r []).1]) (dBlock r []).2
/-- the index as the reference reads it -/
def dIx : List UInt8 → List Int → List Int
  | a :: b :: c :: d :: r, ix => if ix.length < 4352 then dIx r (ix ++ List.replicate (min (a.toNat * 256 + b.toNat + 1) 4353) ((c.toNat * 256 + d.toNat : Nat) : Int)) else ix
  | _, ix => ix
def decB (l : List UInt8) : Tr :=
  let p := dBlocks (min (numB l 3) 300) [] (l.drop 5)
  ⟨dIx p.2 [], p.1⟩
/-- what the reference's Load answers -/
def refLoadB (s : ByteArray) : Tr × Int :=
  if s.size < 7 ∨ ¬ s.extract 0 3 = ⟨#[86, 84, 49]⟩ then noTr 60
  else if sumB (s.data.toList.take (s.data.toList.length - 2)) % 65536 ≠ numB s.data.toList (s.data.toList.length - 2) then noTr 61
  else if packedB (decB s.data.toList) = (s.data.toList, 0) then (decB s.data.toList, 0) else noTr 60

theorem dBlock_fwd : ∀ (q : List (Int × Int)) (b : List Int) (rest : List UInt8), (∀ p ∈ q, 1 ≤ p.1 ∧ p.1 ≤ 256 ∧ 0 ≤ p.2 ∧ p.2 < 256) → b.length + (unruns q).length = 256 →
    dBlock (blkB q ++ rest) b = (b ++ unruns q, rest) := by
  intro q
  induction q with
  | nil =>
    intro b rest _ hn
    have hb : b.length = 256 := by simpa [unruns] using hn
    have e : blkB [] ++ rest = rest := rfl
    rw [e]
    have hu : b ++ unruns [] = b := by simp [unruns]
    rw [hu]
    match rest with
    | [] => rfl
    | [_] => rfl
    | x :: y :: r => rw [dBlock, if_neg (by omega)]
  | cons p q ih =>
    intro b rest hp hn
    obtain ⟨k, x⟩ := p
    obtain ⟨p1, p2, p3, p4⟩ := hp (k, x) (by simp)
    simp only at p1 p2 p3 p4
    have hl : b.length + (k.toNat + (unruns q).length) = 256 := by
      rw [← hn, unruns_cons]
      simp
    have e : blkB ((k, x) :: q) ++ rest = UInt8.ofNat (k - 1).toNat :: UInt8.ofNat x.toNat :: (blkB q ++ rest) := rfl
    have e1 : (UInt8.ofNat (k - 1).toNat).toNat = (k - 1).toNat := UInt8.toNat_ofNat_of_lt' (show (k - 1).toNat < 256 by omega)
    have e2 : (UInt8.ofNat x.toNat).toNat = x.toNat := UInt8.toNat_ofNat_of_lt' (show x.toNat < 256 by omega)
    rw [e, dBlock, if_pos (by omega), e1, e2, ih _ rest (fun p h => hp p (by simp [h])) (by rw [List.length_append, List.length_replicate]; omega), unruns_cons, List.append_assoc]
    rw [show (k - 1).toNat + 1 = k.toNat by omega, show ((x.toNat : Nat) : Int) = x by omega]
theorem dBlocks_fwd : ∀ (l bl : List (List Int)) (rest : List UInt8), (∀ b ∈ l, blockB b = true) → dBlocks l.length bl (blksB l ++ rest) = (bl ++ l, rest) := by
  intro l
  induction l with
  | nil => intro bl rest _; simp [dBlocks, blksB]
  | cons b l ih =>
    intro bl rest h
    have hb := h b (by simp)
    have e : blksB (b :: l) ++ rest = blkB (runsOf b) ++ (blksB l ++ rest) := by simp [blksB]
    have h1 := dBlock_fwd (runsOf b) [] (blksB l ++ rest) (fun p hp => by have := block_runs hb p hp; omega) (by rw [unruns_runsOf]; simpa using blockB_len hb)
    rw [e, List.length_cons, dBlocks, h1]
    simp only [List.nil_append, unruns_runsOf]
    rw [ih _ rest (fun b hb => h b (by simp [hb])), List.append_assoc]
    rfl
theorem dIx_fwd : ∀ (q : List (Int × Int)) (b : List Int) (rest : List UInt8), (∀ p ∈ q, 1 ≤ p.1 ∧ p.1 ≤ 65536 ∧ 0 ≤ p.2 ∧ p.2 < 65536) → b.length + (unruns q).length = 4352 →
    dIx (idxB q ++ rest) b = b ++ unruns q := by
  intro q
  induction q with
  | nil =>
    intro b rest _ hn
    have hb : b.length = 4352 := by simpa [unruns] using hn
    have e : idxB [] ++ rest = rest := rfl
    rw [e]
    have hu : b ++ unruns [] = b := by simp [unruns]
    rw [hu]
    match rest with
    | [] => rfl
    | [_] => rfl
    | [_, _] => rfl
    | [_, _, _] => rfl
    | x :: y :: z :: u :: r => rw [dIx, if_neg (by omega)]
  | cons p q ih =>
    intro b rest hp hn
    obtain ⟨k, x⟩ := p
    obtain ⟨p1, p2, p3, p4⟩ := hp (k, x) (by simp)
    simp only at p1 p2 p3 p4
    have hl : b.length + (k.toNat + (unruns q).length) = 4352 := by
      rw [← hn, unruns_cons]
      simp
    have e : idxB ((k, x) :: q) ++ rest = UInt8.ofNat ((k - 1).toNat / 256) :: UInt8.ofNat ((k - 1).toNat % 256) :: UInt8.ofNat (x.toNat / 256) :: UInt8.ofNat (x.toNat % 256) :: (idxB q ++ rest) := rfl
    have e1 : (UInt8.ofNat ((k - 1).toNat / 256)).toNat = (k - 1).toNat / 256 := UInt8.toNat_ofNat_of_lt' (show _ < 256 by omega)
    have e2 : (UInt8.ofNat ((k - 1).toNat % 256)).toNat = (k - 1).toNat % 256 := UInt8.toNat_ofNat_of_lt' (show _ < 256 by omega)
    have e3 : (UInt8.ofNat (x.toNat / 256)).toNat = x.toNat / 256 := UInt8.toNat_ofNat_of_lt' (show _ < 256 by omega)
    have e4 : (UInt8.ofNat (x.toNat % 256)).toNat = x.toNat % 256 := UInt8.toNat_ofNat_of_lt' (show _ < 256 by omega)
    have e7 : (k - 1).toNat / 256 * 256 + (k - 1).toNat % 256 = (k - 1).toNat := by rw [Nat.mul_comm]; exact Nat.div_add_mod _ _
    have e8 : x.toNat / 256 * 256 + x.toNat % 256 = x.toNat := by rw [Nat.mul_comm]; exact Nat.div_add_mod _ _
    have hk : (k - 1).toNat + 1 = k.toNat := by omega
    have hk2 : k.toNat ≤ 4353 := Nat.le_succ_of_le (hl ▸ (Nat.le_trans (Nat.le_add_right _ _) (Nat.le_add_left _ _)))
    have hk0 : 1 ≤ k.toNat := by omega
    have hbl : b.length < 4352 := hl ▸ Nat.lt_of_lt_of_le (Nat.lt_add_of_pos_right hk0) (Nat.add_le_add_left (Nat.le_add_right _ _) _)
    have hl2 : (b ++ List.replicate k.toNat x).length + (unruns q).length = 4352 := by rw [List.length_append, List.length_replicate, Nat.add_assoc]; exact hl
    have e5 : min ((k - 1).toNat / 256 * 256 + (k - 1).toNat % 256 + 1) 4353 = k.toNat := by rw [e7, hk]; exact Nat.min_eq_left hk2
    have e6 : ((x.toNat / 256 * 256 + x.toNat % 256 : Nat) : Int) = x := by rw [e8]; exact Int.toNat_of_nonneg p3
    rw [e, dIx, if_pos hbl, e1, e2, e3, e4, e5, e6,
      ih _ rest (fun p h => hp p (by simp [h])) hl2, unruns_cons, List.append_assoc]
theorem num_pack (T : Tr) (h : T.bl.length < 65536) : numB (packB T) 3 = T.bl.length := by
  have e : packB T = markB ++ (twoB T.bl.length ++ (blksB T.bl ++ idxB (runsOf T.ix) ++ twoB (sumB (bodyB T) % 65536))) := by
    rw [packB_mid]
    unfold midB
    simp only [List.append_assoc]
  rw [e]
  exact num_two markB _ _ h
theorem dec_pack (T : Tr) (hT : T.rightB = true) (hb : T.bl.length ≤ 300) : decB (packB T) = T := by
  have e : (packB T).drop 5 = blksB T.bl ++ (idxB (runsOf T.ix) ++ twoB (sumB (bodyB T) % 65536)) := by
    rw [packB_mid]
    unfold midB
    simp only [List.append_assoc]
    rfl
  unfold decB
  rw [num_pack T (by omega), Nat.min_eq_left hb, e, dBlocks_fwd T.bl [] _ (fun b hb' => by
    obtain ⟨i, hi, rfl⟩ := List.getElem_of_mem hb'
    exact right_block hT hi)]
  simp only [List.nil_append]
  rw [dIx_fwd (runsOf T.ix) [] _ (fun p hp => by have := index_runs hT hb p hp; omega) (by rw [unruns_runsOf]; simpa using right_ix hT), unruns_runsOf]
  rfl
theorem packed_ok {T : Tr} {l : List UInt8} (h : packedB T = (l, 0)) : T.rightB = true ∧ T.bl.length ≤ 300 ∧ l = packB T := by
  unfold packedB at h
  split at h
  · rename_i h1
    split at h
    · rename_i h2
      exact ⟨h1, h2, (congrArg Prod.fst h).symm⟩
    · exact absurd (congrArg Prod.snd h) (by simp)
  · exact absurd (congrArg Prod.snd h) (by simp)
theorem refLoad_eq (s : ByteArray) : refLoadB s = loadB s := by
  unfold refLoadB
  by_cases h1 : s.size < 7 ∨ ¬ s.extract 0 3 = ⟨#[86, 84, 49]⟩
  · rw [if_pos h1]
    unfold loadB
    rw [if_pos h1]
  rw [if_neg h1]
  have h7 : 7 ≤ s.size := by
    rcases Nat.lt_or_ge s.size 7 with hh | hh
    · exact absurd (Or.inl hh) h1
    · exact hh
  have hm : s.extract 0 3 = ⟨#[86, 84, 49]⟩ := by
    by_cases hh : s.extract 0 3 = ⟨#[86, 84, 49]⟩
    · exact hh
    · exact absurd (Or.inr hh) h1
  have hg := load_good s
  have hl := load_list s h7 hm
  by_cases h2 : sumB (s.data.toList.take (s.data.toList.length - 2)) % 65536 ≠ numB s.data.toList (s.data.toList.length - 2)
  · rw [if_pos h2] at hl ⊢
    exact hl.symm
  rw [if_neg h2] at hl ⊢
  by_cases h3 : packedB (decB s.data.toList) = (s.data.toList, 0)
  · rw [if_pos h3]
    obtain ⟨a, b, c⟩ := packed_ok h3
    have := load_pack _ a b
    rw [show s = ⟨(packB (decB s.data.toList)).toArray⟩ from bytes_of c, this]
    simp only
    rw [← c]
  · rw [if_neg h3]
    generalize hr : rLoad ((s.data.toList.take (s.data.toList.length - 2)).drop 3, false) = r at hl
    cases r with
    | none => exact hl.symm
    | some T =>
      simp only at hl
      rw [hl] at hg
      obtain ⟨a, b, c, _⟩ := hg rfl
      simp only at a b c
      refine absurd ?_ h3
      rw [c, dec_pack T a b]
      unfold packedB
      rw [if_pos a, if_pos b]
end Go.Proofs.YtibndkkbmgbogaaDoor
