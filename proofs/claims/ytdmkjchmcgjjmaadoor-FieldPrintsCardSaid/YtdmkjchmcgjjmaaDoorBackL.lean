/- Plain: a record's print is a line that says the record. No program in sight. -/
import Derived.Test.YtdmkjchmcgjjmaaDoorJoinL
import Derived.Test.YtdmkjchmcgjjmaaDoorPrint
namespace Go.Proofs.YtdmkjchmcgjjmaaDoor
open Go Go.RowKit

/-- a digit's byte: none of the bytes that part a line -/
def DigC (c : UInt8) : Prop := (48 ≤ c.toNat ∧ c.toNat ≤ 57) ∨ (65 ≤ c.toNat ∧ c.toNat ≤ 70)
theorem hexC_nat {d : Nat} (h : d < 16) : (hexC d).toNat = if d < 10 then 48 + d else 55 + d := by
  unfold hexC
  rw [UInt8.toNat_ofNat']
  split <;> omega
theorem hexC_dig {d : Nat} (h : d < 16) : DigC (hexC d) ∧ hexV ((hexC d).toNat : Int) = some d := by
  have e := hexC_nat h
  unfold DigC hexV
  rw [e]
  split
  · refine ⟨by omega, ?_⟩
    rw [if_pos (by omega)]
    congr 1
    omega
  · refine ⟨by omega, ?_⟩
    rw [if_neg (by omega), if_neg (by omega), if_pos (by omega)]
    congr 1
    omega
theorem hexF_fold : ∀ (f n : Nat) (acc : List UInt8), n < 16 ^ f → foldX (hexF f n acc) 0 = foldX acc n
  | 0, n, acc, h => by
    have : n = 0 := by rw [Nat.pow_zero] at h; omega
    subst this
    rfl
  | f + 1, n, acc, h => by
    by_cases h0 : n = 0
    · subst h0
      rw [hexF_zero]
    · rw [hexF_step h0, hexF_fold f (n / 16) _ (by rw [Nat.pow_succ] at h; omega), foldX, (hexC_dig (Nat.mod_lt n (by decide))).2]
      simp only
      congr 1
      omega
theorem hexF_dig : ∀ (f n : Nat) (acc : List UInt8), (∀ c ∈ acc, DigC c) → ∀ c ∈ hexF f n acc, DigC c
  | 0, n, acc, h => h
  | f + 1, n, acc, h => by
    unfold hexF
    split
    · exact h
    · refine hexF_dig f _ _ fun c hc => ?_
      rcases List.mem_cons.1 hc with rfl | hc
      · exact (hexC_dig (Nat.mod_lt n (by decide))).1
      · exact h c hc
theorem hexF_short : ∀ (k f n : Nat) (acc : List UInt8), n < 16 ^ k → (hexF f n acc).length ≤ acc.length + k
  | 0, f, n, acc, h => by
    have : n = 0 := by rw [Nat.pow_zero] at h; omega
    subst this
    rw [hexF_zero]
    exact Nat.le_refl _
  | k + 1, 0, n, acc, h => by show acc.length ≤ _; omega
  | k + 1, f + 1, n, acc, h => by
    unfold hexF
    split
    · omega
    · have := hexF_short k f (n / 16) (hexC (n % 16) :: acc) (by rw [Nat.pow_succ] at h; omega)
      rw [List.length_cons] at this
      omega
theorem zeros_fold : ∀ (k : Nat) (l : List UInt8), foldX (List.replicate k 48 ++ l) 0 = foldX l 0
  | 0, l => rfl
  | k + 1, l => by
    rw [List.replicate_succ, List.cons_append, foldX]
    show (match hexV ((48 : UInt8).toNat : Int) with | none => none | some d => foldX (List.replicate k 48 ++ l) (0 * 16 + d)) = _
    rw [show hexV ((48 : UInt8).toNat : Int) = some 0 from rfl]
    exact zeros_fold k l
/-- a number's print is its code -/
theorem codeN_back {n : Nat} (h : n < 2 ^ 24) : codeB ⟨(codeN n).toArray⟩ = some n ∧ (∀ c ∈ codeN n, DigC c) ∧ 4 ≤ (codeN n).length ∧ (codeN n).length ≤ 6 := by
  have h16 : n < 16 ^ 6 := by have : (16 : Nat) ^ 6 = 2 ^ 24 := by decide
                              omega
  have hl := hexF_short 6 16 n [] h16
  rw [List.length_nil] at hl
  have hlen : (codeN n).length = 4 - min (hexF 16 n []).length 4 + (hexF 16 n []).length := by
    unfold codeN
    rw [List.length_append, List.length_replicate]
  refine ⟨?_, ?_, by omega, by omega⟩
  · unfold codeB
    rw [size_mk, if_pos (by omega)]
    show foldX (codeN n) 0 = some n
    unfold codeN
    rw [zeros_fold, hexF_fold 16 n [] (Nat.lt_of_lt_of_le h16 (by decide))]
    rfl
  · intro c hc
    unfold codeN at hc
    rcases List.mem_append.1 hc with hc | hc
    · rw [List.eq_of_mem_replicate hc]
      exact .inl (by decide)
    · exact hexF_dig 16 n [] (fun _ h => by cases h) c hc
theorem codeS_nat (n : Nat) : codeS (n : Int) = codeN n := by
  unfold codeS
  rw [if_neg (by omega)]
  rfl
theorem dig_not {c : UInt8} (h : DigC c) : c ≠ 46 ∧ c ≠ 59 ∧ c ≠ 35 ∧ c ≠ 10 ∧ c ≠ 32 ∧ c ≠ 9 ∧ c ≠ 13 := by
  unfold DigC at h
  refine ⟨?_, ?_, ?_, ?_, ?_, ?_, ?_⟩ <;>
  · intro e
    subst e
    revert h
    decide

/-- the first two points -/
theorem two_at : ∀ {x : List UInt8} (r : List UInt8), (46 : UInt8) ∉ x → Lib.index (x ++ 46 :: 46 :: r) [46, 46] = (x.length : Nat)
  | [], r, _ => by simp [Lib.index]
  | b :: l, r, h => by
    have h1 : b ≠ 46 := fun e => h (by simp [e])
    have h2 := two_at (x := l) r (fun e => h (by simp [e]))
    rw [List.cons_append]
    unfold Lib.index
    rw [h2]
    have h3 : ([46, 46] : List UInt8).isPrefixOf (b :: (l ++ 46 :: 46 :: r)) = false := by
      rw [List.isPrefixOf]
      have : ((46 : UInt8) == b) = false := beq_eq_false_iff_ne.2 (Ne.symm h1)
      rw [this]
      rfl
    rw [h3]
    simp
theorem two_none : ∀ {x : List UInt8}, (46 : UInt8) ∉ x → Lib.index x [46, 46] = -1
  | [], _ => by simp [Lib.index]
  | b :: l, h => by
    have h1 : b ≠ 46 := fun e => h (by simp [e])
    have h2 := two_none (x := l) (fun e => h (by simp [e]))
    unfold Lib.index
    rw [h2]
    have h3 : ([46, 46] : List UInt8).isPrefixOf (b :: l) = false := by
      rw [List.isPrefixOf]
      have : ((46 : UInt8) == b) = false := beq_eq_false_iff_ne.2 (Ne.symm h1)
      rw [this]
      rfl
    rw [h3]
    rfl
theorem ends_num {a b : Nat} (ha : a < 2 ^ 24) (hb : b < 2 ^ 24) : endsB ⟨(numS a b).toArray⟩ = some (a, b) := by
  obtain ⟨a1, a2, a3, a4⟩ := codeN_back ha
  obtain ⟨b1, b2, b3, b4⟩ := codeN_back hb
  have na : (46 : UInt8) ∉ codeN a := fun h => (dig_not (a2 _ h)).1 rfl
  unfold endsB cutIs cutH cutR numS
  rw [codeS_nat, codeS_nat]
  by_cases h : b = a
  · subst h
    rw [if_pos rfl]
    have hc : Lib.cut (codeN b) [46, 46] = (codeN b, [], false) := by
      unfold Lib.cut
      rw [two_none na]
      rfl
    rw [show (⟨#[46, 46]⟩ : ByteArray).data.toList = [46, 46] from rfl, show (⟨(codeN b).toArray⟩ : ByteArray).data.toList = codeN b from rfl, hc, a1]
    rfl
  · rw [if_neg (by omega)]
    have hc : Lib.cut (codeN a ++ 46 :: 46 :: codeN b) [46, 46] = (codeN a, codeN b, true) := by
      unfold Lib.cut
      rw [two_at _ na, if_pos (by omega), show (((codeN a).length : Nat) : Int).toNat = (codeN a).length by omega, List.take_left' rfl, ← List.drop_drop, List.drop_left' rfl]
      rfl
    rw [show (⟨#[46, 46]⟩ : ByteArray).data.toList = [46, 46] from rfl, show (⟨(codeN a ++ 46 :: 46 :: codeN b).toArray⟩ : ByteArray).data.toList = codeN a ++ 46 :: 46 :: codeN b from rfl, hc, a1, b1]
    rfl

/-- a text without blanks at its ends -/
def Trd (l : List UInt8) : Prop := (∀ c, l.head? = some c → ¬ ([32, 9, 13] : List UInt8).contains c = true) ∧ (∀ c, l.getLast? = some c → ¬ ([32, 9, 13] : List UInt8).contains c = true)
theorem dropWhile_id {p : UInt8 → Bool} {l : List UInt8} (h : ∀ c, l.head? = some c → ¬ p c = true) : l.dropWhile p = l := by
  cases l with
  | nil => rfl
  | cons b r =>
    rw [List.dropWhile_cons, if_neg (h b rfl)]
theorem trimS_id {l : List UInt8} (h : Trd l) : Lib.trimS l [32, 9, 13] = l := by
  unfold Lib.trimS Lib.trimRightS Lib.trimLeftS
  rw [dropWhile_id (l := l.reverse) (fun c hc => h.2 c (by rw [List.head?_reverse] at hc; exact hc)), List.reverse_reverse]
  exact dropWhile_id h.1
theorem dropWhile_head {p : UInt8 → Bool} : ∀ {l : List UInt8} {c : UInt8}, (l.dropWhile p).head? = some c → ¬ p c = true
  | [], c, h => by simp at h
  | b :: r, c, h => by
    rw [List.dropWhile_cons] at h
    split at h
    · exact dropWhile_head h
    · rename_i hb
      injection h with h
      subst h
      exact hb
theorem dropWhile_last {p : UInt8 → Bool} : ∀ {l : List UInt8} {c : UInt8}, (l.dropWhile p).getLast? = some c → l.getLast? = some c
  | [], c, h => by simp at h
  | b :: r, c, h => by
    rw [List.dropWhile_cons] at h
    split at h
    · have := dropWhile_last h
      cases r with
      | nil => simp at h
      | cons y q => rw [List.getLast?_cons_cons]; exact this
    · exact h
theorem trimS_trd (l : List UInt8) : Trd (Lib.trimS l [32, 9, 13]) := by
  refine ⟨fun c hc => ?_, fun c hc => ?_⟩
  · unfold Lib.trimS Lib.trimLeftS at hc
    exact dropWhile_head hc
  · unfold Lib.trimS Lib.trimLeftS at hc
    have h1 := dropWhile_last hc
    unfold Lib.trimRightS at h1
    rw [List.getLast?_reverse] at h1
    exact dropWhile_head h1
theorem trimS_mem {l cs : List UInt8} {c : UInt8} (h : c ∈ Lib.trimS l cs) : c ∈ l := by
  unfold Lib.trimS Lib.trimLeftS Lib.trimRightS at h
  have h1 := (List.dropWhile_sublist _).subset h
  rw [List.mem_reverse] at h1
  have h2 := (List.dropWhile_sublist _).subset h1
  rwa [List.mem_reverse] at h2
theorem split_mem (c : UInt8) : ∀ (n : Nat) (l : List UInt8), l.length ≤ n → ∀ y ∈ Lib.split l [c], c ∉ y ∧ ∀ d ∈ y, d ∈ l
  | n, l, h, y, hy => by
    rcases first_of c l with h1 | ⟨x, q, rfl, h2⟩
    · rw [split_miss h1, List.mem_singleton] at hy
      subst hy
      exact ⟨h1, fun _ h => h⟩
    · rw [split_hit q h2] at hy
      rcases List.mem_cons.1 hy with rfl | hy
      · exact ⟨h2, fun d hd => List.mem_append_left _ hd⟩
      · cases n with
        | zero => simp at h
        | succ n =>
          obtain ⟨i1, i2⟩ := split_mem c n q (by simp at h; omega) y hy
          exact ⟨i1, fun d hd => List.mem_append_right _ (List.mem_cons_of_mem _ (i2 d hd))⟩
theorem splitT_mem {c : UInt8} {s y : ByteArray} (h : y ∈ splitT c s) : c ∉ y.data.toList ∧ ∀ d ∈ y.data.toList, d ∈ s.data.toList := by
  have : y.data.toList ∈ Lib.split s.data.toList [c] := by
    rw [← splitT_data]
    exact List.mem_map_of_mem h
  exact split_mem c _ _ (Nat.le_refl _) _ this
theorem cutH_mem {c d : UInt8} {s : ByteArray} (h : d ∈ (cutH s ⟨#[c]⟩).data.toList) : d ∈ s.data.toList := by
  rcases first_of c s.data.toList with h1 | ⟨x, r, e, h1⟩
  · rwa [cutH_miss h1] at h
  · rw [cutH_hit r h1 e] at h
    rw [e]
    exact List.mem_append_left _ h

/-- a field that may stand in a line -/
def FldOk (f : ByteArray) : Prop := Trd f.data.toList ∧ (59 : UInt8) ∉ f.data.toList ∧ (35 : UInt8) ∉ f.data.toList ∧ (10 : UInt8) ∉ f.data.toList
/-- a record that a line says -/
def RecOk (r : Nat × Nat × List ByteArray) : Prop := r.1 ≤ r.2.1 ∧ r.2.1 ≤ 1114111 ∧ 1 ≤ r.2.2.length ∧ r.2.2.length ≤ 20 ∧ ∀ f ∈ r.2.2, FldOk f
theorem line_ok {t : ByteArray} {v : Nat × Nat × List ByteArray} (h : (lineB t).2 = some v) (h10 : (10 : UInt8) ∉ t.data.toList) : RecOk v := by
  obtain ⟨_, _, ⟨a, b, he, rfl, hab, hb⟩, h2, h3⟩ := line_some h
  refine ⟨hab, hb, ?_, ?_, fun f hf => ?_⟩
  · show 1 ≤ (partsB t).tail.length
    rw [List.length_tail]; omega
  · show (partsB t).tail.length ≤ 20
    rw [List.length_tail]; omega
  · have hm : f ∈ partsB t := List.mem_of_mem_tail hf
    unfold partsB at hm
    obtain ⟨y, hy, rfl⟩ := List.mem_map.1 hm
    obtain ⟨p1, p2⟩ := splitT_mem hy
    have hb : ∀ d ∈ (bodyB t).data.toList, d ∈ t.data.toList ∧ d ≠ 35 := fun d hd => by
      unfold bodyB at hd
      have h1 := trimS_mem (l := (cutH t ⟨#[35]⟩).data.toList) hd
      exact ⟨cutH_mem h1, fun e => cutH_none 35 t (e ▸ h1)⟩
    refine ⟨trimS_trd _, fun h => p1 (trimS_mem (l := y.data.toList) h), fun h => ?_, fun h => ?_⟩
    · exact (hb _ (p2 _ (trimS_mem (l := y.data.toList) h))).2 rfl
    · exact h10 (hb _ (p2 _ (trimS_mem (l := y.data.toList) h))).1

/-- a record's line -/
def bodyS (r : Nat × Nat × List ByteArray) : List UInt8 := numS r.1 r.2.1 ++ fldS r.2.2
theorem numS_dig {a b : Nat} (ha : a < 2 ^ 24) (hb : b < 2 ^ 24) : (∀ c ∈ numS a b, DigC c ∨ c = 46) ∧ (∃ c, (numS a b).head? = some c ∧ DigC c) ∧ (∃ c, (numS a b).getLast? = some c ∧ DigC c) := by
  obtain ⟨_, a2, a3, _⟩ := codeN_back ha
  obtain ⟨_, b2, b3, _⟩ := codeN_back hb
  unfold numS
  rw [codeS_nat, codeS_nat]
  have hhead : ∀ (l : List UInt8), 4 ≤ l.length → (∀ c ∈ l, DigC c) → ∃ c, l.head? = some c ∧ DigC c := fun l hl h => by
    cases l with
    | nil => simp at hl
    | cons x r => exact ⟨x, rfl, h x (by simp)⟩
  have hlast : ∀ (l : List UInt8), 4 ≤ l.length → (∀ c ∈ l, DigC c) → ∃ c, l.getLast? = some c ∧ DigC c := fun l hl h => by
    have hne : l ≠ [] := fun e => by subst e; simp at hl
    exact ⟨l.getLast hne, List.getLast?_eq_some_getLast hne, h _ (List.getLast_mem hne)⟩
  split
  · exact ⟨fun c hc => .inl (a2 c hc), hhead _ a3 a2, hlast _ a3 a2⟩
  · refine ⟨fun c hc => ?_, ?_, ?_⟩
    · rcases List.mem_append.1 hc with hc | hc
      · exact .inl (a2 c hc)
      · rcases List.mem_cons.1 hc with rfl | hc
        · exact .inr rfl
        · rcases List.mem_cons.1 hc with rfl | hc
          · exact .inr rfl
          · exact .inl (b2 c hc)
    · obtain ⟨c, h1, h2⟩ := hhead _ a3 a2
      refine ⟨c, ?_, h2⟩
      rw [List.head?_append, h1]
      rfl
    · obtain ⟨c, h1, h2⟩ := hlast _ b3 b2
      refine ⟨c, ?_, h2⟩
      rw [List.getLast?_append, List.getLast?_cons_cons, List.getLast?_cons, h1]
      rfl
theorem fldS_split : ∀ (fs : List ByteArray) (x : List UInt8), (59 : UInt8) ∉ x → (∀ f ∈ fs, (59 : UInt8) ∉ f.data.toList) → Lib.split (x ++ fldS fs) [59] = x :: fs.map (·.data.toList)
  | [], x, hx, _ => by
    rw [show fldS [] = [] from rfl, List.append_nil, split_miss hx]
    rfl
  | f :: r, x, hx, h => by
    rw [fldS_cons, List.cons_append, split_hit _ hx, fldS_split r _ (h f (by simp)) (fun g hg => h g (by simp [hg]))]
    rfl
theorem fldS_last : ∀ (fs : List ByteArray) (x : List UInt8), fs ≠ [] → (∀ f ∈ fs, Trd f.data.toList) → ∀ c, (x ++ fldS fs).getLast? = some c → ¬ ([32, 9, 13] : List UInt8).contains c = true
  | [], x, h0, _ => absurd rfl h0
  | f :: r, x, _, h => by
    intro c hc
    by_cases hr : r = []
    · subst hr
      rw [fldS_cons, show fldS [] = [] from rfl, List.append_nil, List.getLast?_append, List.getLast?_cons] at hc
      cases hf : f.data.toList.getLast? with
      | none =>
        rw [hf] at hc
        simp at hc
        subst hc
        decide
      | some d =>
        rw [hf] at hc
        simp at hc
        subst hc
        exact (h f (by simp)).2 d hf
    · rw [fldS_cons, ← List.append_assoc] at hc
      exact fldS_last r _ hr (fun g hg => h g (by simp [hg])) c hc
theorem fldS_mem {fs : List ByteArray} {c : UInt8} (h : c ∈ fldS fs) : c = 59 ∨ ∃ f ∈ fs, c ∈ f.data.toList := by
  unfold fldS at h
  obtain ⟨f, hf, hc⟩ := List.mem_flatMap.1 h
  rcases List.mem_cons.1 hc with hc | hc
  · exact .inl hc
  · exact .inr ⟨f, hf, hc⟩
/-- a record's line says the record -/
theorem line_back {r : Nat × Nat × List ByteArray} (h : RecOk r) : lineB ⟨(bodyS r).toArray⟩ = (0, some r) ∧ (10 : UInt8) ∉ bodyS r := by
  obtain ⟨a, b, fs⟩ := r
  obtain ⟨h1, h2, h3, h4, h5⟩ := h
  dsimp only at h1 h2 h3 h4 h5
  have ha : a < 2 ^ 24 := by have : (1114111 : Nat) < 2 ^ 24 := by decide
                             omega
  have hb : b < 2 ^ 24 := by have : (1114111 : Nat) < 2 ^ 24 := by decide
                             omega
  obtain ⟨n1, ⟨c0, n2, n2'⟩, ⟨c1, n3, n3'⟩⟩ := numS_dig ha hb
  have hne : fs ≠ [] := fun e => by subst e; simp at h3
  have hnot : ∀ c ∈ bodyS (a, b, fs), c ≠ 35 ∧ c ≠ 10 := fun c hc => by
    unfold bodyS at hc
    rcases List.mem_append.1 hc with hc | hc
    · rcases n1 c hc with hd | rfl
      · exact ⟨(dig_not hd).2.2.1, (dig_not hd).2.2.2.1⟩
      · decide
    · rcases fldS_mem hc with rfl | ⟨f, hf, hc⟩
      · decide
      · exact ⟨fun e => (h5 f hf).2.2.1 (e ▸ hc), fun e => (h5 f hf).2.2.2 (e ▸ hc)⟩
  refine ⟨?_, fun h => (hnot _ h).2 rfl⟩
  have htr : Trd (bodyS (a, b, fs)) := by
    refine ⟨fun c hc => ?_, fldS_last fs _ hne (fun f hf => (h5 f hf).1)⟩
    unfold bodyS at hc
    rw [List.head?_append, n2] at hc
    simp at hc
    subst hc
    obtain ⟨_, _, _, _, d1, d2, d3⟩ := dig_not n2'
    simp [d1, d2, d3]
  have hbody : bodyB ⟨(bodyS (a, b, fs)).toArray⟩ = ⟨(bodyS (a, b, fs)).toArray⟩ := by
    unfold bodyB
    rw [cutH_miss (fun h => (hnot 35 h).1 rfl)]
    unfold trimT
    show (⟨(Lib.trimS (bodyS (a, b, fs)) [32, 9, 13]).toArray⟩ : ByteArray) = _
    rw [trimS_id htr]
  have hparts : partsB ⟨(bodyS (a, b, fs)).toArray⟩ = ⟨(numS a b).toArray⟩ :: fs := by
    unfold partsB
    rw [hbody]
    have e : splitT 59 ⟨(bodyS (a, b, fs)).toArray⟩ = ⟨(numS a b).toArray⟩ :: fs := by
      apply (List.map_inj_right (f := fun x : ByteArray => x.data.toList) (fun _ _ => data_inj)).1
      rw [splitT_data]
      show Lib.split (numS a b ++ fldS fs) [59] = numS a b :: fs.map (·.data.toList)
      refine fldS_split fs _ (fun h => ?_) (fun f hf => (h5 f hf).2.1)
      rcases n1 _ h with hd | hd
      · exact (dig_not hd).2.1 rfl
      · exact absurd hd (by decide)
    rw [e, List.map_cons]
    have e1 : trimT ⟨(numS a b).toArray⟩ = ⟨(numS a b).toArray⟩ := by
      unfold trimT
      show (⟨(Lib.trimS (numS a b) [32, 9, 13]).toArray⟩ : ByteArray) = _
      rw [trimS_id]
      refine ⟨fun c hc => ?_, fun c hc => ?_⟩
      · rw [n2] at hc
        injection hc with hc
        subst hc
        obtain ⟨_, _, _, _, d1, d2, d3⟩ := dig_not n2'
        simp [d1, d2, d3]
      · rw [n3] at hc
        injection hc with hc
        subst hc
        obtain ⟨_, _, _, _, d1, d2, d3⟩ := dig_not n3'
        simp [d1, d2, d3]
    rw [e1]
    congr 1
    conv => rhs; rw [← List.map_id fs]
    refine List.map_congr_left fun f hf => ?_
    unfold trimT
    rw [trimS_id (h5 f hf).1]
    rfl
  unfold lineB
  rw [hbody, if_neg, hparts]
  · rw [parse_ok (ends_num ha hb) (by omega) (by rw [List.length_cons]; omega)]
  · intro e
    have : (bodyS (a, b, fs)).head? = none := by
      have := congrArg (fun x : ByteArray => x.data.toList.head?) e
      exact this
    unfold bodyS at this
    rw [List.head?_append, n2] at this
    simp at this
/-- records' print, parted -/
theorem print_split : ∀ (X : List Rc), (∀ x ∈ X, RecOk x.2) → splitT 10 (printB (X.map Rc.z)) = X.map (fun x => (⟨(bodyS x.2).toArray⟩ : ByteArray)) ++ [⟨#[]⟩]
  | [], _ => splitT_miss (by simp [printB, printS])
  | x :: r, h => by
    have ih := print_split r (fun y hy => h y (by simp [hy]))
    have hx := line_back (h x (by simp))
    have e : printB ((x :: r).map Rc.z) = ⟨(bodyS x.2).toArray⟩ ++ ⟨#[10]⟩ ++ printB (r.map Rc.z) := by
      apply data_inj
      simp [printB, printS, recS, bodyS, Rc.z]
    rw [e, splitT_hit hx.2, ih]
    rfl
theorem line_empty : lineB ⟨#[]⟩ = (0, none) := by decide +kernel
/-- the lines' numbers, from n on -/
def renum : Nat → List Rc → List Rc
  | _, [] => []
  | n, x :: r => (n + 1, x.2) :: renum (n + 1) r
theorem go_print : ∀ (X : List Rc) (n : Nat), (∀ x ∈ X, RecOk x.2) → goL (X.map (fun x => (⟨(bodyS x.2).toArray⟩ : ByteArray)) ++ [⟨#[]⟩]) n = (renum n X, 0, 0)
  | [], n, _ => by
    show goL [⟨#[]⟩] n = _
    rw [goL_skip [] n (by rw [line_empty]) (by rw [line_empty])]
    rfl
  | x :: r, n, h => by
    have ih := go_print r (n + 1) (fun y hy => h y (by simp [hy]))
    have hx := line_back (h x (by simp))
    obtain ⟨l, a, b, fs⟩ := x
    rw [List.map_cons, List.cons_append, goL_rec _ n (by rw [hx.1]), ih]
    rfl
theorem cnt_print (X : List Rc) : cntL (X.map (fun x => (⟨(bodyS x.2).toArray⟩ : ByteArray)) ++ [⟨#[]⟩]) ≤ X.length := by
  induction X with
  | nil =>
    show cntL [⟨#[]⟩] ≤ 0
    unfold cntL
    rw [line_empty]
    exact Nat.le_refl _
  | cons x r ih =>
    rw [List.map_cons, List.cons_append, List.length_cons]
    unfold cntL
    split <;> omega
theorem bodyS_size (r : Nat × Nat × List ByteArray) (ha : r.1 < 2 ^ 24) (hb : r.2.1 < 2 ^ 24) : (bodyS r).length ≤ 14 + (fldS r.2.2).length := by
  obtain ⟨_, _, _, a4⟩ := codeN_back ha
  obtain ⟨_, _, _, b4⟩ := codeN_back hb
  unfold bodyS numS
  rw [List.length_append, codeS_nat, codeS_nat]
  split
  · omega
  · rw [List.length_append, List.length_cons, List.length_cons]
    omega
/-- a line's fields are no longer than the line -/
theorem fld_size {t : ByteArray} {v : Nat × Nat × List ByteArray} (h : (lineB t).2 = some v) : (fldS v.2.2).length ≤ t.size := by
  obtain ⟨_, _, ⟨a, b, he, rfl, _⟩, h2, _⟩ := line_some h
  have hb : (bodyB t).size ≤ t.size := Nat.le_trans (trimT_size _) (cut_size _ _).1
  have hs := sizes_split 59 _ (bodyB t) (Nat.le_refl _)
  have key : ∀ L : List ByteArray, (fldS (L.map trimT)).length ≤ sizes L := by
    intro L
    induction L with
    | nil => exact Nat.le_refl _
    | cons y r ih =>
      rw [List.map_cons, fldS_cons, List.length_append]
      unfold sizes at ih ⊢
      rw [List.map_cons, List.sum_cons]
      have := trimT_size y
      have e : (trimT y).data.toList.length = (trimT y).size := rfl
      rw [List.length_cons, e]
      omega
  show (fldS (partsB t).tail).length ≤ t.size
  unfold partsB at h2 ⊢
  cases hq : splitT 59 (bodyB t) with
  | nil => rw [hq] at h2; simp at h2
  | cons x r =>
    rw [hq] at hs
    rw [List.map_cons, List.tail_cons]
    have := key r
    unfold sizes at hs this
    rw [List.map_cons, List.sum_cons] at hs
    omega
/-- records' print is of moderate size -/
theorem print_size : ∀ (L : List ByteArray) (n : Nat), (goL L n).2.2 = 0 → (printS ((goL L n).1.map Rc.z)).length ≤ sizes L + 16 * L.length
  | [], n, _ => Nat.zero_le _
  | t :: r, n, h => by
    unfold sizes
    rw [List.map_cons, List.sum_cons, List.length_cons]
    rcases line_ways t with ⟨h1, h2⟩ | ⟨h1, h2⟩ | ⟨a, b, fs, h1⟩
    · rw [goL_skip r n h1 h2] at h ⊢
      have := print_size r (n + 1) h
      unfold sizes at this
      omega
    · rw [goL_bad r n h1 h2] at h
      exact absurd h h2
    · rw [goL_rec r n h1] at h ⊢
      by_cases h0 : (goL r (n + 1)).2.2 = 0
      · rw [if_pos h0]
        have := print_size r (n + 1) h0
        unfold sizes at this
        have h3 := fld_size h1
        obtain ⟨_, _, ⟨a', b', he, e, hab, hb⟩, _, _⟩ := line_some h1
        injection e with e1 e2
        injection e2 with e2 e3
        subst e1; subst e2
        have hb24 : b < 2 ^ 24 := by have : (1114111 : Nat) < 2 ^ 24 := by decide
                                     omega
        have h4 := bodyS_size (a, b, fs) (by show a < _; omega) hb24
        have e5 : printS (((n + 1, a, b, fs) :: (goL r (n + 1)).1).map Rc.z) = bodyS (a, b, fs) ++ [10] ++ printS ((goL r (n + 1)).1.map Rc.z) := by simp [printS, recS, bodyS, Rc.z]
        rw [e5, List.length_append, List.length_append]
        dsimp only at h3 h4
        simp only [List.length_cons, List.length_nil]
        omega
      · rw [if_neg h0] at h
        exact absurd h h0
/-- records that were parsed are parsed of their print -/
theorem file_back {s : ByteArray} (hs : s.size ≤ 600) (h : (fileB s).2.2 = 0) : (printS ((fileB s).1.map Rc.z)).length ≤ 20000 ∧ fileB (printB ((fileB s).1.map Rc.z)) = (renum 0 (fileB s).1, 0, 0) ∧ ((fileB s).1.map (·.1)).Pairwise (· < ·) := by
  have hf := file_go (s := s) (by omega)
  rw [hf] at h ⊢
  obtain ⟨_, _, i3, i4, i5⟩ := goL_lines (splitT 10 s) 0
  have hok : ∀ x ∈ (goL (splitT 10 s) 0).1, RecOk x.2 := fun x hx => by
    obtain ⟨t, ht, e⟩ := i5 x hx
    exact line_ok e (splitT_mem ht).1
  have hp := print_size (splitT 10 s) 0 h
  have h1 := (splitT_len 10 s).2
  have h2 := cnt_sizes (splitT 10 s)
  rw [sizes_split 10 _ s (Nat.le_refl _)] at h2 hp
  have hpz : (printS ((goL (splitT 10 s) 0).1.map Rc.z)).length ≤ 20000 := by omega
  refine ⟨hpz, ?_, i3⟩
  generalize (goL (splitT 10 s) 0).1 = X at *
  unfold fileB
  rw [if_neg (by unfold printB; rw [size_mk]; omega), print_split X hok, readL_go _ _ _ (by have := cnt_print X; simp only [List.length_nil]; omega), go_print X 0 hok]
  rfl
theorem renum_get : ∀ (X : List Rc) (n k : Nat) (h : k < X.length), (renum n X)[k]? = some (n + k + 1, X[k].2)
  | [], n, k, h => by simp at h
  | x :: r, n, 0, h => rfl
  | x :: r, n, k + 1, h => by
    rw [renum, List.getElem?_cons_succ, renum_get r (n + 1) k (by simpa using h)]
    simp
    omega
theorem renum_len : ∀ (X : List Rc) (n : Nat), (renum n X).length = X.length
  | [], n => rfl
  | x :: r, n => by rw [renum, List.length_cons, List.length_cons, renum_len r]
theorem file_err {s : ByteArray} (hs : s.size ≤ 600) (h : (fileB s).2.2 ≠ 0) : (fileB s).1 = [] := by
  rw [file_go (by omega)] at h ⊢
  exact ((goL_err _ _).2 h).1
end Go.Proofs.YtdmkjchmcgjjmaaDoor
