/- Plain: hexadecimal digits; the map of their numbers; a code's number. No program in sight. -/
import Derived.Maps.Views
import Derived.Test.YtdmkjchmcgjjmaaDoorBase
namespace Go.Proofs.YtdmkjchmcgjjmaaDoor
open Go Go.RowKit

/-- a rune's number as a digit -/
def hexV (v : Int) : Option Nat :=
  if 48 ≤ v ∧ v ≤ 57 then some (v - 48).toNat else if 97 ≤ v ∧ v ≤ 102 then some (v - 87).toNat else if 65 ≤ v ∧ v ≤ 70 then some (v - 55).toNat else none
/-- the digits' runes and numbers, as they are laid -/
def hexA : List (Int × Int) := [(48, 0), (49, 1), (50, 2), (51, 3), (52, 4), (53, 5), (54, 6), (55, 7), (56, 8), (57, 9), (97, 10), (98, 11), (99, 12), (100, 13), (101, 14), (102, 15)]
def hexU : List (Int × Int) := [(65, 10), (66, 11), (67, 12), (68, 13), (69, 14), (70, 15)]

def keyI (v : Int) : Lit := .int .i32 v
theorem keyI_inj {a b : Int} (h : keyI a = keyI b) : a = b := by
  unfold keyI at h
  simpa using h
theorem keyI_lit (v : Int) : WideAt.IsKeyLit (keyI v) := by
  unfold keyI
  simp [WideAt.IsKeyLit]
theorem snocInd {α : Type} {p : List α → Prop} (h0 : p []) (h1 : ∀ l x, p l → p (l ++ [x])) (l : List α) : p l := by
  rw [← List.reverse_reverse l]
  induction l.reverse with
  | nil => exact h0
  | cons x r ih => rw [List.reverse_cons]; exact h1 _ _ ih

/-- the map after so many pairs -/
def mapI (ys : List (Int × Int)) : DataW Unit := ys.foldl (fun D p => D.put (.int .i32 p.1) (.lit (.int .i64 p.2))) (.map [])
theorem mapI_snoc (ys : List (Int × Int)) (p : Int × Int) : mapI (ys ++ [p]) = (mapI ys).put (.int .i32 p.1) (.lit (.int .i64 p.2)) := by simp [mapI]
theorem mapI_tidy (ys : List (Int × Int)) : Maps.Tidy (mapI ys) := by
  induction ys using snocInd with
  | h0 => exact Maps.tidy_empty
  | h1 ys p ih => rw [mapI_snoc]; exact ih.put (keyI_lit p.1) _
theorem mapI_has (ys : List (Int × Int)) (v : Int) : Maps.has (mapI ys) (keyI v) = true ↔ v ∈ ys.map Prod.fst := by
  induction ys using snocInd with
  | h0 => simp [mapI, Maps.has]
  | h1 ys p ih =>
    rw [mapI_snoc, List.map_append, List.mem_append]
    by_cases h : p.1 = v
    · subst h
      rw [show Lit.int .i32 p.1 = keyI p.1 from rfl, Maps.has_put_same (mapI_tidy ys).isMap (keyI_lit _)]
      simp
    · rw [show Lit.int .i32 p.1 = keyI p.1 from rfl, Maps.has_put_other (fun e => h (keyI_inj e).symm), ih]
      simp [Ne.symm h]
theorem mapI_at (ys : List (Int × Int)) (hn : (ys.map Prod.fst).Nodup) (z : DataW Unit) (p : Int × Int) (hp : p ∈ ys) : (mapI ys).atKey (keyI p.1) z = .lit (.int .i64 p.2) := by
  induction ys using snocInd with
  | h0 => cases hp
  | h1 ys q ih =>
    rw [mapI_snoc]
    rw [List.map_append, List.map_cons, List.map_nil, List.nodup_append] at hn
    by_cases h : p ∈ ys
    · have hne : keyI p.1 ≠ Lit.int .i32 q.1 := fun e => hn.2.2 _ (List.mem_map_of_mem h) _ (List.mem_singleton.2 rfl) (keyI_inj e)
      rw [Maps.atKey_put_other hne]
      exact ih hn.1 h
    · rw [List.mem_append, List.mem_singleton] at hp
      rcases hp with hp | rfl
      · exact absurd hp h
      · exact Maps.atKey_put_same (mapI_tidy ys).isMap (keyI_lit _) _ z

theorem hex_mem (v : Int) : (∃ d : Nat, hexV v = some d ∧ (v, (d : Int)) ∈ hexA ++ hexU) ∨ (hexV v = none ∧ v ∉ (hexA ++ hexU).map Prod.fst) := by
  by_cases h1 : 48 ≤ v ∧ v ≤ 57
  · left
    obtain ⟨n, rfl⟩ : ∃ n : Nat, v = n := ⟨v.toNat, by omega⟩
    have h : n = 48 ∨ n = 49 ∨ n = 50 ∨ n = 51 ∨ n = 52 ∨ n = 53 ∨ n = 54 ∨ n = 55 ∨ n = 56 ∨ n = 57 := by omega
    rcases h with rfl | rfl | rfl | rfl | rfl | rfl | rfl | rfl | rfl | rfl <;> exact ⟨_, rfl, by decide⟩
  · by_cases h2 : 97 ≤ v ∧ v ≤ 102
    · left
      obtain ⟨n, rfl⟩ : ∃ n : Nat, v = n := ⟨v.toNat, by omega⟩
      have h : n = 97 ∨ n = 98 ∨ n = 99 ∨ n = 100 ∨ n = 101 ∨ n = 102 := by omega
      rcases h with rfl | rfl | rfl | rfl | rfl | rfl <;> exact ⟨_, rfl, by decide⟩
    · by_cases h3 : 65 ≤ v ∧ v ≤ 70
      · left
        obtain ⟨n, rfl⟩ : ∃ n : Nat, v = n := ⟨v.toNat, by omega⟩
        have h : n = 65 ∨ n = 66 ∨ n = 67 ∨ n = 68 ∨ n = 69 ∨ n = 70 := by omega
        rcases h with rfl | rfl | rfl | rfl | rfl | rfl <;> exact ⟨_, rfl, by decide⟩
      · right
        refine ⟨by unfold hexV; rw [if_neg h1, if_neg h2, if_neg h3], ?_⟩
        simp [hexA, hexU]
        omega
theorem hex_has (v : Int) : Maps.has (mapI (hexA ++ hexU)) (keyI v) = (hexV v).isSome := by
  rcases hex_mem v with ⟨d, h1, h2⟩ | ⟨h1, h2⟩
  · rw [h1, (mapI_has _ v).2 (List.mem_map_of_mem h2 (f := Prod.fst))]
    rfl
  · rw [h1, Bool.eq_false_iff.2 (fun e => h2 ((mapI_has _ v).1 e))]
    rfl
theorem hex_at (v : Int) (c : Int) (h : (mapI (hexA ++ hexU)).atKey (keyI v) (.lit (.int .i64 0)) = .lit (.int .i64 c)) : c = (((hexV v).getD 0 : Nat) : Int) := by
  rcases hex_mem v with ⟨d, h1, h2⟩ | ⟨h1, h2⟩
  · rw [mapI_at _ (by decide) _ (v, (d : Int)) h2] at h
    rw [h1]
    simpa using h.symm
  · rw [Maps.atKey_of_not_has (by rw [hex_has, h1]; rfl)] at h
    rw [h1]
    simpa using h.symm
theorem hex_lt {v : Int} {d : Nat} (h : hexV v = some d) : d < 16 := by
  unfold hexV at h
  split at h
  · injection h; omega
  · split at h
    · injection h; omega
    · split at h
      · injection h; omega
      · cases h

/-- bytes' number, behind n -/
def foldX : List UInt8 → Nat → Option Nat
  | [], n => some n
  | b :: r, n => match hexV (b.toNat : Int) with
    | none => none
    | some d => foldX r (n * 16 + d)
/-- a code's number -/
def codeB (s : ByteArray) : Option Nat := if 4 ≤ s.size ∧ s.size ≤ 6 then foldX s.data.toList 0 else none
theorem foldX_lt : ∀ (l : List UInt8) (n k : Nat) (j : Nat), n < 16 ^ j → foldX l n = some k → k < 16 ^ (j + l.length)
  | [], n, k, j, h, e => by
    simp only [foldX, Option.some.injEq] at e
    subst e
    simpa using h
  | b :: r, n, k, j, h, e => by
    unfold foldX at e
    cases hd : hexV (b.toNat : Int) with
    | none => rw [hd] at e; cases e
    | some d =>
      rw [hd] at e
      have h1 := hex_lt hd
      have h2 : n * 16 + d < 16 ^ (j + 1) := by rw [Nat.pow_succ]; omega
      have := foldX_lt r _ k (j + 1) h2 e
      rw [List.length_cons]
      rwa [show j + (r.length + 1) = j + 1 + r.length by omega]
theorem codeB_lt {s : ByteArray} {k : Nat} (h : codeB s = some k) : k < 2 ^ 24 := by
  unfold codeB at h
  split at h
  · rename_i hs
    have h1 := foldX_lt _ 0 k 0 (by decide) h
    have h2 : s.data.toList.length = s.size := rfl
    rw [Nat.zero_add, h2] at h1
    have h3 : 16 ^ s.size ≤ 16 ^ 6 := Nat.pow_le_pow_right (by omega) hs.2
    omega
  · cases h
end Go.Proofs.YtdmkjchmcgjjmaaDoor
