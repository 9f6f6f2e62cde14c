/- strings.Join of texts by a blank; class.inside; strings.Split by a blank: as the shelf has them. Conditions: the slice reads as the texts. -/
import Derived.Test.YtigkphjgidbppaaDoorShelf
import Derived.Test.YtigkphjgidbppaaDoorBase
import Derived.WalkKit
namespace Go.Proofs.YtigkphjgidbppaaDoor
open Go Go.RowKit

/-- texts, joined by blanks -/
def joinB (xs : List ByteArray) : ByteArray := ⟨(Lib.join (xs.map (·.data.toList)) [32]).toArray⟩

theorem join_any (A : Option Addr) (n c : Nat) (xs : List ByteArray) (w : World) (hr : Rds w w.heap.size 1 A n (strCells xs)) (hc : n ≤ c) (hlen : (joinB xs).size ≤ 140737488355328) (hn : n ≤ 140737488355328) :
    Calls Tryd.prog 52 #[.slice A n c, .string ⟨#[32]⟩] w (Freed w (.string (joinB xs))) := by
  obtain rfl := hr.str_len
  by_cases h0 : xs.length = 0
  · obtain rfl : xs = [] := List.length_eq_zero_iff.1 h0
    refine (Tryd.strings_Join_none A c _ w).mono ?_
    rintro e w' ⟨rfl, rfl⟩
    exact ⟨rfl, Below.refl _ _⟩
  · obtain ⟨b, o, rfl, hb, -⟩ := hr.str (k := 0) (by omega)
    refine (Tryd.strings_Join b o c xs _ w (fun j x hj => ?_) hb hn hc ?_).mono ?_
    · obtain ⟨hj2, rfl⟩ := List.getElem?_eq_some_iff.1 hj
      obtain ⟨b', o', e, _, h⟩ := hr.str hj2
      injection e with e
      injection e with e1 e2
      subst e1 e2
      exact h
    · simpa [joinB, ByteArray.size] using hlen
    · rintro e w' ⟨rfl, h⟩
      exact ⟨rfl, h⟩
end Go.Proofs.YtigkphjgidbppaaDoor
