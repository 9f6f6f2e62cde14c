/- The program's (*reader).one, (*reader).two: bytes are taken. Conditions: the reader's block holds a text and a truth. -/
import Derived.Test.YtibndkkbmgbogaaDoorProg
import Derived.Test.YtibndkkbmgbogaaDoorBase
import Derived.Test.YtibndkkbmgbogaaDoorClone
import Derived.Test.YtibndkkbmgbogaaDoorAdd
import Derived.OwnWalk
import Derived.Outline
namespace Go.Proofs.YtibndkkbmgbogaaDoor
open Go Go.RowKit

/-- what is left, and whether it was too short -/
abbrev RS := List UInt8 × Bool
def rOne : RS → Nat × RS
  | ([], _) => (0, ([], true))
  | (b :: r, bad) => (b.toNat, (r, bad))
def rTwo (s : RS) : Nat × RS := ((rOne s).1 * 256 + (rOne (rOne s).2).1, (rOne (rOne s).2).2)
theorem rOne_lt (s : RS) : (rOne s).1 < 256 := by
  obtain ⟨l, b⟩ := s
  cases l with
  | nil => simp [rOne]
  | cons x l => exact x.toNat_lt
theorem rTwo_lt (s : RS) : (rTwo s).1 < 65536 := by
  have h1 := rOne_lt s
  have h2 := rOne_lt (rOne s).2
  unfold rTwo
  simp only
  omega

def Rd (w : World) (g : Nat) (s : RS) : Prop := Blk w g 89 #[.string ⟨s.1.toArray⟩, .bool s.2]
/-- the reader has gone on; nothing else has turned -/
def Took (w : World) (g : Nat) (n : Nat) (s : RS) (e : Ending) (w' : World) : Prop := e = .returned (.int .i64 (n : Int)) ∧ Rd w' g s ∧ w.grownBy w' (some g) ∧ w'.heap.size = w.heap.size

theorem bytes_cons (b : UInt8) (r : List UInt8) : (⟨(b :: r).toArray⟩ : ByteArray).extract 1 (r.length + 1) = ⟨r.toArray⟩ := by
  apply ByteArray.ext
  simp [ByteArray.data_extract]

set_option maxHeartbeats 400000 in
theorem one_r (g : Nat) (s : RS) (w : World) (h : Rd w g s) (hl : s.1.length ≤ 1000000000) : Calls Tryd.prog 79 #[.pointer (some ⟨g, 0, none⟩)] w (Took w g (rOne s).1 (rOne s).2) := by
  obtain ⟨l, bad⟩ := s
  have c0 := Blk.cell h 0
  have c1 := Blk.cell h 1
  have f0 := Blk.frozen h 0
  have f1 := Blk.frozen h 1
  simp only [List.getElem?_toArray, List.getElem?_cons_zero, List.getElem?_cons_succ] at c0 c1
  cases l with
  | nil =>
    go_enter Tryd.func79, Tryd.ntmps79
    go_wp2
    go_ret
    exact ⟨rfl, by have := Blk.set_ h 1 (.bool true); simpa [Rd, rOne] using this, grownBy_setCell _ _ _ _, by simp⟩
  | cons b r =>
    have he : (⟨(b :: r).toArray⟩ : ByteArray).toList.isEmpty = false := by rw [ByteArray.toList_eq]; rfl
    have hsz : (⟨(b :: r).toArray⟩ : ByteArray).size = r.length + 1 := by show (b :: r).toArray.size = _; simp
    have hx := bytes_cons b r
    have hb0 : ∀ hh, ((⟨(b :: r).toArray⟩ : ByteArray)[0]'hh).toNat = b.toNat := fun _ => rfl
    have hbl := b.toNat_lt
    simp only at hl
    have H := hide h
    clear h
    have e1 : rOne (b :: r, bad) = (b.toNat, (r, bad)) := rfl
    rw [e1]
    clear e1
    generalize (⟨(b :: r).toArray⟩ : ByteArray) = sb at *
    generalize b.toNat = m at *
    go_enter Tryd.func79, Tryd.ntmps79
    go_wp2
    go_ret
    exact ⟨rfl, by have := Blk.set_ H.out 0 (.string ⟨r.toArray⟩); simpa [Rd] using this, grownBy_setCell _ _ _ _, by simp⟩

theorem Took.len {w w' : World} {g n : Nat} {s : RS} {e : Ending} (h : Took w g n s e w') : w'.heap.size = w.heap.size := h.2.2.2
theorem rOne_len (s : RS) : (rOne s).2.1.length ≤ s.1.length := by
  obtain ⟨l, b⟩ := s
  cases l <;> simp [rOne]

set_option maxHeartbeats 400000 in
theorem two_r (g : Nat) (s : RS) (w : World) (h : Rd w g s) (hl : s.1.length ≤ 1000000000) : Calls Tryd.prog 77 #[.pointer (some ⟨g, 0, none⟩)] w (Took w g (rTwo s).1 (rTwo s).2) := by
  have h1 := one_r g s w h hl
  have hlt1 := rOne_lt s
  have hlt2 := rOne_lt (rOne s).2
  have hl2 : (rOne s).2.1.length ≤ 1000000000 := Nat.le_trans (rOne_len s) hl
  have e2 : rTwo s = ((rOne s).1 * 256 + (rOne (rOne s).2).1, (rOne (rOne s).2).2) := rfl
  rw [e2]
  clear e2
  have h2 := fun w1 (q : Rd w1 g (rOne s).2) => one_r g (rOne s).2 w1 q hl2
  generalize (rOne s).1 = a at *
  generalize (rOne s).2 = s1 at *
  generalize (rOne s1).1 = b at *
  generalize (rOne s1).2 = s2 at *
  go_enter Tryd.func77, Tryd.ntmps77
  go_wp2_with fail
  refine h1.mono ?_
  rintro e w1 ⟨rfl, h3, h4, h5⟩
  clear h1
  go_wp2_with fail
  refine (h2 w1 h3).mono ?_
  rintro e w2 ⟨rfl, h6, h7, h8⟩
  clear h2
  go_wp2
  go_ret
  exact ⟨ret_i64 (by omega), h6, h4.trans h7, h8.trans h5⟩
end Go.Proofs.YtibndkkbmgbogaaDoor
