/- slices.Clone of a list of numbers. Conditions: the slice reads as a list that is not empty. -/
import Derived.Test.YtibndkkbmgbogaaDoorProg
import Derived.Test.YtibndkkbmgbogaaDoorBase
import Derived.Maps.AppendAt
import Derived.WalkSpells
namespace Go.Proofs.YtibndkkbmgbogaaDoor
open Go Go.RowKit

theorem info3 : (Tryd.prog.info? 3).map (fun i => (i.zero, i.size, i.bytes)) = some (some (.int .i64 0), 1, 8) := by kernel_rfl

def Made (w : World) (n : Nat) (l : List Int) (e : Ending) (w' : World) : Prop := ∃ g cap, e = .returned (.slice (some ⟨g, 0, none⟩) n cap) ∧ w'.ownsRow w.heap.size 3 1 (.slice (some ⟨g, 0, none⟩) n cap) n (intCells l) ∧ Below w.heap.size w w'

theorem own_some {w : World} {base e size n : Nat} {v : Value} {xs : List Value} (h : w.ownsRow base e size v n xs) (hn : 0 < n) : ∃ g cap, v = .slice (some ⟨g, 0, none⟩) n cap := by
  rcases h.2 with ⟨_, h0⟩ | ⟨g, cap, cur, rfl, _⟩
  · omega
  · exact ⟨g, cap, rfl⟩

/-- a row of one's own is read -/
theorem own_rds {w : World} {base B size n : Nat} {e : TypeId} {v : Value} {xs : List Value} (h : w.ownsRow base e size v n xs) (hB : w.heap.size ≤ B) (hn : n ≤ 9223372036854775807) :
    ∃ A c, v = .slice A n c ∧ n ≤ c ∧ Rds w B size A n xs := by
  rcases h.2 with ⟨rfl, rfl⟩ | ⟨g, cap, cur, rfl, hg, hh, h1, h2, h3, h4⟩
  · exact ⟨none, 0, rfl, Nat.le_refl _, h.1, by omega, fun h0 => by omega⟩
  · refine ⟨_, cap, rfl, h1, h.1, hn, fun _ => ⟨g, 0, rfl, by have := (Array.getElem?_eq_some_iff.1 hh).1; omega, fun j u hu => ?_⟩⟩
    rw [Nat.zero_add, cell_of_row w g j cur e (0, 0) hh]
    rw [← h4, List.getElem?_take] at hu
    split at hu
    · simpa using hu
    · cases hu
set_option maxRecDepth 100000 in
set_option maxHeartbeats 400000 in
theorem clone_any (b o n c : Nat) (l : List Int) (w : World) (hr : Rds w w.heap.size 1 (some ⟨b, o, none⟩) n (intCells l)) (h0 : 0 < n) (hl : n ≤ 1000000) :
    Calls Tryd.prog 70 #[.slice (some ⟨b, o, none⟩) n c] w (Made w n l) := by
  obtain rfl := hr.int_len
  obtain ⟨i0, hi, hz0, hz1, hz2⟩ := info_parts info3
  have hcells : ∀ j u, (intCells l)[j]? = some u → (w.alloc (.cells #[] 3)).cell? ((⟨b, o, none⟩ : Addr).add j) = some u := by
    intro j u hu
    obtain ⟨b', o', e, hb, hc⟩ := hr.2.2 h0
    injection e with e
    injection e with e1 e2
    subst e1; subst e2
    have : (⟨b, o, none⟩ : Addr).add j = ⟨b, o + j, none⟩ := by unfold Addr.add; split <;> simp_all
    rw [this, World.cell?_alloc_lt _ _ _ hb]
    exact hc j u hu
  have hown : (w.alloc (.cells #[] 3)).ownsRow w.heap.size 3 1 (.slice (some ⟨w.heap.size, 0, none⟩) 0 0) 0 [] := World.ownsRow_made w #[] 0 (Nat.le_refl _) (by decide) (by simp)
  have hone : ∀ u ∈ intCells l, u.oneCell' = true := by intro u hu; simp [intCells] at hu; obtain ⟨x, _, rfl⟩ := hu; rfl
  have hnil := fun W : World => Lib.run_eql_slice_nil (P := Tryd.prog) W 24 3 (some ⟨b, o, none⟩) l.length c 0 0 Tryd.underlying24
  go_enter Tryd.func70, Tryd.ntmps70
  go_wp2_with (at_builtin; refine wpList_append_own_at _ rfl (.tmp 5) (.tmp 6) 24 rfl w.heap.size 3 i0 (.int .i64 0) 1 8 Tryd.underlying24 hi hz0 hz1 hz2 rfl (by decide) _ _ _ rfl hown ⟨b, o, none⟩ l.length c (intCells l) rfl (by simp [intCells]) hcells hone (by unfold maxLen; omega) (by omega) (by simp) ?_; intro v' w1 hown1 hgrow1 _ hblk1)
  simp only [Nat.zero_add, List.nil_append] at hown1
  obtain ⟨g, cap, rfl⟩ := own_some hown1 h0
  go_ret
  have hb0 : Below w.heap.size w (w.alloc (.cells #[] 3)) := (Below.refl _ _).alloc (Nat.le_refl _) _
  exact ⟨g, cap, rfl, hown1, hb0.grown hgrow1 (by simp) (by intro k e; cases e; exact Nat.le_refl _)⟩

end Go.Proofs.YtibndkkbmgbogaaDoor
