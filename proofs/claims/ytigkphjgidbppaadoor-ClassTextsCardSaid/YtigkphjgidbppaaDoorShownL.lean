/- Plain: what the law's shown asks, at the names A, B, C, D. -/
import Derived.Test.YtigkphjgidbppaaDoorParseP
namespace Go.Proofs.YtigkphjgidbppaaDoor
open Go Go.RowKit

/-- the names A, B, C, D -/
def n4 : List ByteArray := [⟨#[65]⟩, ⟨#[66]⟩, ⟨#[67]⟩, ⟨#[68]⟩]
theorem n4_names : namesB n4 = true := (names_iff n4).2 ⟨by decide, by decide, by decide, by decide⟩
theorem sh_print5 : printB 5 n4 = ⟨#[91, 65, 32, 67, 93]⟩ := by decide +kernel
theorem sh_print7 : printB 7 n4 = ⟨#[91, 94, 68, 93]⟩ := by decide +kernel
theorem sh_parse6 : parseB ⟨#[91, 94, 68, 32, 65, 93]⟩ n4 = (6, 0) := by decide +kernel
theorem sh_parse70 : parseB ⟨#[91, 65, 32, 65, 93]⟩ n4 = (0, 70) := by decide +kernel
theorem sh_of : ofB [2, 0, 2] = (5, 0) := by decide +kernel
theorem sh_has : hasB 5 2 = true := by decide +kernel
theorem sh_not : notB 5 4 = 10 := by decide +kernel
theorem sh_right5 : rightB 5 n4.length = true := by decide +kernel
theorem sh_right7 : rightB 7 n4.length = true := by decide +kernel
theorem sh_P5 : PrintB 5 n4 = (⟨#[91, 65, 32, 67, 93]⟩, 0) := by unfold PrintB; rw [if_pos n4_names, if_pos sh_right5, sh_print5]
theorem sh_P7 : PrintB 7 n4 = (⟨#[91, 94, 68, 93]⟩, 0) := by unfold PrintB; rw [if_pos n4_names, if_pos sh_right7, sh_print7]
theorem sh_Q6 : ParseB ⟨#[91, 94, 68, 32, 65, 93]⟩ n4 = (6, 0) := by unfold ParseB; rw [if_pos n4_names, sh_parse6]
theorem sh_Q70 : ParseB ⟨#[91, 65, 32, 65, 93]⟩ n4 = (0, 70) := by unfold ParseB; rw [if_pos n4_names, sh_parse70]
end Go.Proofs.YtigkphjgidbppaaDoor
