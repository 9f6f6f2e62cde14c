/- Plain: what the law's shown asks. -/
import Derived.Test.YtdmkjchmcgjjmaaDoorParse
import Derived.Test.YtdmkjchmcgjjmaaDoorPrintW
namespace Go.Proofs.YtdmkjchmcgjjmaaDoor
open Go Go.RowKit

theorem sh_line : lineB ⟨#[48, 48, 52, 49, 46, 46, 48, 48, 53, 65, 32, 59, 32, 85, 112, 112, 101, 114, 32, 35, 32, 65, 32, 116, 111, 32, 90]⟩ = (0, some (65, 90, [⟨#[85, 112, 112, 101, 114]⟩])) := by decide +kernel
theorem sh_file : fileB ⟨#[10, 35, 32, 110, 111, 10, 49, 70, 54, 48, 48, 32, 59, 32, 97, 32, 59, 32, 98, 10, 120]⟩ = ([], 4, 21) := by decide +kernel
theorem sh_file2 : fileB ⟨#[48, 48, 52, 49, 59, 97, 10, 48, 48, 52, 50, 46, 46, 48, 48, 52, 49, 59, 98]⟩ = ([], 2, 22) := by decide +kernel
theorem sh_codes : codesB ⟨#[48, 48, 53, 51, 32, 48, 48, 55, 51]⟩ = some [83, 115] := by decide +kernel
theorem sh_print : printB [(0, 65, 90, [⟨#[85, 112, 112, 101, 114]⟩])] = ⟨#[48, 48, 52, 49, 46, 46, 48, 48, 53, 65, 59, 85, 112, 112, 101, 114, 10]⟩ := by decide +kernel
theorem sh_print_len : (printS [(0, 65, 90, [⟨#[85, 112, 112, 101, 114]⟩])]).length ≤ 1000000 := by decide +kernel
end Go.Proofs.YtdmkjchmcgjjmaaDoor
