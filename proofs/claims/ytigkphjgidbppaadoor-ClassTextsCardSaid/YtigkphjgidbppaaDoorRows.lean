/-
  NARROWER THAN 'FOR EVERY INPUT', by the rows' own cells (each row's printed sentence says how): ClassNots: laid · ClassSets: laid · ClassUnions: laid · ClassTells: laid · ClassTexts: laid · ClassBack: laid · ClassOthers: laid.
  DERIVED. THE GIVEN ROWS OF THIS SEAT. 7 by the template 'for every input the law returns true; each argument reads behind the call as it read before'; 0 by the template 'total and deterministic' (their statements: YtigkphjgidbppaaDoorTotals.lean).
  GIVEN WITH THE SEED: the statements are not yours to turn. If you find one false, say at which input.
  Laid BY PROGRAM, IN A SANDBOX (cutbox-rows.mjs): the forced cells as the released guide's own fill.sh prints them over the translation d68f83dee1814ba5… (all of the seat's roots in one cut). By AI agents, Wed Nov 11 2026. No macro, syntax, notation, axiom, sorry.
-/
import Derived.Test.YtigkphjgidbppaaDoorChecked
import GoSem.PinnedTables
import GoSem.Claim
import GoSem.ClaimJoined
import GoSem.ClaimMapViews
import Derived.JoinedTies
import Derived.KernelRfl
namespace Go.Proofs.YtigkphjgidbppaaDoor
/- THE CELL 'sum', in the pinned program and in every row, IS THE sha256 OF THE DUMP (.gsa) THAT YtigkphjgidbppaaDoorProg.lean LOADS. Nothing in Lean hashes anything: it is a label: what it is worth is what the hold of that sum in a sandbox is worth. -/
noncomputable def Tryd.pinned : Pinned := { name := "ytigkphjgidbppaadoor", sum := "d68f83dee1814ba5a287ed7b3d6737149ecf91d0f7cf6e9541adc717fc5e46eb", checked := Tryd.checked }
namespace Rows
def none {H : Type} : Left H := { results := [], args := [] }

/- WHAT THE LISTED PACKAGE-LEVEL VARIABLES READ AS WHEN THE CALL BEGINS. Each datum BY PROGRAM (the guide's laid-datum.mjs) off the statement by which the dump's own 'gosem.cut.vars' lays the variable. In a bare row this is a premise. The card (YtigkphjgidbppaaDoorCards.lean) ties it to the program's text. -/
def laid_unicode_utf8_acceptRanges {H : Type} : DataW H := .agg [.agg [.lit (.int .u8 128), .lit (.int .u8 191)], .agg [.lit (.int .u8 160), .lit (.int .u8 191)], .agg [.lit (.int .u8 128), .lit (.int .u8 159)], .agg [.lit (.int .u8 144), .lit (.int .u8 191)], .agg [.lit (.int .u8 128), .lit (.int .u8 143)], .agg [.lit (.int .u8 0), .lit (.int .u8 0)], .agg [.lit (.int .u8 0), .lit (.int .u8 0)], .agg [.lit (.int .u8 0), .lit (.int .u8 0)], .agg [.lit (.int .u8 0), .lit (.int .u8 0)], .agg [.lit (.int .u8 0), .lit (.int .u8 0)], .agg [.lit (.int .u8 0), .lit (.int .u8 0)], .agg [.lit (.int .u8 0), .lit (.int .u8 0)], .agg [.lit (.int .u8 0), .lit (.int .u8 0)], .agg [.lit (.int .u8 0), .lit (.int .u8 0)], .agg [.lit (.int .u8 0), .lit (.int .u8 0)], .agg [.lit (.int .u8 0), .lit (.int .u8 0)]]
def laid_errors_errorType {H : Type} : DataW H := .iface "internal/reflectlite.rtype" (.agg [.ptr (.lit (.string [101, 114, 114, 111, 114]))])
def laid_virama_class_errClass {H : Type} : DataW H := .iface "*errors.errorString" (.ptr (.agg [.lit (.string [110, 111, 32, 115, 101, 116])]))
/-- One of Go's own tables, pinned by name: the form's constant. -/
def laid_unicode_utf8_first : DataW Unit := Go.Pinned.utf8First

/-- 'viramalaw08.ClassNots': WHATEVER THE INPUT: true; the input reads as it did. -/
def classNotsSpec : ChangeSpec := { name := "classNots", fn := fun _ => fun
  | [d1, d2, d3] => { results := [.lit (.bool true)], args := [d1, d2, d3] }
  | _ => none }
def classNotsRow : OpenClaim := { program := "ytigkphjgidbppaadoor", sum := "d68f83dee1814ba5a287ed7b3d6737149ecf91d0f7cf6e9541adc717fc5e46eb", func := "virama/viramalaw08.ClassNots", spec := "classNots", inPlace := ["internal/reflectlite.ValueOf", "(internal/reflectlite.Value).Type", "(internal/reflectlite.Value).IsNil", "internal/reflectlite.TypeOf", "(internal/reflectlite.Value).Elem", "(internal/reflectlite.Value).Set", "internal/abi.NoEscape", "internal/bytealg.MakeNoZero", "internal/bytealg.CountString", "internal/bytealg.IndexByteString", "internal/bytealg.IndexString"], unfollowed := true, recurses := true, named := ["virama/class.errClass", "errors.errorType", "unicode/utf8.first", "unicode/utf8.acceptRanges", "internal/bytealg.MaxLen"], apart := false, laid := [("unicode/utf8.acceptRanges", laid_unicode_utf8_acceptRanges), ("errors.errorType", laid_errors_errorType), ("virama/class.errClass", laid_virama_class_errClass), ("unicode/utf8.first", laid_unicode_utf8_first)] }
def ClassNotsSaid : Prop := classNotsRow.holds Tryd.pinned (OpenSpec.ofChange classNotsSpec)

/-- ITS FALSE NEIGHBOUR: 'it returns false'. Refute it at one input. -/
def classNotsWrong : ChangeSpec := { name := "classNots", fn := fun _ => fun
  | [d1, d2, d3] => { results := [.lit (.bool false)], args := [d1, d2, d3] }
  | _ => none }
def ClassNotsWrongFalsely : Prop := classNotsRow.holds Tryd.pinned (OpenSpec.ofChange classNotsWrong)

/-- 'viramalaw08.ClassSets': WHATEVER THE INPUT: true; the input reads as it did. -/
def classSetsSpec : ChangeSpec := { name := "classSets", fn := fun _ => fun
  | [d1, d2] => { results := [.lit (.bool true)], args := [d1, d2] }
  | _ => none }
def classSetsRow : OpenClaim := { program := "ytigkphjgidbppaadoor", sum := "d68f83dee1814ba5a287ed7b3d6737149ecf91d0f7cf6e9541adc717fc5e46eb", func := "virama/viramalaw08.ClassSets", spec := "classSets", inPlace := ["internal/reflectlite.ValueOf", "(internal/reflectlite.Value).Type", "(internal/reflectlite.Value).IsNil", "internal/reflectlite.TypeOf", "(internal/reflectlite.Value).Elem", "(internal/reflectlite.Value).Set", "internal/abi.NoEscape", "internal/bytealg.MakeNoZero", "internal/bytealg.CountString", "internal/bytealg.IndexByteString", "internal/bytealg.IndexString"], unfollowed := true, recurses := true, named := ["virama/class.errClass", "errors.errorType", "unicode/utf8.first", "unicode/utf8.acceptRanges", "internal/bytealg.MaxLen"], apart := false, laid := [("unicode/utf8.acceptRanges", laid_unicode_utf8_acceptRanges), ("errors.errorType", laid_errors_errorType), ("virama/class.errClass", laid_virama_class_errClass), ("unicode/utf8.first", laid_unicode_utf8_first)] }
def ClassSetsSaid : Prop := classSetsRow.holds Tryd.pinned (OpenSpec.ofChange classSetsSpec)

/-- ITS FALSE NEIGHBOUR: 'it returns false'. Refute it at one input. -/
def classSetsWrong : ChangeSpec := { name := "classSets", fn := fun _ => fun
  | [d1, d2] => { results := [.lit (.bool false)], args := [d1, d2] }
  | _ => none }
def ClassSetsWrongFalsely : Prop := classSetsRow.holds Tryd.pinned (OpenSpec.ofChange classSetsWrong)

/-- 'viramalaw08.ClassUnions': WHATEVER THE INPUT: true; the input reads as it did. -/
def classUnionsSpec : ChangeSpec := { name := "classUnions", fn := fun _ => fun
  | [d1, d2] => { results := [.lit (.bool true)], args := [d1, d2] }
  | _ => none }
def classUnionsRow : OpenClaim := { program := "ytigkphjgidbppaadoor", sum := "d68f83dee1814ba5a287ed7b3d6737149ecf91d0f7cf6e9541adc717fc5e46eb", func := "virama/viramalaw08.ClassUnions", spec := "classUnions", inPlace := ["internal/reflectlite.ValueOf", "(internal/reflectlite.Value).Type", "(internal/reflectlite.Value).IsNil", "internal/reflectlite.TypeOf", "(internal/reflectlite.Value).Elem", "(internal/reflectlite.Value).Set", "internal/abi.NoEscape", "internal/bytealg.MakeNoZero", "internal/bytealg.CountString", "internal/bytealg.IndexByteString", "internal/bytealg.IndexString"], unfollowed := true, recurses := true, named := ["virama/class.errClass", "errors.errorType", "unicode/utf8.first", "unicode/utf8.acceptRanges", "internal/bytealg.MaxLen"], apart := false, laid := [("unicode/utf8.acceptRanges", laid_unicode_utf8_acceptRanges), ("errors.errorType", laid_errors_errorType), ("virama/class.errClass", laid_virama_class_errClass), ("unicode/utf8.first", laid_unicode_utf8_first)] }
def ClassUnionsSaid : Prop := classUnionsRow.holds Tryd.pinned (OpenSpec.ofChange classUnionsSpec)

/-- ITS FALSE NEIGHBOUR: 'it returns false'. Refute it at one input. -/
def classUnionsWrong : ChangeSpec := { name := "classUnions", fn := fun _ => fun
  | [d1, d2] => { results := [.lit (.bool false)], args := [d1, d2] }
  | _ => none }
def ClassUnionsWrongFalsely : Prop := classUnionsRow.holds Tryd.pinned (OpenSpec.ofChange classUnionsWrong)

/-- 'viramalaw08.ClassTells': WHATEVER THE INPUT: true; the input reads as it did. -/
def classTellsSpec : ChangeSpec := { name := "classTells", fn := fun _ => fun
  | [d1, d2, d3, d4] => { results := [.lit (.bool true)], args := [d1, d2, d3, d4] }
  | _ => none }
def classTellsRow : OpenClaim := { program := "ytigkphjgidbppaadoor", sum := "d68f83dee1814ba5a287ed7b3d6737149ecf91d0f7cf6e9541adc717fc5e46eb", func := "virama/viramalaw08.ClassTells", spec := "classTells", inPlace := ["internal/reflectlite.ValueOf", "(internal/reflectlite.Value).Type", "(internal/reflectlite.Value).IsNil", "internal/reflectlite.TypeOf", "(internal/reflectlite.Value).Elem", "(internal/reflectlite.Value).Set", "internal/abi.NoEscape", "internal/bytealg.MakeNoZero", "internal/bytealg.CountString", "internal/bytealg.IndexByteString", "internal/bytealg.IndexString"], unfollowed := true, recurses := true, named := ["virama/class.errClass", "errors.errorType", "unicode/utf8.first", "unicode/utf8.acceptRanges", "internal/bytealg.MaxLen"], apart := false, laid := [("unicode/utf8.acceptRanges", laid_unicode_utf8_acceptRanges), ("errors.errorType", laid_errors_errorType), ("virama/class.errClass", laid_virama_class_errClass), ("unicode/utf8.first", laid_unicode_utf8_first)] }
def ClassTellsSaid : Prop := classTellsRow.holds Tryd.pinned (OpenSpec.ofChange classTellsSpec)

/-- ITS FALSE NEIGHBOUR: 'it returns false'. Refute it at one input. -/
def classTellsWrong : ChangeSpec := { name := "classTells", fn := fun _ => fun
  | [d1, d2, d3, d4] => { results := [.lit (.bool false)], args := [d1, d2, d3, d4] }
  | _ => none }
def ClassTellsWrongFalsely : Prop := classTellsRow.holds Tryd.pinned (OpenSpec.ofChange classTellsWrong)

/-- 'viramalaw08.ClassTexts': WHATEVER THE INPUT: true; the input reads as it did. -/
def classTextsSpec : ChangeSpec := { name := "classTexts", fn := fun _ => fun
  | [d1, d2, d3] => { results := [.lit (.bool true)], args := [d1, d2, d3] }
  | _ => none }
def classTextsRow : OpenClaim := { program := "ytigkphjgidbppaadoor", sum := "d68f83dee1814ba5a287ed7b3d6737149ecf91d0f7cf6e9541adc717fc5e46eb", func := "virama/viramalaw08.ClassTexts", spec := "classTexts", inPlace := ["internal/reflectlite.ValueOf", "(internal/reflectlite.Value).Type", "(internal/reflectlite.Value).IsNil", "internal/reflectlite.TypeOf", "(internal/reflectlite.Value).Elem", "(internal/reflectlite.Value).Set", "internal/abi.NoEscape", "internal/bytealg.MakeNoZero", "internal/bytealg.CountString", "internal/bytealg.IndexByteString", "internal/bytealg.IndexString"], unfollowed := true, recurses := true, named := ["virama/class.errClass", "errors.errorType", "unicode/utf8.first", "unicode/utf8.acceptRanges", "internal/bytealg.MaxLen"], apart := false, laid := [("unicode/utf8.acceptRanges", laid_unicode_utf8_acceptRanges), ("errors.errorType", laid_errors_errorType), ("virama/class.errClass", laid_virama_class_errClass), ("unicode/utf8.first", laid_unicode_utf8_first)] }
def ClassTextsSaid : Prop := classTextsRow.holds Tryd.pinned (OpenSpec.ofChange classTextsSpec)

/-- ITS FALSE NEIGHBOUR: 'it returns false'. Refute it at one input. -/
def classTextsWrong : ChangeSpec := { name := "classTexts", fn := fun _ => fun
  | [d1, d2, d3] => { results := [.lit (.bool false)], args := [d1, d2, d3] }
  | _ => none }
def ClassTextsWrongFalsely : Prop := classTextsRow.holds Tryd.pinned (OpenSpec.ofChange classTextsWrong)

/-- 'viramalaw08.ClassBack': WHATEVER THE INPUT: true; the input reads as it did. -/
def classBackSpec : ChangeSpec := { name := "classBack", fn := fun _ => fun
  | [d1, d2, d3] => { results := [.lit (.bool true)], args := [d1, d2, d3] }
  | _ => none }
def classBackRow : OpenClaim := { program := "ytigkphjgidbppaadoor", sum := "d68f83dee1814ba5a287ed7b3d6737149ecf91d0f7cf6e9541adc717fc5e46eb", func := "virama/viramalaw08.ClassBack", spec := "classBack", inPlace := ["internal/reflectlite.ValueOf", "(internal/reflectlite.Value).Type", "(internal/reflectlite.Value).IsNil", "internal/reflectlite.TypeOf", "(internal/reflectlite.Value).Elem", "(internal/reflectlite.Value).Set", "internal/abi.NoEscape", "internal/bytealg.MakeNoZero", "internal/bytealg.CountString", "internal/bytealg.IndexByteString", "internal/bytealg.IndexString"], unfollowed := true, recurses := true, named := ["virama/class.errClass", "errors.errorType", "unicode/utf8.first", "unicode/utf8.acceptRanges", "internal/bytealg.MaxLen"], apart := false, laid := [("unicode/utf8.acceptRanges", laid_unicode_utf8_acceptRanges), ("errors.errorType", laid_errors_errorType), ("virama/class.errClass", laid_virama_class_errClass), ("unicode/utf8.first", laid_unicode_utf8_first)] }
def ClassBackSaid : Prop := classBackRow.holds Tryd.pinned (OpenSpec.ofChange classBackSpec)

/-- ITS FALSE NEIGHBOUR: 'it returns false'. Refute it at one input. -/
def classBackWrong : ChangeSpec := { name := "classBack", fn := fun _ => fun
  | [d1, d2, d3] => { results := [.lit (.bool false)], args := [d1, d2, d3] }
  | _ => none }
def ClassBackWrongFalsely : Prop := classBackRow.holds Tryd.pinned (OpenSpec.ofChange classBackWrong)

/-- 'viramalaw08.ClassOthers': WHATEVER THE INPUT: true; the input reads as it did. -/
def classOthersSpec : ChangeSpec := { name := "classOthers", fn := fun _ => fun
  | [d1, d2] => { results := [.lit (.bool true)], args := [d1, d2] }
  | _ => none }
def classOthersRow : OpenClaim := { program := "ytigkphjgidbppaadoor", sum := "d68f83dee1814ba5a287ed7b3d6737149ecf91d0f7cf6e9541adc717fc5e46eb", func := "virama/viramalaw08.ClassOthers", spec := "classOthers", inPlace := ["internal/reflectlite.ValueOf", "(internal/reflectlite.Value).Type", "(internal/reflectlite.Value).IsNil", "internal/reflectlite.TypeOf", "(internal/reflectlite.Value).Elem", "(internal/reflectlite.Value).Set", "internal/abi.NoEscape", "internal/bytealg.MakeNoZero", "internal/bytealg.CountString", "internal/bytealg.IndexByteString", "internal/bytealg.IndexString"], unfollowed := true, recurses := true, named := ["virama/class.errClass", "errors.errorType", "unicode/utf8.first", "unicode/utf8.acceptRanges", "internal/bytealg.MaxLen"], apart := false, laid := [("unicode/utf8.acceptRanges", laid_unicode_utf8_acceptRanges), ("errors.errorType", laid_errors_errorType), ("virama/class.errClass", laid_virama_class_errClass), ("unicode/utf8.first", laid_unicode_utf8_first)] }
def ClassOthersSaid : Prop := classOthersRow.holds Tryd.pinned (OpenSpec.ofChange classOthersSpec)

/-- ITS FALSE NEIGHBOUR: 'it returns false'. Refute it at one input. -/
def classOthersWrong : ChangeSpec := { name := "classOthers", fn := fun _ => fun
  | [d1, d2] => { results := [.lit (.bool false)], args := [d1, d2] }
  | _ => none }
def ClassOthersWrongFalsely : Prop := classOthersRow.holds Tryd.pinned (OpenSpec.ofChange classOthersWrong)

/- THE SECOND FORM. 'bulk': how many values and letters a reading holds, each counted each time it is reached (what is shared counts as often as it is met; a slice's spare places count too). A statement '..UptoSaid' is the law's where the arguments, and the package variables that the reading takes, are together of bulk at most 1048576: NARROWER than '..Said'. Prove '..Said' where nothing that the law and all that it calls make is longer than what came in: it says more and counts as full. Else prove '..UptoSaid'. A law counts once. -/
mutual
def uptoBulk {H : Type} : DataW H → Nat
  | .lit (.string bytes) => bytes.length + 1
  | .lit _ => 1
  | .nil => 1
  | .ptr d => uptoBulk d + 1
  | .slice elems spare => uptoBulkAll elems + uptoBulkAll spare + 1
  | .agg parts => uptoBulkAll parts + 1
  | .iface _ d => uptoBulk d + 1
  | .map entries => uptoBulkEntries entries + 1
  | .held _ => 1
def uptoBulkAll {H : Type} : List (DataW H) → Nat
  | [] => 0
  | d :: r => uptoBulk d + uptoBulkAll r
def uptoBulkEntries {H : Type} : List (Lit × DataW H) → Nat
  | [] => 0
  | x :: r => uptoBulkEntry x + uptoBulkEntries r
def uptoBulkEntry {H : Type} : Lit × DataW H → Nat
  | (.string bytes, d) => bytes.length + uptoBulk d + 1
  | (_, d) => uptoBulk d + 1
 end
def uptoSmall : (H : Type) → List (DataW H) → Bool := fun _ ds => decide (uptoBulkAll ds ≤ 1048576)
def OpenSpec.upto (s : _root_.Go.ChangeSpec) : _root_.Go.OpenSpec := { _root_.Go.OpenSpec.ofChange s with cond := some uptoSmall }

/-- 'viramalaw08.ClassNots', WHERE WHAT IT READS IS OF BULK AT MOST 1048576: true; the input reads as it did. -/
def classNotsUptoRow : OpenClaim := { program := "ytigkphjgidbppaadoor", sum := "d68f83dee1814ba5a287ed7b3d6737149ecf91d0f7cf6e9541adc717fc5e46eb", func := "virama/viramalaw08.ClassNots", spec := "classNots", inPlace := ["internal/reflectlite.ValueOf", "(internal/reflectlite.Value).Type", "(internal/reflectlite.Value).IsNil", "internal/reflectlite.TypeOf", "(internal/reflectlite.Value).Elem", "(internal/reflectlite.Value).Set", "internal/abi.NoEscape", "internal/bytealg.MakeNoZero", "internal/bytealg.CountString", "internal/bytealg.IndexByteString", "internal/bytealg.IndexString"], unfollowed := true, recurses := true, named := ["virama/class.errClass", "errors.errorType", "unicode/utf8.first", "unicode/utf8.acceptRanges", "internal/bytealg.MaxLen"], apart := false, laid := [("unicode/utf8.acceptRanges", laid_unicode_utf8_acceptRanges), ("errors.errorType", laid_errors_errorType), ("virama/class.errClass", laid_virama_class_errClass), ("unicode/utf8.first", laid_unicode_utf8_first)], narrowed := true }
def ClassNotsUptoSaid : Prop := classNotsUptoRow.holds Tryd.pinned (OpenSpec.upto classNotsSpec)

/-- 'viramalaw08.ClassSets', WHERE WHAT IT READS IS OF BULK AT MOST 1048576: true; the input reads as it did. -/
def classSetsUptoRow : OpenClaim := { program := "ytigkphjgidbppaadoor", sum := "d68f83dee1814ba5a287ed7b3d6737149ecf91d0f7cf6e9541adc717fc5e46eb", func := "virama/viramalaw08.ClassSets", spec := "classSets", inPlace := ["internal/reflectlite.ValueOf", "(internal/reflectlite.Value).Type", "(internal/reflectlite.Value).IsNil", "internal/reflectlite.TypeOf", "(internal/reflectlite.Value).Elem", "(internal/reflectlite.Value).Set", "internal/abi.NoEscape", "internal/bytealg.MakeNoZero", "internal/bytealg.CountString", "internal/bytealg.IndexByteString", "internal/bytealg.IndexString"], unfollowed := true, recurses := true, named := ["virama/class.errClass", "errors.errorType", "unicode/utf8.first", "unicode/utf8.acceptRanges", "internal/bytealg.MaxLen"], apart := false, laid := [("unicode/utf8.acceptRanges", laid_unicode_utf8_acceptRanges), ("errors.errorType", laid_errors_errorType), ("virama/class.errClass", laid_virama_class_errClass), ("unicode/utf8.first", laid_unicode_utf8_first)], narrowed := true }
def ClassSetsUptoSaid : Prop := classSetsUptoRow.holds Tryd.pinned (OpenSpec.upto classSetsSpec)

/-- 'viramalaw08.ClassUnions', WHERE WHAT IT READS IS OF BULK AT MOST 1048576: true; the input reads as it did. -/
def classUnionsUptoRow : OpenClaim := { program := "ytigkphjgidbppaadoor", sum := "d68f83dee1814ba5a287ed7b3d6737149ecf91d0f7cf6e9541adc717fc5e46eb", func := "virama/viramalaw08.ClassUnions", spec := "classUnions", inPlace := ["internal/reflectlite.ValueOf", "(internal/reflectlite.Value).Type", "(internal/reflectlite.Value).IsNil", "internal/reflectlite.TypeOf", "(internal/reflectlite.Value).Elem", "(internal/reflectlite.Value).Set", "internal/abi.NoEscape", "internal/bytealg.MakeNoZero", "internal/bytealg.CountString", "internal/bytealg.IndexByteString", "internal/bytealg.IndexString"], unfollowed := true, recurses := true, named := ["virama/class.errClass", "errors.errorType", "unicode/utf8.first", "unicode/utf8.acceptRanges", "internal/bytealg.MaxLen"], apart := false, laid := [("unicode/utf8.acceptRanges", laid_unicode_utf8_acceptRanges), ("errors.errorType", laid_errors_errorType), ("virama/class.errClass", laid_virama_class_errClass), ("unicode/utf8.first", laid_unicode_utf8_first)], narrowed := true }
def ClassUnionsUptoSaid : Prop := classUnionsUptoRow.holds Tryd.pinned (OpenSpec.upto classUnionsSpec)

/-- 'viramalaw08.ClassTells', WHERE WHAT IT READS IS OF BULK AT MOST 1048576: true; the input reads as it did. -/
def classTellsUptoRow : OpenClaim := { program := "ytigkphjgidbppaadoor", sum := "d68f83dee1814ba5a287ed7b3d6737149ecf91d0f7cf6e9541adc717fc5e46eb", func := "virama/viramalaw08.ClassTells", spec := "classTells", inPlace := ["internal/reflectlite.ValueOf", "(internal/reflectlite.Value).Type", "(internal/reflectlite.Value).IsNil", "internal/reflectlite.TypeOf", "(internal/reflectlite.Value).Elem", "(internal/reflectlite.Value).Set", "internal/abi.NoEscape", "internal/bytealg.MakeNoZero", "internal/bytealg.CountString", "internal/bytealg.IndexByteString", "internal/bytealg.IndexString"], unfollowed := true, recurses := true, named := ["virama/class.errClass", "errors.errorType", "unicode/utf8.first", "unicode/utf8.acceptRanges", "internal/bytealg.MaxLen"], apart := false, laid := [("unicode/utf8.acceptRanges", laid_unicode_utf8_acceptRanges), ("errors.errorType", laid_errors_errorType), ("virama/class.errClass", laid_virama_class_errClass), ("unicode/utf8.first", laid_unicode_utf8_first)], narrowed := true }
def ClassTellsUptoSaid : Prop := classTellsUptoRow.holds Tryd.pinned (OpenSpec.upto classTellsSpec)

/-- 'viramalaw08.ClassTexts', WHERE WHAT IT READS IS OF BULK AT MOST 1048576: true; the input reads as it did. -/
def classTextsUptoRow : OpenClaim := { program := "ytigkphjgidbppaadoor", sum := "d68f83dee1814ba5a287ed7b3d6737149ecf91d0f7cf6e9541adc717fc5e46eb", func := "virama/viramalaw08.ClassTexts", spec := "classTexts", inPlace := ["internal/reflectlite.ValueOf", "(internal/reflectlite.Value).Type", "(internal/reflectlite.Value).IsNil", "internal/reflectlite.TypeOf", "(internal/reflectlite.Value).Elem", "(internal/reflectlite.Value).Set", "internal/abi.NoEscape", "internal/bytealg.MakeNoZero", "internal/bytealg.CountString", "internal/bytealg.IndexByteString", "internal/bytealg.IndexString"], unfollowed := true, recurses := true, named := ["virama/class.errClass", "errors.errorType", "unicode/utf8.first", "unicode/utf8.acceptRanges", "internal/bytealg.MaxLen"], apart := false, laid := [("unicode/utf8.acceptRanges", laid_unicode_utf8_acceptRanges), ("errors.errorType", laid_errors_errorType), ("virama/class.errClass", laid_virama_class_errClass), ("unicode/utf8.first", laid_unicode_utf8_first)], narrowed := true }
def ClassTextsUptoSaid : Prop := classTextsUptoRow.holds Tryd.pinned (OpenSpec.upto classTextsSpec)

/-- 'viramalaw08.ClassBack', WHERE WHAT IT READS IS OF BULK AT MOST 1048576: true; the input reads as it did. -/
def classBackUptoRow : OpenClaim := { program := "ytigkphjgidbppaadoor", sum := "d68f83dee1814ba5a287ed7b3d6737149ecf91d0f7cf6e9541adc717fc5e46eb", func := "virama/viramalaw08.ClassBack", spec := "classBack", inPlace := ["internal/reflectlite.ValueOf", "(internal/reflectlite.Value).Type", "(internal/reflectlite.Value).IsNil", "internal/reflectlite.TypeOf", "(internal/reflectlite.Value).Elem", "(internal/reflectlite.Value).Set", "internal/abi.NoEscape", "internal/bytealg.MakeNoZero", "internal/bytealg.CountString", "internal/bytealg.IndexByteString", "internal/bytealg.IndexString"], unfollowed := true, recurses := true, named := ["virama/class.errClass", "errors.errorType", "unicode/utf8.first", "unicode/utf8.acceptRanges", "internal/bytealg.MaxLen"], apart := false, laid := [("unicode/utf8.acceptRanges", laid_unicode_utf8_acceptRanges), ("errors.errorType", laid_errors_errorType), ("virama/class.errClass", laid_virama_class_errClass), ("unicode/utf8.first", laid_unicode_utf8_first)], narrowed := true }
def ClassBackUptoSaid : Prop := classBackUptoRow.holds Tryd.pinned (OpenSpec.upto classBackSpec)

/-- 'viramalaw08.ClassOthers', WHERE WHAT IT READS IS OF BULK AT MOST 1048576: true; the input reads as it did. -/
def classOthersUptoRow : OpenClaim := { program := "ytigkphjgidbppaadoor", sum := "d68f83dee1814ba5a287ed7b3d6737149ecf91d0f7cf6e9541adc717fc5e46eb", func := "virama/viramalaw08.ClassOthers", spec := "classOthers", inPlace := ["internal/reflectlite.ValueOf", "(internal/reflectlite.Value).Type", "(internal/reflectlite.Value).IsNil", "internal/reflectlite.TypeOf", "(internal/reflectlite.Value).Elem", "(internal/reflectlite.Value).Set", "internal/abi.NoEscape", "internal/bytealg.MakeNoZero", "internal/bytealg.CountString", "internal/bytealg.IndexByteString", "internal/bytealg.IndexString"], unfollowed := true, recurses := true, named := ["virama/class.errClass", "errors.errorType", "unicode/utf8.first", "unicode/utf8.acceptRanges", "internal/bytealg.MaxLen"], apart := false, laid := [("unicode/utf8.acceptRanges", laid_unicode_utf8_acceptRanges), ("errors.errorType", laid_errors_errorType), ("virama/class.errClass", laid_virama_class_errClass), ("unicode/utf8.first", laid_unicode_utf8_first)], narrowed := true }
def ClassOthersUptoSaid : Prop := classOthersUptoRow.holds Tryd.pinned (OpenSpec.upto classOthersSpec)

end Rows
end Go.Proofs.YtigkphjgidbppaaDoor
