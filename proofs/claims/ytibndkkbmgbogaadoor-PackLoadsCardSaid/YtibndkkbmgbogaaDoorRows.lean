/-
  NARROWER THAN 'FOR EVERY INPUT', by the rows' own cells (each row's printed sentence says how): TrieRows: laid · TrieTwo: laid · TrieTells: laid · TrieLeast: laid · PackLoads: laid · PackWhole: laid · PackSums: laid · PackRuns: laid · PackMakes: laid · PackByte: laid · PackBack: laid.
  DERIVED. THE GIVEN ROWS OF THIS SEAT. 11 by the template 'for every input the law returns true; each argument reads behind the call as it read before'; 0 by the template 'total and deterministic' (their statements: YtibndkkbmgbogaaDoorTotals.lean).
  GIVEN WITH THE SEED: the statements are not yours to turn. If you find one false, say at which input.
  Laid BY PROGRAM, IN A SANDBOX (cutbox-rows.mjs): the forced cells as the released guide's own fill.sh prints them over the translation e07c90182daabf6e… (all of the seat's roots in one cut). By AI agents, Wed Nov 11 2026. No macro, syntax, notation, axiom, sorry.
-/
import Derived.Test.YtibndkkbmgbogaaDoorChecked
import GoSem.Claim
import GoSem.ClaimJoined
import GoSem.ClaimMapViews
import Derived.JoinedTies
import Derived.KernelRfl
namespace Go.Proofs.YtibndkkbmgbogaaDoor
/- THE CELL 'sum', in the pinned program and in every row, IS THE sha256 OF THE DUMP (.gsa) THAT YtibndkkbmgbogaaDoorProg.lean LOADS. Nothing in Lean hashes anything: it is a label: what it is worth is what the hold of that sum in a sandbox is worth. -/
noncomputable def Tryd.pinned : Pinned := { name := "ytibndkkbmgbogaadoor", sum := "e07c90182daabf6e109e195635b1ea4d81068e68874b006d982224ee097fb81f", checked := Tryd.checked }
namespace Rows
def none {H : Type} : Left H := { results := [], args := [] }

/- WHAT THE LISTED PACKAGE-LEVEL VARIABLES READ AS WHEN THE CALL BEGINS. Each datum BY PROGRAM (the guide's laid-datum.mjs) off the statement by which the dump's own 'gosem.cut.vars' lays the variable. In a bare row this is a premise. The card (YtibndkkbmgbogaaDoorCards.lean) ties it to the program's text. -/
def laid_virama_trie_errTrie {H : Type} : DataW H := .iface "*errors.errorString" (.ptr (.agg [.lit (.string [110, 111, 32, 116, 114, 105, 101])]))
def laid_virama_trie_errRange {H : Type} : DataW H := .iface "*errors.errorString" (.ptr (.agg [.lit (.string [110, 111, 32, 109, 97, 112])]))
def laid_errors_errorType {H : Type} : DataW H := .iface "internal/reflectlite.rtype" (.agg [.ptr (.lit (.string [101, 114, 114, 111, 114]))])
def laid_virama_pack_errPack {H : Type} : DataW H := .iface "*errors.errorString" (.ptr (.agg [.lit (.string [110, 111, 32, 112, 97, 99, 107])]))

/-- 'viramalaw06.TrieRows': WHATEVER THE INPUT: true; the input reads as it did. -/
def trieRowsSpec : ChangeSpec := { name := "trieRows", fn := fun _ => fun
  | [d1, d2, d3, d4] => { results := [.lit (.bool true)], args := [d1, d2, d3, d4] }
  | _ => none }
def trieRowsRow : OpenClaim := { program := "ytibndkkbmgbogaadoor", sum := "e07c90182daabf6e109e195635b1ea4d81068e68874b006d982224ee097fb81f", func := "virama/viramalaw06.TrieRows", spec := "trieRows", inPlace := ["internal/reflectlite.TypeOf"], unfollowed := true, recurses := true, named := ["virama/trie.errRange", "virama/trie.errTrie"], plainKeys := false, apart := false, laid := [("virama/trie.errTrie", laid_virama_trie_errTrie), ("virama/trie.errRange", laid_virama_trie_errRange)] }
def TrieRowsSaid : Prop := trieRowsRow.holds Tryd.pinned (OpenSpec.ofChange trieRowsSpec)

/-- ITS FALSE NEIGHBOUR: 'it returns false'. Refute it at one input. -/
def trieRowsWrong : ChangeSpec := { name := "trieRows", fn := fun _ => fun
  | [d1, d2, d3, d4] => { results := [.lit (.bool false)], args := [d1, d2, d3, d4] }
  | _ => none }
def TrieRowsWrongFalsely : Prop := trieRowsRow.holds Tryd.pinned (OpenSpec.ofChange trieRowsWrong)

/-- 'viramalaw06.TrieTwo': WHATEVER THE INPUT: true; the input reads as it did. -/
def trieTwoSpec : ChangeSpec := { name := "trieTwo", fn := fun _ => fun
  | [d1, d2] => { results := [.lit (.bool true)], args := [d1, d2] }
  | _ => none }
def trieTwoRow : OpenClaim := { program := "ytibndkkbmgbogaadoor", sum := "e07c90182daabf6e109e195635b1ea4d81068e68874b006d982224ee097fb81f", func := "virama/viramalaw06.TrieTwo", spec := "trieTwo", inPlace := ["internal/reflectlite.TypeOf"], unfollowed := true, recurses := true, named := ["virama/trie.errRange", "virama/trie.errTrie"], plainKeys := false, apart := false, laid := [("virama/trie.errTrie", laid_virama_trie_errTrie), ("virama/trie.errRange", laid_virama_trie_errRange)] }
def TrieTwoSaid : Prop := trieTwoRow.holds Tryd.pinned (OpenSpec.ofChange trieTwoSpec)

/-- ITS FALSE NEIGHBOUR: 'it returns false'. Refute it at one input. -/
def trieTwoWrong : ChangeSpec := { name := "trieTwo", fn := fun _ => fun
  | [d1, d2] => { results := [.lit (.bool false)], args := [d1, d2] }
  | _ => none }
def TrieTwoWrongFalsely : Prop := trieTwoRow.holds Tryd.pinned (OpenSpec.ofChange trieTwoWrong)

/-- 'viramalaw06.TrieTells': WHATEVER THE INPUT: true; the input reads as it did. -/
def trieTellsSpec : ChangeSpec := { name := "trieTells", fn := fun _ => fun
  | [d1, d2] => { results := [.lit (.bool true)], args := [d1, d2] }
  | _ => none }
def trieTellsRow : OpenClaim := { program := "ytibndkkbmgbogaadoor", sum := "e07c90182daabf6e109e195635b1ea4d81068e68874b006d982224ee097fb81f", func := "virama/viramalaw06.TrieTells", spec := "trieTells", inPlace := ["internal/reflectlite.TypeOf"], unfollowed := true, recurses := true, named := ["virama/trie.errRange", "virama/trie.errTrie"], plainKeys := false, apart := false, laid := [("virama/trie.errTrie", laid_virama_trie_errTrie), ("virama/trie.errRange", laid_virama_trie_errRange)] }
def TrieTellsSaid : Prop := trieTellsRow.holds Tryd.pinned (OpenSpec.ofChange trieTellsSpec)

/-- ITS FALSE NEIGHBOUR: 'it returns false'. Refute it at one input. -/
def trieTellsWrong : ChangeSpec := { name := "trieTells", fn := fun _ => fun
  | [d1, d2] => { results := [.lit (.bool false)], args := [d1, d2] }
  | _ => none }
def TrieTellsWrongFalsely : Prop := trieTellsRow.holds Tryd.pinned (OpenSpec.ofChange trieTellsWrong)

/-- 'viramalaw06.TrieLeast': WHATEVER THE INPUT: true; the input reads as it did. -/
def trieLeastSpec : ChangeSpec := { name := "trieLeast", fn := fun _ => fun
  | [d] => { results := [.lit (.bool true)], args := [d] }
  | _ => none }
def trieLeastRow : OpenClaim := { program := "ytibndkkbmgbogaadoor", sum := "e07c90182daabf6e109e195635b1ea4d81068e68874b006d982224ee097fb81f", func := "virama/viramalaw06.TrieLeast", spec := "trieLeast", inPlace := ["internal/reflectlite.TypeOf"], unfollowed := true, recurses := true, named := ["virama/trie.errRange", "virama/trie.errTrie"], plainKeys := false, apart := false, laid := [("virama/trie.errTrie", laid_virama_trie_errTrie), ("virama/trie.errRange", laid_virama_trie_errRange)] }
def TrieLeastSaid : Prop := trieLeastRow.holds Tryd.pinned (OpenSpec.ofChange trieLeastSpec)

/-- ITS FALSE NEIGHBOUR: 'it returns false'. Refute it at one input. -/
def trieLeastWrong : ChangeSpec := { name := "trieLeast", fn := fun _ => fun
  | [d] => { results := [.lit (.bool false)], args := [d] }
  | _ => none }
def TrieLeastWrongFalsely : Prop := trieLeastRow.holds Tryd.pinned (OpenSpec.ofChange trieLeastWrong)

/-- 'viramalaw07.PackLoads': WHATEVER THE INPUT: true; the input reads as it did. -/
def packLoadsSpec : ChangeSpec := { name := "packLoads", fn := fun _ => fun
  | [d] => { results := [.lit (.bool true)], args := [d] }
  | _ => none }
def packLoadsRow : OpenClaim := { program := "ytibndkkbmgbogaadoor", sum := "e07c90182daabf6e109e195635b1ea4d81068e68874b006d982224ee097fb81f", func := "virama/viramalaw07.PackLoads", spec := "packLoads", inPlace := ["internal/reflectlite.ValueOf", "(internal/reflectlite.Value).Type", "(internal/reflectlite.Value).IsNil", "internal/reflectlite.TypeOf", "(internal/reflectlite.Value).Elem", "(internal/reflectlite.Value).Set"], unfollowed := true, recurses := true, named := ["virama/pack.errPack", "errors.errorType"], plainKeys := false, apart := false, laid := [("errors.errorType", laid_errors_errorType), ("virama/pack.errPack", laid_virama_pack_errPack)] }
def PackLoadsSaid : Prop := packLoadsRow.holds Tryd.pinned (OpenSpec.ofChange packLoadsSpec)

/-- ITS FALSE NEIGHBOUR: 'it returns false'. Refute it at one input. -/
def packLoadsWrong : ChangeSpec := { name := "packLoads", fn := fun _ => fun
  | [d] => { results := [.lit (.bool false)], args := [d] }
  | _ => none }
def PackLoadsWrongFalsely : Prop := packLoadsRow.holds Tryd.pinned (OpenSpec.ofChange packLoadsWrong)

/-- 'viramalaw07.PackWhole': WHATEVER THE INPUT: true; the input reads as it did. -/
def packWholeSpec : ChangeSpec := { name := "packWhole", fn := fun _ => fun
  | [d] => { results := [.lit (.bool true)], args := [d] }
  | _ => none }
def packWholeRow : OpenClaim := { program := "ytibndkkbmgbogaadoor", sum := "e07c90182daabf6e109e195635b1ea4d81068e68874b006d982224ee097fb81f", func := "virama/viramalaw07.PackWhole", spec := "packWhole", inPlace := ["internal/reflectlite.ValueOf", "(internal/reflectlite.Value).Type", "(internal/reflectlite.Value).IsNil", "internal/reflectlite.TypeOf", "(internal/reflectlite.Value).Elem", "(internal/reflectlite.Value).Set"], unfollowed := true, recurses := true, named := ["virama/pack.errPack", "errors.errorType"], plainKeys := false, apart := false, laid := [("errors.errorType", laid_errors_errorType), ("virama/pack.errPack", laid_virama_pack_errPack)] }
def PackWholeSaid : Prop := packWholeRow.holds Tryd.pinned (OpenSpec.ofChange packWholeSpec)

/-- ITS FALSE NEIGHBOUR: 'it returns false'. Refute it at one input. -/
def packWholeWrong : ChangeSpec := { name := "packWhole", fn := fun _ => fun
  | [d] => { results := [.lit (.bool false)], args := [d] }
  | _ => none }
def PackWholeWrongFalsely : Prop := packWholeRow.holds Tryd.pinned (OpenSpec.ofChange packWholeWrong)

/-- 'viramalaw07.PackSums': WHATEVER THE INPUT: true; the input reads as it did. -/
def packSumsSpec : ChangeSpec := { name := "packSums", fn := fun _ => fun
  | [d1, d2] => { results := [.lit (.bool true)], args := [d1, d2] }
  | _ => none }
def packSumsRow : OpenClaim := { program := "ytibndkkbmgbogaadoor", sum := "e07c90182daabf6e109e195635b1ea4d81068e68874b006d982224ee097fb81f", func := "virama/viramalaw07.PackSums", spec := "packSums", inPlace := ["internal/reflectlite.ValueOf", "(internal/reflectlite.Value).Type", "(internal/reflectlite.Value).IsNil", "internal/reflectlite.TypeOf", "(internal/reflectlite.Value).Elem", "(internal/reflectlite.Value).Set"], unfollowed := true, recurses := true, named := ["virama/pack.errPack", "errors.errorType"], plainKeys := false, apart := false, laid := [("errors.errorType", laid_errors_errorType), ("virama/pack.errPack", laid_virama_pack_errPack)] }
def PackSumsSaid : Prop := packSumsRow.holds Tryd.pinned (OpenSpec.ofChange packSumsSpec)

/-- ITS FALSE NEIGHBOUR: 'it returns false'. Refute it at one input. -/
def packSumsWrong : ChangeSpec := { name := "packSums", fn := fun _ => fun
  | [d1, d2] => { results := [.lit (.bool false)], args := [d1, d2] }
  | _ => none }
def PackSumsWrongFalsely : Prop := packSumsRow.holds Tryd.pinned (OpenSpec.ofChange packSumsWrong)

/-- 'viramalaw07.PackRuns': WHATEVER THE INPUT: true; the input reads as it did. -/
def packRunsSpec : ChangeSpec := { name := "packRuns", fn := fun _ => fun
  | [d] => { results := [.lit (.bool true)], args := [d] }
  | _ => none }
def packRunsRow : OpenClaim := { program := "ytibndkkbmgbogaadoor", sum := "e07c90182daabf6e109e195635b1ea4d81068e68874b006d982224ee097fb81f", func := "virama/viramalaw07.PackRuns", spec := "packRuns", inPlace := ["internal/reflectlite.ValueOf", "(internal/reflectlite.Value).Type", "(internal/reflectlite.Value).IsNil", "internal/reflectlite.TypeOf", "(internal/reflectlite.Value).Elem", "(internal/reflectlite.Value).Set"], unfollowed := true, recurses := true, named := ["virama/pack.errPack", "errors.errorType"], plainKeys := false, apart := false, laid := [("errors.errorType", laid_errors_errorType), ("virama/pack.errPack", laid_virama_pack_errPack)] }
def PackRunsSaid : Prop := packRunsRow.holds Tryd.pinned (OpenSpec.ofChange packRunsSpec)

/-- ITS FALSE NEIGHBOUR: 'it returns false'. Refute it at one input. -/
def packRunsWrong : ChangeSpec := { name := "packRuns", fn := fun _ => fun
  | [d] => { results := [.lit (.bool false)], args := [d] }
  | _ => none }
def PackRunsWrongFalsely : Prop := packRunsRow.holds Tryd.pinned (OpenSpec.ofChange packRunsWrong)

/-- 'viramalaw07.PackMakes': WHATEVER THE INPUT: true; the input reads as it did. -/
def packMakesSpec : ChangeSpec := { name := "packMakes", fn := fun _ => fun
  | [d1, d2, d3] => { results := [.lit (.bool true)], args := [d1, d2, d3] }
  | _ => none }
def packMakesRow : OpenClaim := { program := "ytibndkkbmgbogaadoor", sum := "e07c90182daabf6e109e195635b1ea4d81068e68874b006d982224ee097fb81f", func := "virama/viramalaw07.PackMakes", spec := "packMakes", inPlace := ["internal/reflectlite.ValueOf", "(internal/reflectlite.Value).Type", "(internal/reflectlite.Value).IsNil", "internal/reflectlite.TypeOf", "(internal/reflectlite.Value).Elem", "(internal/reflectlite.Value).Set"], unfollowed := true, recurses := true, named := ["virama/pack.errPack", "errors.errorType"], plainKeys := false, apart := false, laid := [("errors.errorType", laid_errors_errorType), ("virama/pack.errPack", laid_virama_pack_errPack)] }
def PackMakesSaid : Prop := packMakesRow.holds Tryd.pinned (OpenSpec.ofChange packMakesSpec)

/-- ITS FALSE NEIGHBOUR: 'it returns false'. Refute it at one input. -/
def packMakesWrong : ChangeSpec := { name := "packMakes", fn := fun _ => fun
  | [d1, d2, d3] => { results := [.lit (.bool false)], args := [d1, d2, d3] }
  | _ => none }
def PackMakesWrongFalsely : Prop := packMakesRow.holds Tryd.pinned (OpenSpec.ofChange packMakesWrong)

/-- 'viramalaw07.PackByte': WHATEVER THE INPUT: true; the input reads as it did. -/
def packByteSpec : ChangeSpec := { name := "packByte", fn := fun _ => fun
  | [d1, d2, d3] => { results := [.lit (.bool true)], args := [d1, d2, d3] }
  | _ => none }
def packByteRow : OpenClaim := { program := "ytibndkkbmgbogaadoor", sum := "e07c90182daabf6e109e195635b1ea4d81068e68874b006d982224ee097fb81f", func := "virama/viramalaw07.PackByte", spec := "packByte", inPlace := ["internal/reflectlite.ValueOf", "(internal/reflectlite.Value).Type", "(internal/reflectlite.Value).IsNil", "internal/reflectlite.TypeOf", "(internal/reflectlite.Value).Elem", "(internal/reflectlite.Value).Set"], unfollowed := true, recurses := true, named := ["virama/pack.errPack", "errors.errorType", "virama/trie.errRange", "virama/trie.errTrie"], plainKeys := false, apart := false, laid := [("errors.errorType", laid_errors_errorType), ("virama/trie.errTrie", laid_virama_trie_errTrie), ("virama/trie.errRange", laid_virama_trie_errRange), ("virama/pack.errPack", laid_virama_pack_errPack)] }
def PackByteSaid : Prop := packByteRow.holds Tryd.pinned (OpenSpec.ofChange packByteSpec)

/-- ITS FALSE NEIGHBOUR: 'it returns false'. Refute it at one input. -/
def packByteWrong : ChangeSpec := { name := "packByte", fn := fun _ => fun
  | [d1, d2, d3] => { results := [.lit (.bool false)], args := [d1, d2, d3] }
  | _ => none }
def PackByteWrongFalsely : Prop := packByteRow.holds Tryd.pinned (OpenSpec.ofChange packByteWrong)

/-- 'viramalaw07.PackBack': WHATEVER THE INPUT: true; the input reads as it did. -/
def packBackSpec : ChangeSpec := { name := "packBack", fn := fun _ => fun
  | [d1, d2] => { results := [.lit (.bool true)], args := [d1, d2] }
  | _ => none }
def packBackRow : OpenClaim := { program := "ytibndkkbmgbogaadoor", sum := "e07c90182daabf6e109e195635b1ea4d81068e68874b006d982224ee097fb81f", func := "virama/viramalaw07.PackBack", spec := "packBack", inPlace := ["internal/reflectlite.ValueOf", "(internal/reflectlite.Value).Type", "(internal/reflectlite.Value).IsNil", "internal/reflectlite.TypeOf", "(internal/reflectlite.Value).Elem", "(internal/reflectlite.Value).Set"], unfollowed := true, recurses := true, named := ["virama/pack.errPack", "errors.errorType", "virama/trie.errRange", "virama/trie.errTrie"], plainKeys := false, apart := false, laid := [("errors.errorType", laid_errors_errorType), ("virama/trie.errTrie", laid_virama_trie_errTrie), ("virama/trie.errRange", laid_virama_trie_errRange), ("virama/pack.errPack", laid_virama_pack_errPack)] }
def PackBackSaid : Prop := packBackRow.holds Tryd.pinned (OpenSpec.ofChange packBackSpec)

/-- ITS FALSE NEIGHBOUR: 'it returns false'. Refute it at one input. -/
def packBackWrong : ChangeSpec := { name := "packBack", fn := fun _ => fun
  | [d1, d2] => { results := [.lit (.bool false)], args := [d1, d2] }
  | _ => none }
def PackBackWrongFalsely : Prop := packBackRow.holds Tryd.pinned (OpenSpec.ofChange packBackWrong)

/- THE SECOND FORM. 'bulk': how many values and letters a reading holds, each counted each time it is reached (what is shared counts as often as it is met; a slice's spare places count too). A statement '..UptoSaid' is the law's where the arguments, and the package variables that the reading takes, are together of bulk at most 1048576: NARROWER than '..Said'. Prove '..Said' where nothing that the law and all that it calls make is longer than what came in: it says more and counts as full. Else prove '..UptoSaid'. A law counts once. -/
mutual
def uptoBulk {H : Type} : DataW H → Nat
  | .lit (.string bytes) => bytes.length + 1
  | .lit _ => 1
  | .nil => 1
  | .ptr d => uptoBulk d + 1
  | .slice elems spare => uptoBulkAll elems + uptoBulkAll spare + 1
  | .agg parts => uptoBulkAll parts + 1
  | .iface _ d => uptoBulk d + 1
  | .map entries => uptoBulkEntries entries + 1
  | .held _ => 1
def uptoBulkAll {H : Type} : List (DataW H) → Nat
  | [] => 0
  | d :: r => uptoBulk d + uptoBulkAll r
def uptoBulkEntries {H : Type} : List (Lit × DataW H) → Nat
  | [] => 0
  | x :: r => uptoBulkEntry x + uptoBulkEntries r
def uptoBulkEntry {H : Type} : Lit × DataW H → Nat
  | (.string bytes, d) => bytes.length + uptoBulk d + 1
  | (_, d) => uptoBulk d + 1
 end
def uptoSmall : (H : Type) → List (DataW H) → Bool := fun _ ds => decide (uptoBulkAll ds ≤ 1048576)
def OpenSpec.upto (s : _root_.Go.ChangeSpec) : _root_.Go.OpenSpec := { _root_.Go.OpenSpec.ofChange s with cond := some uptoSmall }

/-- 'viramalaw06.TrieRows', WHERE WHAT IT READS IS OF BULK AT MOST 1048576: true; the input reads as it did. -/
def trieRowsUptoRow : OpenClaim := { program := "ytibndkkbmgbogaadoor", sum := "e07c90182daabf6e109e195635b1ea4d81068e68874b006d982224ee097fb81f", func := "virama/viramalaw06.TrieRows", spec := "trieRows", inPlace := ["internal/reflectlite.TypeOf"], unfollowed := true, recurses := true, named := ["virama/trie.errRange", "virama/trie.errTrie"], plainKeys := false, apart := false, laid := [("virama/trie.errTrie", laid_virama_trie_errTrie), ("virama/trie.errRange", laid_virama_trie_errRange)], narrowed := true }
def TrieRowsUptoSaid : Prop := trieRowsUptoRow.holds Tryd.pinned (OpenSpec.upto trieRowsSpec)

/-- 'viramalaw06.TrieTwo', WHERE WHAT IT READS IS OF BULK AT MOST 1048576: true; the input reads as it did. -/
def trieTwoUptoRow : OpenClaim := { program := "ytibndkkbmgbogaadoor", sum := "e07c90182daabf6e109e195635b1ea4d81068e68874b006d982224ee097fb81f", func := "virama/viramalaw06.TrieTwo", spec := "trieTwo", inPlace := ["internal/reflectlite.TypeOf"], unfollowed := true, recurses := true, named := ["virama/trie.errRange", "virama/trie.errTrie"], plainKeys := false, apart := false, laid := [("virama/trie.errTrie", laid_virama_trie_errTrie), ("virama/trie.errRange", laid_virama_trie_errRange)], narrowed := true }
def TrieTwoUptoSaid : Prop := trieTwoUptoRow.holds Tryd.pinned (OpenSpec.upto trieTwoSpec)

/-- 'viramalaw06.TrieTells', WHERE WHAT IT READS IS OF BULK AT MOST 1048576: true; the input reads as it did. -/
def trieTellsUptoRow : OpenClaim := { program := "ytibndkkbmgbogaadoor", sum := "e07c90182daabf6e109e195635b1ea4d81068e68874b006d982224ee097fb81f", func := "virama/viramalaw06.TrieTells", spec := "trieTells", inPlace := ["internal/reflectlite.TypeOf"], unfollowed := true, recurses := true, named := ["virama/trie.errRange", "virama/trie.errTrie"], plainKeys := false, apart := false, laid := [("virama/trie.errTrie", laid_virama_trie_errTrie), ("virama/trie.errRange", laid_virama_trie_errRange)], narrowed := true }
def TrieTellsUptoSaid : Prop := trieTellsUptoRow.holds Tryd.pinned (OpenSpec.upto trieTellsSpec)

/-- 'viramalaw06.TrieLeast', WHERE WHAT IT READS IS OF BULK AT MOST 1048576: true; the input reads as it did. -/
def trieLeastUptoRow : OpenClaim := { program := "ytibndkkbmgbogaadoor", sum := "e07c90182daabf6e109e195635b1ea4d81068e68874b006d982224ee097fb81f", func := "virama/viramalaw06.TrieLeast", spec := "trieLeast", inPlace := ["internal/reflectlite.TypeOf"], unfollowed := true, recurses := true, named := ["virama/trie.errRange", "virama/trie.errTrie"], plainKeys := false, apart := false, laid := [("virama/trie.errTrie", laid_virama_trie_errTrie), ("virama/trie.errRange", laid_virama_trie_errRange)], narrowed := true }
def TrieLeastUptoSaid : Prop := trieLeastUptoRow.holds Tryd.pinned (OpenSpec.upto trieLeastSpec)

/-- 'viramalaw07.PackLoads', WHERE WHAT IT READS IS OF BULK AT MOST 1048576: true; the input reads as it did. -/
def packLoadsUptoRow : OpenClaim := { program := "ytibndkkbmgbogaadoor", sum := "e07c90182daabf6e109e195635b1ea4d81068e68874b006d982224ee097fb81f", func := "virama/viramalaw07.PackLoads", spec := "packLoads", inPlace := ["internal/reflectlite.ValueOf", "(internal/reflectlite.Value).Type", "(internal/reflectlite.Value).IsNil", "internal/reflectlite.TypeOf", "(internal/reflectlite.Value).Elem", "(internal/reflectlite.Value).Set"], unfollowed := true, recurses := true, named := ["virama/pack.errPack", "errors.errorType"], plainKeys := false, apart := false, laid := [("errors.errorType", laid_errors_errorType), ("virama/pack.errPack", laid_virama_pack_errPack)], narrowed := true }
def PackLoadsUptoSaid : Prop := packLoadsUptoRow.holds Tryd.pinned (OpenSpec.upto packLoadsSpec)

/-- 'viramalaw07.PackWhole', WHERE WHAT IT READS IS OF BULK AT MOST 1048576: true; the input reads as it did. -/
def packWholeUptoRow : OpenClaim := { program := "ytibndkkbmgbogaadoor", sum := "e07c90182daabf6e109e195635b1ea4d81068e68874b006d982224ee097fb81f", func := "virama/viramalaw07.PackWhole", spec := "packWhole", inPlace := ["internal/reflectlite.ValueOf", "(internal/reflectlite.Value).Type", "(internal/reflectlite.Value).IsNil", "internal/reflectlite.TypeOf", "(internal/reflectlite.Value).Elem", "(internal/reflectlite.Value).Set"], unfollowed := true, recurses := true, named := ["virama/pack.errPack", "errors.errorType"], plainKeys := false, apart := false, laid := [("errors.errorType", laid_errors_errorType), ("virama/pack.errPack", laid_virama_pack_errPack)], narrowed := true }
def PackWholeUptoSaid : Prop := packWholeUptoRow.holds Tryd.pinned (OpenSpec.upto packWholeSpec)

/-- 'viramalaw07.PackSums', WHERE WHAT IT READS IS OF BULK AT MOST 1048576: true; the input reads as it did. -/
def packSumsUptoRow : OpenClaim := { program := "ytibndkkbmgbogaadoor", sum := "e07c90182daabf6e109e195635b1ea4d81068e68874b006d982224ee097fb81f", func := "virama/viramalaw07.PackSums", spec := "packSums", inPlace := ["internal/reflectlite.ValueOf", "(internal/reflectlite.Value).Type", "(internal/reflectlite.Value).IsNil", "internal/reflectlite.TypeOf", "(internal/reflectlite.Value).Elem", "(internal/reflectlite.Value).Set"], unfollowed := true, recurses := true, named := ["virama/pack.errPack", "errors.errorType"], plainKeys := false, apart := false, laid := [("errors.errorType", laid_errors_errorType), ("virama/pack.errPack", laid_virama_pack_errPack)], narrowed := true }
def PackSumsUptoSaid : Prop := packSumsUptoRow.holds Tryd.pinned (OpenSpec.upto packSumsSpec)

/-- 'viramalaw07.PackRuns', WHERE WHAT IT READS IS OF BULK AT MOST 1048576: true; the input reads as it did. -/
def packRunsUptoRow : OpenClaim := { program := "ytibndkkbmgbogaadoor", sum := "e07c90182daabf6e109e195635b1ea4d81068e68874b006d982224ee097fb81f", func := "virama/viramalaw07.PackRuns", spec := "packRuns", inPlace := ["internal/reflectlite.ValueOf", "(internal/reflectlite.Value).Type", "(internal/reflectlite.Value).IsNil", "internal/reflectlite.TypeOf", "(internal/reflectlite.Value).Elem", "(internal/reflectlite.Value).Set"], unfollowed := true, recurses := true, named := ["virama/pack.errPack", "errors.errorType"], plainKeys := false, apart := false, laid := [("errors.errorType", laid_errors_errorType), ("virama/pack.errPack", laid_virama_pack_errPack)], narrowed := true }
def PackRunsUptoSaid : Prop := packRunsUptoRow.holds Tryd.pinned (OpenSpec.upto packRunsSpec)

/-- 'viramalaw07.PackMakes', WHERE WHAT IT READS IS OF BULK AT MOST 1048576: true; the input reads as it did. -/
def packMakesUptoRow : OpenClaim := { program := "ytibndkkbmgbogaadoor", sum := "e07c90182daabf6e109e195635b1ea4d81068e68874b006d982224ee097fb81f", func := "virama/viramalaw07.PackMakes", spec := "packMakes", inPlace := ["internal/reflectlite.ValueOf", "(internal/reflectlite.Value).Type", "(internal/reflectlite.Value).IsNil", "internal/reflectlite.TypeOf", "(internal/reflectlite.Value).Elem", "(internal/reflectlite.Value).Set"], unfollowed := true, recurses := true, named := ["virama/pack.errPack", "errors.errorType"], plainKeys := false, apart := false, laid := [("errors.errorType", laid_errors_errorType), ("virama/pack.errPack", laid_virama_pack_errPack)], narrowed := true }
def PackMakesUptoSaid : Prop := packMakesUptoRow.holds Tryd.pinned (OpenSpec.upto packMakesSpec)

/-- 'viramalaw07.PackByte', WHERE WHAT IT READS IS OF BULK AT MOST 1048576: true; the input reads as it did. -/
def packByteUptoRow : OpenClaim := { program := "ytibndkkbmgbogaadoor", sum := "e07c90182daabf6e109e195635b1ea4d81068e68874b006d982224ee097fb81f", func := "virama/viramalaw07.PackByte", spec := "packByte", inPlace := ["internal/reflectlite.ValueOf", "(internal/reflectlite.Value).Type", "(internal/reflectlite.Value).IsNil", "internal/reflectlite.TypeOf", "(internal/reflectlite.Value).Elem", "(internal/reflectlite.Value).Set"], unfollowed := true, recurses := true, named := ["virama/pack.errPack", "errors.errorType", "virama/trie.errRange", "virama/trie.errTrie"], plainKeys := false, apart := false, laid := [("errors.errorType", laid_errors_errorType), ("virama/trie.errTrie", laid_virama_trie_errTrie), ("virama/trie.errRange", laid_virama_trie_errRange), ("virama/pack.errPack", laid_virama_pack_errPack)], narrowed := true }
def PackByteUptoSaid : Prop := packByteUptoRow.holds Tryd.pinned (OpenSpec.upto packByteSpec)

/-- 'viramalaw07.PackBack', WHERE WHAT IT READS IS OF BULK AT MOST 1048576: true; the input reads as it did. -/
def packBackUptoRow : OpenClaim := { program := "ytibndkkbmgbogaadoor", sum := "e07c90182daabf6e109e195635b1ea4d81068e68874b006d982224ee097fb81f", func := "virama/viramalaw07.PackBack", spec := "packBack", inPlace := ["internal/reflectlite.ValueOf", "(internal/reflectlite.Value).Type", "(internal/reflectlite.Value).IsNil", "internal/reflectlite.TypeOf", "(internal/reflectlite.Value).Elem", "(internal/reflectlite.Value).Set"], unfollowed := true, recurses := true, named := ["virama/pack.errPack", "errors.errorType", "virama/trie.errRange", "virama/trie.errTrie"], plainKeys := false, apart := false, laid := [("errors.errorType", laid_errors_errorType), ("virama/trie.errTrie", laid_virama_trie_errTrie), ("virama/trie.errRange", laid_virama_trie_errRange), ("virama/pack.errPack", laid_virama_pack_errPack)], narrowed := true }
def PackBackUptoSaid : Prop := packBackUptoRow.holds Tryd.pinned (OpenSpec.upto packBackSpec)

end Rows
end Go.Proofs.YtibndkkbmgbogaaDoor
