/-
  NARROWER THAN 'FOR EVERY INPUT', by the rows' own cells (each row's printed sentence says how): VersionDots: laid · VersionLong: laid · VersionTells: laid · VersionOrders: laid · VersionNumbers: laid · VersionTails: laid · VersionTokens: laid · VersionSorts: laid.
  DERIVED. THE GIVEN ROWS OF THIS SEAT. 8 by the template 'for every input the law returns true; each argument reads behind the call as it read before'; 0 by the template 'total and deterministic' (their statements: YtndpokjakogpnaaDoorTotals.lean).
  GIVEN WITH THE SEED: the statements are not yours to turn. If you find one false, say at which input.
  Laid BY PROGRAM, IN A SANDBOX (cutbox-rows.mjs): the forced cells as the released guide's own fill.sh prints them over the translation dac80c6bb50ad178… (all of the seat's roots in one cut). By AI agents, Wed Nov 11 2026. No macro, syntax, notation, axiom, sorry.
-/
import Derived.Test.YtndpokjakogpnaaDoorChecked
import GoSem.PinnedTables
import GoSem.Claim
import GoSem.ClaimJoined
import GoSem.ClaimMapViews
import Derived.JoinedTies
import Derived.KernelRfl
namespace Go.Proofs.YtndpokjakogpnaaDoor
/- THE CELL 'sum', in the pinned program and in every row, IS THE sha256 OF THE DUMP (.gsa) THAT YtndpokjakogpnaaDoorProg.lean LOADS. Nothing in Lean hashes anything: it is a label: what it is worth is what the hold of that sum in a sandbox is worth. -/
noncomputable def Tryd.pinned : Pinned := { name := "ytndpokjakogpnaadoor", sum := "dac80c6bb50ad1786c898e62ed7c48bdc8b8c5f89a6e3981035f081157d71f24", checked := Tryd.checked }
namespace Rows
def none {H : Type} : Left H := { results := [], args := [] }

/- WHAT THE LISTED PACKAGE-LEVEL VARIABLES READ AS WHEN THE CALL BEGINS. Each datum BY PROGRAM (the guide's laid-datum.mjs) off the statement by which the dump's own 'gosem.cut.vars' lays the variable. In a bare row this is a premise. The card (YtndpokjakogpnaaDoorCards.lean) ties it to the program's text. -/
def laid_unicode_utf8_acceptRanges {H : Type} : DataW H := .agg [.agg [.lit (.int .u8 128), .lit (.int .u8 191)], .agg [.lit (.int .u8 160), .lit (.int .u8 191)], .agg [.lit (.int .u8 128), .lit (.int .u8 159)], .agg [.lit (.int .u8 144), .lit (.int .u8 191)], .agg [.lit (.int .u8 128), .lit (.int .u8 143)], .agg [.lit (.int .u8 0), .lit (.int .u8 0)], .agg [.lit (.int .u8 0), .lit (.int .u8 0)], .agg [.lit (.int .u8 0), .lit (.int .u8 0)], .agg [.lit (.int .u8 0), .lit (.int .u8 0)], .agg [.lit (.int .u8 0), .lit (.int .u8 0)], .agg [.lit (.int .u8 0), .lit (.int .u8 0)], .agg [.lit (.int .u8 0), .lit (.int .u8 0)], .agg [.lit (.int .u8 0), .lit (.int .u8 0)], .agg [.lit (.int .u8 0), .lit (.int .u8 0)], .agg [.lit (.int .u8 0), .lit (.int .u8 0)], .agg [.lit (.int .u8 0), .lit (.int .u8 0)]]
/-- One of Go's own tables, pinned by name: the form's constant. -/
def laid_unicode_utf8_first : DataW Unit := Go.Pinned.utf8First

/-- 'credenzalaw15.VersionDots': WHATEVER THE INPUT: true; the input reads as it did. -/
def versionDotsSpec : ChangeSpec := { name := "versionDots", fn := fun _ => fun
  | [d1, d2] => { results := [.lit (.bool true)], args := [d1, d2] }
  | _ => none }
def versionDotsRow : OpenClaim := { program := "ytndpokjakogpnaadoor", sum := "dac80c6bb50ad1786c898e62ed7c48bdc8b8c5f89a6e3981035f081157d71f24", func := "credenza/credenzalaw15.VersionDots", spec := "versionDots", inPlace := ["internal/bytealg.IndexByteString", "internal/bytealg.IndexString", "internal/bytealg.abigen_runtime_cmpstring"], named := ["unicode/utf8.first", "unicode/utf8.acceptRanges", "internal/bytealg.MaxLen"], apart := false, laid := [("unicode/utf8.acceptRanges", laid_unicode_utf8_acceptRanges), ("unicode/utf8.first", laid_unicode_utf8_first)] }
def VersionDotsSaid : Prop := versionDotsRow.holds Tryd.pinned (OpenSpec.ofChange versionDotsSpec)

/-- ITS FALSE NEIGHBOUR: 'it returns false'. Refute it at one input. -/
def versionDotsWrong : ChangeSpec := { name := "versionDots", fn := fun _ => fun
  | [d1, d2] => { results := [.lit (.bool false)], args := [d1, d2] }
  | _ => none }
def VersionDotsWrongFalsely : Prop := versionDotsRow.holds Tryd.pinned (OpenSpec.ofChange versionDotsWrong)

/-- 'credenzalaw15.VersionLong': WHATEVER THE INPUT: true; the input reads as it did. -/
def versionLongSpec : ChangeSpec := { name := "versionLong", fn := fun _ => fun
  | [d1, d2, d3, d4] => { results := [.lit (.bool true)], args := [d1, d2, d3, d4] }
  | _ => none }
def versionLongRow : OpenClaim := { program := "ytndpokjakogpnaadoor", sum := "dac80c6bb50ad1786c898e62ed7c48bdc8b8c5f89a6e3981035f081157d71f24", func := "credenza/credenzalaw15.VersionLong", spec := "versionLong", inPlace := ["internal/bytealg.IndexByteString", "internal/bytealg.IndexString", "internal/bytealg.abigen_runtime_cmpstring"], unfollowed := true, recurses := true, named := ["unicode/utf8.first", "unicode/utf8.acceptRanges", "internal/bytealg.MaxLen"], apart := false, laid := [("unicode/utf8.acceptRanges", laid_unicode_utf8_acceptRanges), ("unicode/utf8.first", laid_unicode_utf8_first)] }
def VersionLongSaid : Prop := versionLongRow.holds Tryd.pinned (OpenSpec.ofChange versionLongSpec)

/-- ITS FALSE NEIGHBOUR: 'it returns false'. Refute it at one input. -/
def versionLongWrong : ChangeSpec := { name := "versionLong", fn := fun _ => fun
  | [d1, d2, d3, d4] => { results := [.lit (.bool false)], args := [d1, d2, d3, d4] }
  | _ => none }
def VersionLongWrongFalsely : Prop := versionLongRow.holds Tryd.pinned (OpenSpec.ofChange versionLongWrong)

/-- 'credenzalaw15.VersionTells': WHATEVER THE INPUT: true; the input reads as it did. -/
def versionTellsSpec : ChangeSpec := { name := "versionTells", fn := fun _ => fun
  | [d1, d2] => { results := [.lit (.bool true)], args := [d1, d2] }
  | _ => none }
def versionTellsRow : OpenClaim := { program := "ytndpokjakogpnaadoor", sum := "dac80c6bb50ad1786c898e62ed7c48bdc8b8c5f89a6e3981035f081157d71f24", func := "credenza/credenzalaw15.VersionTells", spec := "versionTells", inPlace := ["internal/bytealg.IndexByteString", "internal/bytealg.IndexString", "internal/bytealg.abigen_runtime_cmpstring"], named := ["unicode/utf8.first", "unicode/utf8.acceptRanges", "internal/bytealg.MaxLen"], apart := false, laid := [("unicode/utf8.acceptRanges", laid_unicode_utf8_acceptRanges), ("unicode/utf8.first", laid_unicode_utf8_first)] }
def VersionTellsSaid : Prop := versionTellsRow.holds Tryd.pinned (OpenSpec.ofChange versionTellsSpec)

/-- ITS FALSE NEIGHBOUR: 'it returns false'. Refute it at one input. -/
def versionTellsWrong : ChangeSpec := { name := "versionTells", fn := fun _ => fun
  | [d1, d2] => { results := [.lit (.bool false)], args := [d1, d2] }
  | _ => none }
def VersionTellsWrongFalsely : Prop := versionTellsRow.holds Tryd.pinned (OpenSpec.ofChange versionTellsWrong)

/-- 'credenzalaw15.VersionOrders': WHATEVER THE INPUT: true; the input reads as it did. -/
def versionOrdersSpec : ChangeSpec := { name := "versionOrders", fn := fun _ => fun
  | [d1, d2, d3] => { results := [.lit (.bool true)], args := [d1, d2, d3] }
  | _ => none }
def versionOrdersRow : OpenClaim := { program := "ytndpokjakogpnaadoor", sum := "dac80c6bb50ad1786c898e62ed7c48bdc8b8c5f89a6e3981035f081157d71f24", func := "credenza/credenzalaw15.VersionOrders", spec := "versionOrders", inPlace := ["internal/bytealg.IndexByteString", "internal/bytealg.IndexString", "internal/bytealg.abigen_runtime_cmpstring"], named := ["unicode/utf8.first", "unicode/utf8.acceptRanges", "internal/bytealg.MaxLen"], apart := false, laid := [("unicode/utf8.acceptRanges", laid_unicode_utf8_acceptRanges), ("unicode/utf8.first", laid_unicode_utf8_first)] }
def VersionOrdersSaid : Prop := versionOrdersRow.holds Tryd.pinned (OpenSpec.ofChange versionOrdersSpec)

/-- ITS FALSE NEIGHBOUR: 'it returns false'. Refute it at one input. -/
def versionOrdersWrong : ChangeSpec := { name := "versionOrders", fn := fun _ => fun
  | [d1, d2, d3] => { results := [.lit (.bool false)], args := [d1, d2, d3] }
  | _ => none }
def VersionOrdersWrongFalsely : Prop := versionOrdersRow.holds Tryd.pinned (OpenSpec.ofChange versionOrdersWrong)

/-- 'credenzalaw15.VersionNumbers': WHATEVER THE INPUT: true; the input reads as it did. -/
def versionNumbersSpec : ChangeSpec := { name := "versionNumbers", fn := fun _ => fun
  | [d1, d2, d3, d4, d5] => { results := [.lit (.bool true)], args := [d1, d2, d3, d4, d5] }
  | _ => none }
def versionNumbersRow : OpenClaim := { program := "ytndpokjakogpnaadoor", sum := "dac80c6bb50ad1786c898e62ed7c48bdc8b8c5f89a6e3981035f081157d71f24", func := "credenza/credenzalaw15.VersionNumbers", spec := "versionNumbers", inPlace := ["internal/bytealg.IndexByteString", "internal/bytealg.IndexString", "internal/bytealg.abigen_runtime_cmpstring"], unfollowed := true, recurses := true, named := ["unicode/utf8.first", "unicode/utf8.acceptRanges", "internal/bytealg.MaxLen"], apart := false, laid := [("unicode/utf8.acceptRanges", laid_unicode_utf8_acceptRanges), ("unicode/utf8.first", laid_unicode_utf8_first)] }
def VersionNumbersSaid : Prop := versionNumbersRow.holds Tryd.pinned (OpenSpec.ofChange versionNumbersSpec)

/-- ITS FALSE NEIGHBOUR: 'it returns false'. Refute it at one input. -/
def versionNumbersWrong : ChangeSpec := { name := "versionNumbers", fn := fun _ => fun
  | [d1, d2, d3, d4, d5] => { results := [.lit (.bool false)], args := [d1, d2, d3, d4, d5] }
  | _ => none }
def VersionNumbersWrongFalsely : Prop := versionNumbersRow.holds Tryd.pinned (OpenSpec.ofChange versionNumbersWrong)

/-- 'credenzalaw15.VersionTails': WHATEVER THE INPUT: true; the input reads as it did. -/
def versionTailsSpec : ChangeSpec := { name := "versionTails", fn := fun _ => fun
  | [d1, d2, d3] => { results := [.lit (.bool true)], args := [d1, d2, d3] }
  | _ => none }
def versionTailsRow : OpenClaim := { program := "ytndpokjakogpnaadoor", sum := "dac80c6bb50ad1786c898e62ed7c48bdc8b8c5f89a6e3981035f081157d71f24", func := "credenza/credenzalaw15.VersionTails", spec := "versionTails", inPlace := ["internal/bytealg.IndexByteString", "internal/bytealg.IndexString", "internal/bytealg.abigen_runtime_cmpstring"], named := ["unicode/utf8.first", "unicode/utf8.acceptRanges", "internal/bytealg.MaxLen"], apart := false, laid := [("unicode/utf8.acceptRanges", laid_unicode_utf8_acceptRanges), ("unicode/utf8.first", laid_unicode_utf8_first)] }
def VersionTailsSaid : Prop := versionTailsRow.holds Tryd.pinned (OpenSpec.ofChange versionTailsSpec)

/-- ITS FALSE NEIGHBOUR: 'it returns false'. Refute it at one input. -/
def versionTailsWrong : ChangeSpec := { name := "versionTails", fn := fun _ => fun
  | [d1, d2, d3] => { results := [.lit (.bool false)], args := [d1, d2, d3] }
  | _ => none }
def VersionTailsWrongFalsely : Prop := versionTailsRow.holds Tryd.pinned (OpenSpec.ofChange versionTailsWrong)

/-- 'credenzalaw15.VersionTokens': WHATEVER THE INPUT: true; the input reads as it did. -/
def versionTokensSpec : ChangeSpec := { name := "versionTokens", fn := fun _ => fun
  | [d] => { results := [.lit (.bool true)], args := [d] }
  | _ => none }
def versionTokensRow : OpenClaim := { program := "ytndpokjakogpnaadoor", sum := "dac80c6bb50ad1786c898e62ed7c48bdc8b8c5f89a6e3981035f081157d71f24", func := "credenza/credenzalaw15.VersionTokens", spec := "versionTokens", inPlace := ["internal/bytealg.IndexByteString", "internal/bytealg.IndexString", "internal/bytealg.abigen_runtime_cmpstring"], named := ["unicode/utf8.first", "unicode/utf8.acceptRanges", "internal/bytealg.MaxLen"], apart := false, laid := [("unicode/utf8.acceptRanges", laid_unicode_utf8_acceptRanges), ("unicode/utf8.first", laid_unicode_utf8_first)] }
def VersionTokensSaid : Prop := versionTokensRow.holds Tryd.pinned (OpenSpec.ofChange versionTokensSpec)

/-- ITS FALSE NEIGHBOUR: 'it returns false'. Refute it at one input. -/
def versionTokensWrong : ChangeSpec := { name := "versionTokens", fn := fun _ => fun
  | [d] => { results := [.lit (.bool false)], args := [d] }
  | _ => none }
def VersionTokensWrongFalsely : Prop := versionTokensRow.holds Tryd.pinned (OpenSpec.ofChange versionTokensWrong)

/-- 'credenzalaw15.VersionSorts': WHATEVER THE INPUT: true; the input reads as it did. -/
def versionSortsSpec : ChangeSpec := { name := "versionSorts", fn := fun _ => fun
  | [d] => { results := [.lit (.bool true)], args := [d] }
  | _ => none }
def versionSortsRow : OpenClaim := { program := "ytndpokjakogpnaadoor", sum := "dac80c6bb50ad1786c898e62ed7c48bdc8b8c5f89a6e3981035f081157d71f24", func := "credenza/credenzalaw15.VersionSorts", spec := "versionSorts", inPlace := ["internal/bytealg.IndexByteString", "internal/bytealg.IndexString", "internal/bytealg.abigen_runtime_cmpstring"], unfollowed := true, recurses := true, named := ["unicode/utf8.first", "unicode/utf8.acceptRanges", "internal/bytealg.MaxLen"], apart := false, laid := [("unicode/utf8.acceptRanges", laid_unicode_utf8_acceptRanges), ("unicode/utf8.first", laid_unicode_utf8_first)] }
def VersionSortsSaid : Prop := versionSortsRow.holds Tryd.pinned (OpenSpec.ofChange versionSortsSpec)

/-- ITS FALSE NEIGHBOUR: 'it returns false'. Refute it at one input. -/
def versionSortsWrong : ChangeSpec := { name := "versionSorts", fn := fun _ => fun
  | [d] => { results := [.lit (.bool false)], args := [d] }
  | _ => none }
def VersionSortsWrongFalsely : Prop := versionSortsRow.holds Tryd.pinned (OpenSpec.ofChange versionSortsWrong)

/- THE SECOND FORM. 'bulk': how many values and letters a reading holds, each counted each time it is reached (what is shared counts as often as it is met; a slice's spare places count too). A statement '..UptoSaid' is the law's where the arguments, and the package variables that the reading takes, are together of bulk at most 1048576: NARROWER than '..Said'. Prove '..Said' where nothing that the law and all that it calls make is longer than what came in: it says more and counts as full. Else prove '..UptoSaid'. A law counts once. -/
mutual
def uptoBulk {H : Type} : DataW H → Nat
  | .lit (.string bytes) => bytes.length + 1
  | .lit _ => 1
  | .nil => 1
  | .ptr d => uptoBulk d + 1
  | .slice elems spare => uptoBulkAll elems + uptoBulkAll spare + 1
  | .agg parts => uptoBulkAll parts + 1
  | .iface _ d => uptoBulk d + 1
  | .map entries => uptoBulkEntries entries + 1
  | .held _ => 1
def uptoBulkAll {H : Type} : List (DataW H) → Nat
  | [] => 0
  | d :: r => uptoBulk d + uptoBulkAll r
def uptoBulkEntries {H : Type} : List (Lit × DataW H) → Nat
  | [] => 0
  | x :: r => uptoBulkEntry x + uptoBulkEntries r
def uptoBulkEntry {H : Type} : Lit × DataW H → Nat
  | (.string bytes, d) => bytes.length + uptoBulk d + 1
  | (_, d) => uptoBulk d + 1
 end
def uptoSmall : (H : Type) → List (DataW H) → Bool := fun _ ds => decide (uptoBulkAll ds ≤ 1048576)
def OpenSpec.upto (s : _root_.Go.ChangeSpec) : _root_.Go.OpenSpec := { _root_.Go.OpenSpec.ofChange s with cond := some uptoSmall }

/-- 'credenzalaw15.VersionDots', WHERE WHAT IT READS IS OF BULK AT MOST 1048576: true; the input reads as it did. -/
def versionDotsUptoRow : OpenClaim := { program := "ytndpokjakogpnaadoor", sum := "dac80c6bb50ad1786c898e62ed7c48bdc8b8c5f89a6e3981035f081157d71f24", func := "credenza/credenzalaw15.VersionDots", spec := "versionDots", inPlace := ["internal/bytealg.IndexByteString", "internal/bytealg.IndexString", "internal/bytealg.abigen_runtime_cmpstring"], named := ["unicode/utf8.first", "unicode/utf8.acceptRanges", "internal/bytealg.MaxLen"], apart := false, laid := [("unicode/utf8.acceptRanges", laid_unicode_utf8_acceptRanges), ("unicode/utf8.first", laid_unicode_utf8_first)], narrowed := true }
def VersionDotsUptoSaid : Prop := versionDotsUptoRow.holds Tryd.pinned (OpenSpec.upto versionDotsSpec)

/-- 'credenzalaw15.VersionLong', WHERE WHAT IT READS IS OF BULK AT MOST 1048576: true; the input reads as it did. -/
def versionLongUptoRow : OpenClaim := { program := "ytndpokjakogpnaadoor", sum := "dac80c6bb50ad1786c898e62ed7c48bdc8b8c5f89a6e3981035f081157d71f24", func := "credenza/credenzalaw15.VersionLong", spec := "versionLong", inPlace := ["internal/bytealg.IndexByteString", "internal/bytealg.IndexString", "internal/bytealg.abigen_runtime_cmpstring"], unfollowed := true, recurses := true, named := ["unicode/utf8.first", "unicode/utf8.acceptRanges", "internal/bytealg.MaxLen"], apart := false, laid := [("unicode/utf8.acceptRanges", laid_unicode_utf8_acceptRanges), ("unicode/utf8.first", laid_unicode_utf8_first)], narrowed := true }
def VersionLongUptoSaid : Prop := versionLongUptoRow.holds Tryd.pinned (OpenSpec.upto versionLongSpec)

/-- 'credenzalaw15.VersionTells', WHERE WHAT IT READS IS OF BULK AT MOST 1048576: true; the input reads as it did. -/
def versionTellsUptoRow : OpenClaim := { program := "ytndpokjakogpnaadoor", sum := "dac80c6bb50ad1786c898e62ed7c48bdc8b8c5f89a6e3981035f081157d71f24", func := "credenza/credenzalaw15.VersionTells", spec := "versionTells", inPlace := ["internal/bytealg.IndexByteString", "internal/bytealg.IndexString", "internal/bytealg.abigen_runtime_cmpstring"], named := ["unicode/utf8.first", "unicode/utf8.acceptRanges", "internal/bytealg.MaxLen"], apart := false, laid := [("unicode/utf8.acceptRanges", laid_unicode_utf8_acceptRanges), ("unicode/utf8.first", laid_unicode_utf8_first)], narrowed := true }
def VersionTellsUptoSaid : Prop := versionTellsUptoRow.holds Tryd.pinned (OpenSpec.upto versionTellsSpec)

/-- 'credenzalaw15.VersionOrders', WHERE WHAT IT READS IS OF BULK AT MOST 1048576: true; the input reads as it did. -/
def versionOrdersUptoRow : OpenClaim := { program := "ytndpokjakogpnaadoor", sum := "dac80c6bb50ad1786c898e62ed7c48bdc8b8c5f89a6e3981035f081157d71f24", func := "credenza/credenzalaw15.VersionOrders", spec := "versionOrders", inPlace := ["internal/bytealg.IndexByteString", "internal/bytealg.IndexString", "internal/bytealg.abigen_runtime_cmpstring"], named := ["unicode/utf8.first", "unicode/utf8.acceptRanges", "internal/bytealg.MaxLen"], apart := false, laid := [("unicode/utf8.acceptRanges", laid_unicode_utf8_acceptRanges), ("unicode/utf8.first", laid_unicode_utf8_first)], narrowed := true }
def VersionOrdersUptoSaid : Prop := versionOrdersUptoRow.holds Tryd.pinned (OpenSpec.upto versionOrdersSpec)

/-- 'credenzalaw15.VersionNumbers', WHERE WHAT IT READS IS OF BULK AT MOST 1048576: true; the input reads as it did. -/
def versionNumbersUptoRow : OpenClaim := { program := "ytndpokjakogpnaadoor", sum := "dac80c6bb50ad1786c898e62ed7c48bdc8b8c5f89a6e3981035f081157d71f24", func := "credenza/credenzalaw15.VersionNumbers", spec := "versionNumbers", inPlace := ["internal/bytealg.IndexByteString", "internal/bytealg.IndexString", "internal/bytealg.abigen_runtime_cmpstring"], unfollowed := true, recurses := true, named := ["unicode/utf8.first", "unicode/utf8.acceptRanges", "internal/bytealg.MaxLen"], apart := false, laid := [("unicode/utf8.acceptRanges", laid_unicode_utf8_acceptRanges), ("unicode/utf8.first", laid_unicode_utf8_first)], narrowed := true }
def VersionNumbersUptoSaid : Prop := versionNumbersUptoRow.holds Tryd.pinned (OpenSpec.upto versionNumbersSpec)

/-- 'credenzalaw15.VersionTails', WHERE WHAT IT READS IS OF BULK AT MOST 1048576: true; the input reads as it did. -/
def versionTailsUptoRow : OpenClaim := { program := "ytndpokjakogpnaadoor", sum := "dac80c6bb50ad1786c898e62ed7c48bdc8b8c5f89a6e3981035f081157d71f24", func := "credenza/credenzalaw15.VersionTails", spec := "versionTails", inPlace := ["internal/bytealg.IndexByteString", "internal/bytealg.IndexString", "internal/bytealg.abigen_runtime_cmpstring"], named := ["unicode/utf8.first", "unicode/utf8.acceptRanges", "internal/bytealg.MaxLen"], apart := false, laid := [("unicode/utf8.acceptRanges", laid_unicode_utf8_acceptRanges), ("unicode/utf8.first", laid_unicode_utf8_first)], narrowed := true }
def VersionTailsUptoSaid : Prop := versionTailsUptoRow.holds Tryd.pinned (OpenSpec.upto versionTailsSpec)

/-- 'credenzalaw15.VersionTokens', WHERE WHAT IT READS IS OF BULK AT MOST 1048576: true; the input reads as it did. -/
def versionTokensUptoRow : OpenClaim := { program := "ytndpokjakogpnaadoor", sum := "dac80c6bb50ad1786c898e62ed7c48bdc8b8c5f89a6e3981035f081157d71f24", func := "credenza/credenzalaw15.VersionTokens", spec := "versionTokens", inPlace := ["internal/bytealg.IndexByteString", "internal/bytealg.IndexString", "internal/bytealg.abigen_runtime_cmpstring"], named := ["unicode/utf8.first", "unicode/utf8.acceptRanges", "internal/bytealg.MaxLen"], apart := false, laid := [("unicode/utf8.acceptRanges", laid_unicode_utf8_acceptRanges), ("unicode/utf8.first", laid_unicode_utf8_first)], narrowed := true }
def VersionTokensUptoSaid : Prop := versionTokensUptoRow.holds Tryd.pinned (OpenSpec.upto versionTokensSpec)

/-- 'credenzalaw15.VersionSorts', WHERE WHAT IT READS IS OF BULK AT MOST 1048576: true; the input reads as it did. -/
def versionSortsUptoRow : OpenClaim := { program := "ytndpokjakogpnaadoor", sum := "dac80c6bb50ad1786c898e62ed7c48bdc8b8c5f89a6e3981035f081157d71f24", func := "credenza/credenzalaw15.VersionSorts", spec := "versionSorts", inPlace := ["internal/bytealg.IndexByteString", "internal/bytealg.IndexString", "internal/bytealg.abigen_runtime_cmpstring"], unfollowed := true, recurses := true, named := ["unicode/utf8.first", "unicode/utf8.acceptRanges", "internal/bytealg.MaxLen"], apart := false, laid := [("unicode/utf8.acceptRanges", laid_unicode_utf8_acceptRanges), ("unicode/utf8.first", laid_unicode_utf8_first)], narrowed := true }
def VersionSortsUptoSaid : Prop := versionSortsUptoRow.holds Tryd.pinned (OpenSpec.upto versionSortsSpec)

end Rows
end Go.Proofs.YtndpokjakogpnaaDoor
