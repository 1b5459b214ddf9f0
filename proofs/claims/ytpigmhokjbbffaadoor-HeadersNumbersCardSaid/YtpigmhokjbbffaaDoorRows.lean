/-
  NARROWER THAN 'FOR EVERY INPUT', by the rows' own cells (each row's printed sentence says how): HeadersPieces: laid · HeadersRanges: laid · HeadersAdded: laid · HeadersNumbers: laid · HeadersChange: laid · HeadersSet: laid · HeadersSorted: laid.
  DERIVED. THE GIVEN ROWS OF THIS SEAT. 7 by the template 'for every input the law returns true; each argument reads behind the call as it read before'; 0 by the template 'total and deterministic' (their statements: YtpigmhokjbbffaaDoorTotals.lean).
  GIVEN WITH THE SEED: the statements are not yours to turn. If you find one false, say at which input.
  Laid BY PROGRAM, IN A SANDBOX (cutbox-rows.mjs): the forced cells as the released guide's own fill.sh prints them over the translation 81ff75fdb55914a0… (all of the seat's roots in one cut). By AI agents, Wed Nov 11 2026. No macro, syntax, notation, axiom, sorry.
-/
import Derived.Test.YtpigmhokjbbffaaDoorChecked
import GoSem.PinnedTables
import GoSem.Claim
import GoSem.ClaimJoined
import GoSem.ClaimMapViews
import Derived.JoinedTies
import Derived.KernelRfl
namespace Go.Proofs.YtpigmhokjbbffaaDoor
/- THE CELL 'sum', in the pinned program and in every row, IS THE sha256 OF THE DUMP (.gsa) THAT YtpigmhokjbbffaaDoorProg.lean LOADS. Nothing in Lean hashes anything: it is a label: what it is worth is what the hold of that sum in a sandbox is worth. -/
noncomputable def Tryd.pinned : Pinned := { name := "ytpigmhokjbbffaadoor", sum := "81ff75fdb55914a0b05832d6774ab5f97632195fa7e72344b0fb02e768ac52c9", checked := Tryd.checked }
namespace Rows
def none {H : Type} : Left H := { results := [], args := [] }

/- WHAT THE LISTED PACKAGE-LEVEL VARIABLES READ AS WHEN THE CALL BEGINS. Each datum BY PROGRAM (the guide's laid-datum.mjs) off the statement by which the dump's own 'gosem.cut.vars' lays the variable. In a bare row this is a premise. The card (YtpigmhokjbbffaaDoorCards.lean) ties it to the program's text. -/
def laid_unicode_utf8_acceptRanges {H : Type} : DataW H := .agg [.agg [.lit (.int .u8 128), .lit (.int .u8 191)], .agg [.lit (.int .u8 160), .lit (.int .u8 191)], .agg [.lit (.int .u8 128), .lit (.int .u8 159)], .agg [.lit (.int .u8 144), .lit (.int .u8 191)], .agg [.lit (.int .u8 128), .lit (.int .u8 143)], .agg [.lit (.int .u8 0), .lit (.int .u8 0)], .agg [.lit (.int .u8 0), .lit (.int .u8 0)], .agg [.lit (.int .u8 0), .lit (.int .u8 0)], .agg [.lit (.int .u8 0), .lit (.int .u8 0)], .agg [.lit (.int .u8 0), .lit (.int .u8 0)], .agg [.lit (.int .u8 0), .lit (.int .u8 0)], .agg [.lit (.int .u8 0), .lit (.int .u8 0)], .agg [.lit (.int .u8 0), .lit (.int .u8 0)], .agg [.lit (.int .u8 0), .lit (.int .u8 0)], .agg [.lit (.int .u8 0), .lit (.int .u8 0)], .agg [.lit (.int .u8 0), .lit (.int .u8 0)]]
/-- One of Go's own tables, pinned by name: the form's constant. -/
def laid_unicode_utf8_first : DataW Unit := Go.Pinned.utf8First

/-- 'ostiarylaw5.HeadersPieces': WHATEVER THE INPUT: true; the input reads as it did. -/
def headersPiecesSpec : ChangeSpec := { name := "headersPieces", fn := fun _ => fun
  | [d] => { results := [.lit (.bool true)], args := [d] }
  | _ => none }
def headersPiecesRow : OpenClaim := { program := "ytpigmhokjbbffaadoor", sum := "81ff75fdb55914a0b05832d6774ab5f97632195fa7e72344b0fb02e768ac52c9", func := "ostiary/ostiarylaw5.HeadersPieces", spec := "headersPieces", inPlace := ["internal/abi.NoEscape", "internal/bytealg.MakeNoZero", "internal/bytealg.IndexByteString", "internal/bytealg.IndexString"], unfollowed := true, recurses := true, named := ["unicode/utf8.first", "unicode/utf8.acceptRanges", "internal/bytealg.MaxLen"], apart := false, laid := [("unicode/utf8.acceptRanges", laid_unicode_utf8_acceptRanges), ("unicode/utf8.first", laid_unicode_utf8_first)] }
def HeadersPiecesSaid : Prop := headersPiecesRow.holds Tryd.pinned (OpenSpec.ofChange headersPiecesSpec)

/-- ITS FALSE NEIGHBOUR: 'it returns false'. Refute it at one input. -/
def headersPiecesWrong : ChangeSpec := { name := "headersPieces", fn := fun _ => fun
  | [d] => { results := [.lit (.bool false)], args := [d] }
  | _ => none }
def HeadersPiecesWrongFalsely : Prop := headersPiecesRow.holds Tryd.pinned (OpenSpec.ofChange headersPiecesWrong)

/-- 'ostiarylaw5.HeadersRanges': WHATEVER THE INPUT: true; the input reads as it did. -/
def headersRangesSpec : ChangeSpec := { name := "headersRanges", fn := fun _ => fun
  | [d1, d2, d3, d4] => { results := [.lit (.bool true)], args := [d1, d2, d3, d4] }
  | _ => none }
def headersRangesRow : OpenClaim := { program := "ytpigmhokjbbffaadoor", sum := "81ff75fdb55914a0b05832d6774ab5f97632195fa7e72344b0fb02e768ac52c9", func := "ostiary/ostiarylaw5.HeadersRanges", spec := "headersRanges", inPlace := ["internal/bytealg.IndexByteString", "internal/bytealg.IndexString", "internal/abi.NoEscape", "internal/bytealg.MakeNoZero"], unfollowed := true, recurses := true, named := ["internal/bytealg.MaxLen", "unicode/utf8.first", "unicode/utf8.acceptRanges"], apart := false, laid := [("unicode/utf8.acceptRanges", laid_unicode_utf8_acceptRanges), ("unicode/utf8.first", laid_unicode_utf8_first)] }
def HeadersRangesSaid : Prop := headersRangesRow.holds Tryd.pinned (OpenSpec.ofChange headersRangesSpec)

/-- ITS FALSE NEIGHBOUR: 'it returns false'. Refute it at one input. -/
def headersRangesWrong : ChangeSpec := { name := "headersRanges", fn := fun _ => fun
  | [d1, d2, d3, d4] => { results := [.lit (.bool false)], args := [d1, d2, d3, d4] }
  | _ => none }
def HeadersRangesWrongFalsely : Prop := headersRangesRow.holds Tryd.pinned (OpenSpec.ofChange headersRangesWrong)

/-- 'ostiarylaw5.HeadersAdded': WHATEVER THE INPUT: true; the input reads as it did. -/
def headersAddedSpec : ChangeSpec := { name := "headersAdded", fn := fun _ => fun
  | [d] => { results := [.lit (.bool true)], args := [d] }
  | _ => none }
def headersAddedRow : OpenClaim := { program := "ytpigmhokjbbffaadoor", sum := "81ff75fdb55914a0b05832d6774ab5f97632195fa7e72344b0fb02e768ac52c9", func := "ostiary/ostiarylaw5.HeadersAdded", spec := "headersAdded", inPlace := ["internal/bytealg.IndexByteString", "internal/bytealg.IndexString", "internal/abi.NoEscape", "internal/bytealg.MakeNoZero"], unfollowed := true, recurses := true, named := ["unicode/utf8.first", "unicode/utf8.acceptRanges", "internal/bytealg.MaxLen"], apart := false, laid := [("unicode/utf8.acceptRanges", laid_unicode_utf8_acceptRanges), ("unicode/utf8.first", laid_unicode_utf8_first)] }
def HeadersAddedSaid : Prop := headersAddedRow.holds Tryd.pinned (OpenSpec.ofChange headersAddedSpec)

/-- ITS FALSE NEIGHBOUR: 'it returns false'. Refute it at one input. -/
def headersAddedWrong : ChangeSpec := { name := "headersAdded", fn := fun _ => fun
  | [d] => { results := [.lit (.bool false)], args := [d] }
  | _ => none }
def HeadersAddedWrongFalsely : Prop := headersAddedRow.holds Tryd.pinned (OpenSpec.ofChange headersAddedWrong)

/-- 'ostiarylaw5.HeadersNumbers': WHATEVER THE INPUT: true; the input reads as it did. -/
def headersNumbersSpec : ChangeSpec := { name := "headersNumbers", fn := fun _ => fun
  | [] => { results := [.lit (.bool true)], args := [] }
  | _ => none }
def headersNumbersRow : OpenClaim := { program := "ytpigmhokjbbffaadoor", sum := "81ff75fdb55914a0b05832d6774ab5f97632195fa7e72344b0fb02e768ac52c9", func := "ostiary/ostiarylaw5.HeadersNumbers", spec := "headersNumbers", inPlace := ["internal/bytealg.IndexByteString", "internal/bytealg.IndexString", "internal/abi.NoEscape", "internal/bytealg.MakeNoZero"], unfollowed := true, recurses := true, named := ["unicode/utf8.first", "unicode/utf8.acceptRanges", "internal/bytealg.MaxLen"], apart := false, laid := [("unicode/utf8.acceptRanges", laid_unicode_utf8_acceptRanges), ("unicode/utf8.first", laid_unicode_utf8_first)] }
def HeadersNumbersSaid : Prop := headersNumbersRow.holds Tryd.pinned (OpenSpec.ofChange headersNumbersSpec)

/-- ITS FALSE NEIGHBOUR: 'it returns false'. Refute it at one input. -/
def headersNumbersWrong : ChangeSpec := { name := "headersNumbers", fn := fun _ => fun
  | [] => { results := [.lit (.bool false)], args := [] }
  | _ => none }
def HeadersNumbersWrongFalsely : Prop := headersNumbersRow.holds Tryd.pinned (OpenSpec.ofChange headersNumbersWrong)

/-- 'ostiarylaw5.HeadersChange': WHATEVER THE INPUT: true; the input reads as it did. -/
def headersChangeSpec : ChangeSpec := { name := "headersChange", fn := fun _ => fun
  | [d1, d2, d3] => { results := [.lit (.bool true)], args := [d1, d2, d3] }
  | _ => none }
def headersChangeRow : OpenClaim := { program := "ytpigmhokjbbffaadoor", sum := "81ff75fdb55914a0b05832d6774ab5f97632195fa7e72344b0fb02e768ac52c9", func := "ostiary/ostiarylaw5.HeadersChange", spec := "headersChange", inPlace := ["internal/bytealg.IndexByteString", "internal/bytealg.IndexString", "internal/abi.NoEscape", "internal/bytealg.MakeNoZero"], unfollowed := true, recurses := true, named := ["unicode/utf8.first", "unicode/utf8.acceptRanges", "internal/bytealg.MaxLen"], apart := false, laid := [("unicode/utf8.acceptRanges", laid_unicode_utf8_acceptRanges), ("unicode/utf8.first", laid_unicode_utf8_first)] }
def HeadersChangeSaid : Prop := headersChangeRow.holds Tryd.pinned (OpenSpec.ofChange headersChangeSpec)

/-- ITS FALSE NEIGHBOUR: 'it returns false'. Refute it at one input. -/
def headersChangeWrong : ChangeSpec := { name := "headersChange", fn := fun _ => fun
  | [d1, d2, d3] => { results := [.lit (.bool false)], args := [d1, d2, d3] }
  | _ => none }
def HeadersChangeWrongFalsely : Prop := headersChangeRow.holds Tryd.pinned (OpenSpec.ofChange headersChangeWrong)

/-- 'ostiarylaw5.HeadersSet': WHATEVER THE INPUT: true; the input reads as it did. -/
def headersSetSpec : ChangeSpec := { name := "headersSet", fn := fun _ => fun
  | [d1, d2, d3, d4] => { results := [.lit (.bool true)], args := [d1, d2, d3, d4] }
  | _ => none }
def headersSetRow : OpenClaim := { program := "ytpigmhokjbbffaadoor", sum := "81ff75fdb55914a0b05832d6774ab5f97632195fa7e72344b0fb02e768ac52c9", func := "ostiary/ostiarylaw5.HeadersSet", spec := "headersSet", inPlace := ["internal/bytealg.IndexByteString", "internal/bytealg.IndexString", "internal/abi.NoEscape", "internal/bytealg.MakeNoZero"], unfollowed := true, recurses := true, named := ["unicode/utf8.first", "unicode/utf8.acceptRanges", "internal/bytealg.MaxLen"], apart := false, laid := [("unicode/utf8.acceptRanges", laid_unicode_utf8_acceptRanges), ("unicode/utf8.first", laid_unicode_utf8_first)] }
def HeadersSetSaid : Prop := headersSetRow.holds Tryd.pinned (OpenSpec.ofChange headersSetSpec)

/-- ITS FALSE NEIGHBOUR: 'it returns false'. Refute it at one input. -/
def headersSetWrong : ChangeSpec := { name := "headersSet", fn := fun _ => fun
  | [d1, d2, d3, d4] => { results := [.lit (.bool false)], args := [d1, d2, d3, d4] }
  | _ => none }
def HeadersSetWrongFalsely : Prop := headersSetRow.holds Tryd.pinned (OpenSpec.ofChange headersSetWrong)

/-- 'ostiarylaw5.HeadersSorted': WHATEVER THE INPUT: true; the input reads as it did. -/
def headersSortedSpec : ChangeSpec := { name := "headersSorted", fn := fun _ => fun
  | [d] => { results := [.lit (.bool true)], args := [d] }
  | _ => none }
def headersSortedRow : OpenClaim := { program := "ytpigmhokjbbffaadoor", sum := "81ff75fdb55914a0b05832d6774ab5f97632195fa7e72344b0fb02e768ac52c9", func := "ostiary/ostiarylaw5.HeadersSorted", spec := "headersSorted", inPlace := ["internal/abi.NoEscape", "internal/bytealg.MakeNoZero", "internal/bytealg.IndexByteString", "internal/bytealg.IndexString"], unfollowed := true, recurses := true, named := ["internal/bytealg.MaxLen", "unicode/utf8.first", "unicode/utf8.acceptRanges"], apart := false, laid := [("unicode/utf8.acceptRanges", laid_unicode_utf8_acceptRanges), ("unicode/utf8.first", laid_unicode_utf8_first)] }
def HeadersSortedSaid : Prop := headersSortedRow.holds Tryd.pinned (OpenSpec.ofChange headersSortedSpec)

/-- ITS FALSE NEIGHBOUR: 'it returns false'. Refute it at one input. -/
def headersSortedWrong : ChangeSpec := { name := "headersSorted", fn := fun _ => fun
  | [d] => { results := [.lit (.bool false)], args := [d] }
  | _ => none }
def HeadersSortedWrongFalsely : Prop := headersSortedRow.holds Tryd.pinned (OpenSpec.ofChange headersSortedWrong)

/- THE SECOND FORM. 'bulk': how many values and letters a reading holds, each counted each time it is reached (what is shared counts as often as it is met; a slice's spare places count too). A statement '..UptoSaid' is the law's where the arguments, and the package variables that the reading takes, are together of bulk at most 1048576: NARROWER than '..Said'. Prove '..Said' where nothing that the law and all that it calls make is longer than what came in: it says more and counts as full. Else prove '..UptoSaid'. A law counts once. -/
mutual
def uptoBulk {H : Type} : DataW H → Nat
  | .lit (.string bytes) => bytes.length + 1
  | .lit _ => 1
  | .nil => 1
  | .ptr d => uptoBulk d + 1
  | .slice elems spare => uptoBulkAll elems + uptoBulkAll spare + 1
  | .agg parts => uptoBulkAll parts + 1
  | .iface _ d => uptoBulk d + 1
  | .map entries => uptoBulkEntries entries + 1
  | .held _ => 1
def uptoBulkAll {H : Type} : List (DataW H) → Nat
  | [] => 0
  | d :: r => uptoBulk d + uptoBulkAll r
def uptoBulkEntries {H : Type} : List (Lit × DataW H) → Nat
  | [] => 0
  | x :: r => uptoBulkEntry x + uptoBulkEntries r
def uptoBulkEntry {H : Type} : Lit × DataW H → Nat
  | (.string bytes, d) => bytes.length + uptoBulk d + 1
  | (_, d) => uptoBulk d + 1
 end
def uptoSmall : (H : Type) → List (DataW H) → Bool := fun _ ds => decide (uptoBulkAll ds ≤ 1048576)
def OpenSpec.upto (s : _root_.Go.ChangeSpec) : _root_.Go.OpenSpec := { _root_.Go.OpenSpec.ofChange s with cond := some uptoSmall }

/-- 'ostiarylaw5.HeadersPieces', WHERE WHAT IT READS IS OF BULK AT MOST 1048576: true; the input reads as it did. -/
def headersPiecesUptoRow : OpenClaim := { program := "ytpigmhokjbbffaadoor", sum := "81ff75fdb55914a0b05832d6774ab5f97632195fa7e72344b0fb02e768ac52c9", func := "ostiary/ostiarylaw5.HeadersPieces", spec := "headersPieces", inPlace := ["internal/abi.NoEscape", "internal/bytealg.MakeNoZero", "internal/bytealg.IndexByteString", "internal/bytealg.IndexString"], unfollowed := true, recurses := true, named := ["unicode/utf8.first", "unicode/utf8.acceptRanges", "internal/bytealg.MaxLen"], apart := false, laid := [("unicode/utf8.acceptRanges", laid_unicode_utf8_acceptRanges), ("unicode/utf8.first", laid_unicode_utf8_first)], narrowed := true }
def HeadersPiecesUptoSaid : Prop := headersPiecesUptoRow.holds Tryd.pinned (OpenSpec.upto headersPiecesSpec)

/-- 'ostiarylaw5.HeadersRanges', WHERE WHAT IT READS IS OF BULK AT MOST 1048576: true; the input reads as it did. -/
def headersRangesUptoRow : OpenClaim := { program := "ytpigmhokjbbffaadoor", sum := "81ff75fdb55914a0b05832d6774ab5f97632195fa7e72344b0fb02e768ac52c9", func := "ostiary/ostiarylaw5.HeadersRanges", spec := "headersRanges", inPlace := ["internal/bytealg.IndexByteString", "internal/bytealg.IndexString", "internal/abi.NoEscape", "internal/bytealg.MakeNoZero"], unfollowed := true, recurses := true, named := ["internal/bytealg.MaxLen", "unicode/utf8.first", "unicode/utf8.acceptRanges"], apart := false, laid := [("unicode/utf8.acceptRanges", laid_unicode_utf8_acceptRanges), ("unicode/utf8.first", laid_unicode_utf8_first)], narrowed := true }
def HeadersRangesUptoSaid : Prop := headersRangesUptoRow.holds Tryd.pinned (OpenSpec.upto headersRangesSpec)

/-- 'ostiarylaw5.HeadersAdded', WHERE WHAT IT READS IS OF BULK AT MOST 1048576: true; the input reads as it did. -/
def headersAddedUptoRow : OpenClaim := { program := "ytpigmhokjbbffaadoor", sum := "81ff75fdb55914a0b05832d6774ab5f97632195fa7e72344b0fb02e768ac52c9", func := "ostiary/ostiarylaw5.HeadersAdded", spec := "headersAdded", inPlace := ["internal/bytealg.IndexByteString", "internal/bytealg.IndexString", "internal/abi.NoEscape", "internal/bytealg.MakeNoZero"], unfollowed := true, recurses := true, named := ["unicode/utf8.first", "unicode/utf8.acceptRanges", "internal/bytealg.MaxLen"], apart := false, laid := [("unicode/utf8.acceptRanges", laid_unicode_utf8_acceptRanges), ("unicode/utf8.first", laid_unicode_utf8_first)], narrowed := true }
def HeadersAddedUptoSaid : Prop := headersAddedUptoRow.holds Tryd.pinned (OpenSpec.upto headersAddedSpec)

/-- 'ostiarylaw5.HeadersNumbers', WHERE WHAT IT READS IS OF BULK AT MOST 1048576: true; the input reads as it did. -/
def headersNumbersUptoRow : OpenClaim := { program := "ytpigmhokjbbffaadoor", sum := "81ff75fdb55914a0b05832d6774ab5f97632195fa7e72344b0fb02e768ac52c9", func := "ostiary/ostiarylaw5.HeadersNumbers", spec := "headersNumbers", inPlace := ["internal/bytealg.IndexByteString", "internal/bytealg.IndexString", "internal/abi.NoEscape", "internal/bytealg.MakeNoZero"], unfollowed := true, recurses := true, named := ["unicode/utf8.first", "unicode/utf8.acceptRanges", "internal/bytealg.MaxLen"], apart := false, laid := [("unicode/utf8.acceptRanges", laid_unicode_utf8_acceptRanges), ("unicode/utf8.first", laid_unicode_utf8_first)], narrowed := true }
def HeadersNumbersUptoSaid : Prop := headersNumbersUptoRow.holds Tryd.pinned (OpenSpec.upto headersNumbersSpec)

/-- 'ostiarylaw5.HeadersChange', WHERE WHAT IT READS IS OF BULK AT MOST 1048576: true; the input reads as it did. -/
def headersChangeUptoRow : OpenClaim := { program := "ytpigmhokjbbffaadoor", sum := "81ff75fdb55914a0b05832d6774ab5f97632195fa7e72344b0fb02e768ac52c9", func := "ostiary/ostiarylaw5.HeadersChange", spec := "headersChange", inPlace := ["internal/bytealg.IndexByteString", "internal/bytealg.IndexString", "internal/abi.NoEscape", "internal/bytealg.MakeNoZero"], unfollowed := true, recurses := true, named := ["unicode/utf8.first", "unicode/utf8.acceptRanges", "internal/bytealg.MaxLen"], apart := false, laid := [("unicode/utf8.acceptRanges", laid_unicode_utf8_acceptRanges), ("unicode/utf8.first", laid_unicode_utf8_first)], narrowed := true }
def HeadersChangeUptoSaid : Prop := headersChangeUptoRow.holds Tryd.pinned (OpenSpec.upto headersChangeSpec)

/-- 'ostiarylaw5.HeadersSet', WHERE WHAT IT READS IS OF BULK AT MOST 1048576: true; the input reads as it did. -/
def headersSetUptoRow : OpenClaim := { program := "ytpigmhokjbbffaadoor", sum := "81ff75fdb55914a0b05832d6774ab5f97632195fa7e72344b0fb02e768ac52c9", func := "ostiary/ostiarylaw5.HeadersSet", spec := "headersSet", inPlace := ["internal/bytealg.IndexByteString", "internal/bytealg.IndexString", "internal/abi.NoEscape", "internal/bytealg.MakeNoZero"], unfollowed := true, recurses := true, named := ["unicode/utf8.first", "unicode/utf8.acceptRanges", "internal/bytealg.MaxLen"], apart := false, laid := [("unicode/utf8.acceptRanges", laid_unicode_utf8_acceptRanges), ("unicode/utf8.first", laid_unicode_utf8_first)], narrowed := true }
def HeadersSetUptoSaid : Prop := headersSetUptoRow.holds Tryd.pinned (OpenSpec.upto headersSetSpec)

/-- 'ostiarylaw5.HeadersSorted', WHERE WHAT IT READS IS OF BULK AT MOST 1048576: true; the input reads as it did. -/
def headersSortedUptoRow : OpenClaim := { program := "ytpigmhokjbbffaadoor", sum := "81ff75fdb55914a0b05832d6774ab5f97632195fa7e72344b0fb02e768ac52c9", func := "ostiary/ostiarylaw5.HeadersSorted", spec := "headersSorted", inPlace := ["internal/abi.NoEscape", "internal/bytealg.MakeNoZero", "internal/bytealg.IndexByteString", "internal/bytealg.IndexString"], unfollowed := true, recurses := true, named := ["internal/bytealg.MaxLen", "unicode/utf8.first", "unicode/utf8.acceptRanges"], apart := false, laid := [("unicode/utf8.acceptRanges", laid_unicode_utf8_acceptRanges), ("unicode/utf8.first", laid_unicode_utf8_first)], narrowed := true }
def HeadersSortedUptoSaid : Prop := headersSortedUptoRow.holds Tryd.pinned (OpenSpec.upto headersSortedSpec)

end Rows
end Go.Proofs.YtpigmhokjbbffaaDoor
