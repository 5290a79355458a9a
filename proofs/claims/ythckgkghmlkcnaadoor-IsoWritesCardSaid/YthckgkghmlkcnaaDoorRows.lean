/-
  NARROWER THAN 'FOR EVERY INPUT', by the rows' own cells (each row's printed sentence says how): IsoReads: laid · IsoBack: laid · IsoSizes: laid · IsoBits: laid · IsoWrites: laid · IsoPuts: laid.
  DERIVED. THE GIVEN ROWS OF THIS SEAT. 6 by the template 'for every input the law returns true; each argument reads behind the call as it read before'; 0 by the template 'total and deterministic' (their statements: YthckgkghmlkcnaaDoorTotals.lean).
  GIVEN WITH THE SEED: the statements are not yours to turn. If you find one false, say at which input.
  Laid BY PROGRAM, IN A SANDBOX (cutbox-rows.mjs): the forced cells as the released guide's own fill.sh prints them over the translation 5c971de05f161387… (all of the seat's roots in one cut). By AI agents, Wed Nov 11 2026. No macro, syntax, notation, axiom, sorry.
-/
import Derived.Test.YthckgkghmlkcnaaDoorChecked
import GoSem.PinnedTables
import GoSem.Claim
import GoSem.ClaimJoined
import GoSem.ClaimMapViews
import Derived.JoinedTies
import Derived.KernelRfl
namespace Go.Proofs.YthckgkghmlkcnaaDoor
/- THE CELL 'sum', in the pinned program and in every row, IS THE sha256 OF THE DUMP (.gsa) THAT YthckgkghmlkcnaaDoorProg.lean LOADS. Nothing in Lean hashes anything: it is a label: what it is worth is what the hold of that sum in a sandbox is worth. -/
noncomputable def Tryd.pinned : Pinned := { name := "ythckgkghmlkcnaadoor", sum := "5c971de05f161387b2872f64d9a68a0946c49b431c44afcc2ed8afac09a84b73", checked := Tryd.checked }
namespace Rows
def none {H : Type} : Left H := { results := [], args := [] }

/- WHAT THE LISTED PACKAGE-LEVEL VARIABLES READ AS WHEN THE CALL BEGINS. Each datum BY PROGRAM (the guide's laid-datum.mjs) off the statement by which the dump's own 'gosem.cut.vars' lays the variable. In a bare row this is a premise. The card (YthckgkghmlkcnaaDoorCards.lean) ties it to the program's text. -/
def laid_unicode_utf8_acceptRanges {H : Type} : DataW H := .agg [.agg [.lit (.int .u8 128), .lit (.int .u8 191)], .agg [.lit (.int .u8 160), .lit (.int .u8 191)], .agg [.lit (.int .u8 128), .lit (.int .u8 159)], .agg [.lit (.int .u8 144), .lit (.int .u8 191)], .agg [.lit (.int .u8 128), .lit (.int .u8 143)], .agg [.lit (.int .u8 0), .lit (.int .u8 0)], .agg [.lit (.int .u8 0), .lit (.int .u8 0)], .agg [.lit (.int .u8 0), .lit (.int .u8 0)], .agg [.lit (.int .u8 0), .lit (.int .u8 0)], .agg [.lit (.int .u8 0), .lit (.int .u8 0)], .agg [.lit (.int .u8 0), .lit (.int .u8 0)], .agg [.lit (.int .u8 0), .lit (.int .u8 0)], .agg [.lit (.int .u8 0), .lit (.int .u8 0)], .agg [.lit (.int .u8 0), .lit (.int .u8 0)], .agg [.lit (.int .u8 0), .lit (.int .u8 0)], .agg [.lit (.int .u8 0), .lit (.int .u8 0)]]
/-- One of Go's own tables, pinned by name: the form's constant. -/
def laid_unicode_utf8_first : DataW Unit := Go.Pinned.utf8First

/-- 'moneyerlaw12.IsoReads': WHATEVER THE INPUT: true; the input reads as it did. -/
def isoReadsSpec : ChangeSpec := { name := "isoReads", fn := fun _ => fun
  | [d] => { results := [.lit (.bool true)], args := [d] }
  | _ => none }
def isoReadsRow : OpenClaim := { program := "ythckgkghmlkcnaadoor", sum := "5c971de05f161387b2872f64d9a68a0946c49b431c44afcc2ed8afac09a84b73", func := "moneyer/moneyerlaw12.IsoReads", spec := "isoReads", inPlace := ["internal/bytealg.IndexByteString", "internal/bytealg.IndexString"], unfollowed := true, recurses := true, named := ["unicode/utf8.first", "unicode/utf8.acceptRanges", "internal/bytealg.MaxLen"], apart := false, laid := [("unicode/utf8.acceptRanges", laid_unicode_utf8_acceptRanges), ("unicode/utf8.first", laid_unicode_utf8_first)] }
def IsoReadsSaid : Prop := isoReadsRow.holds Tryd.pinned (OpenSpec.ofChange isoReadsSpec)

/-- ITS FALSE NEIGHBOUR: 'it returns false'. Refute it at one input. -/
def isoReadsWrong : ChangeSpec := { name := "isoReads", fn := fun _ => fun
  | [d] => { results := [.lit (.bool false)], args := [d] }
  | _ => none }
def IsoReadsWrongFalsely : Prop := isoReadsRow.holds Tryd.pinned (OpenSpec.ofChange isoReadsWrong)

/-- 'moneyerlaw12.IsoBack': WHATEVER THE INPUT: true; the input reads as it did. -/
def isoBackSpec : ChangeSpec := { name := "isoBack", fn := fun _ => fun
  | [d1, d2, d3] => { results := [.lit (.bool true)], args := [d1, d2, d3] }
  | _ => none }
def isoBackRow : OpenClaim := { program := "ythckgkghmlkcnaadoor", sum := "5c971de05f161387b2872f64d9a68a0946c49b431c44afcc2ed8afac09a84b73", func := "moneyer/moneyerlaw12.IsoBack", spec := "isoBack", inPlace := ["internal/bytealg.IndexByteString", "internal/bytealg.IndexString"], unfollowed := true, recurses := true, named := ["unicode/utf8.first", "unicode/utf8.acceptRanges", "internal/bytealg.MaxLen"], apart := false, laid := [("unicode/utf8.acceptRanges", laid_unicode_utf8_acceptRanges), ("unicode/utf8.first", laid_unicode_utf8_first)] }
def IsoBackSaid : Prop := isoBackRow.holds Tryd.pinned (OpenSpec.ofChange isoBackSpec)

/-- ITS FALSE NEIGHBOUR: 'it returns false'. Refute it at one input. -/
def isoBackWrong : ChangeSpec := { name := "isoBack", fn := fun _ => fun
  | [d1, d2, d3] => { results := [.lit (.bool false)], args := [d1, d2, d3] }
  | _ => none }
def IsoBackWrongFalsely : Prop := isoBackRow.holds Tryd.pinned (OpenSpec.ofChange isoBackWrong)

/-- 'moneyerlaw12.IsoSizes': WHATEVER THE INPUT: true; the input reads as it did. -/
def isoSizesSpec : ChangeSpec := { name := "isoSizes", fn := fun _ => fun
  | [d] => { results := [.lit (.bool true)], args := [d] }
  | _ => none }
def isoSizesRow : OpenClaim := { program := "ythckgkghmlkcnaadoor", sum := "5c971de05f161387b2872f64d9a68a0946c49b431c44afcc2ed8afac09a84b73", func := "moneyer/moneyerlaw12.IsoSizes", spec := "isoSizes", inPlace := ["internal/bytealg.IndexByteString", "internal/bytealg.IndexString"], unfollowed := true, recurses := true, named := ["unicode/utf8.first", "unicode/utf8.acceptRanges", "internal/bytealg.MaxLen"], apart := false, laid := [("unicode/utf8.acceptRanges", laid_unicode_utf8_acceptRanges), ("unicode/utf8.first", laid_unicode_utf8_first)] }
def IsoSizesSaid : Prop := isoSizesRow.holds Tryd.pinned (OpenSpec.ofChange isoSizesSpec)

/-- ITS FALSE NEIGHBOUR: 'it returns false'. Refute it at one input. -/
def isoSizesWrong : ChangeSpec := { name := "isoSizes", fn := fun _ => fun
  | [d] => { results := [.lit (.bool false)], args := [d] }
  | _ => none }
def IsoSizesWrongFalsely : Prop := isoSizesRow.holds Tryd.pinned (OpenSpec.ofChange isoSizesWrong)

/-- 'moneyerlaw12.IsoBits': WHATEVER THE INPUT: true; the input reads as it did. -/
def isoBitsSpec : ChangeSpec := { name := "isoBits", fn := fun _ => fun
  | [d] => { results := [.lit (.bool true)], args := [d] }
  | _ => none }
def isoBitsRow : OpenClaim := { program := "ythckgkghmlkcnaadoor", sum := "5c971de05f161387b2872f64d9a68a0946c49b431c44afcc2ed8afac09a84b73", func := "moneyer/moneyerlaw12.IsoBits", spec := "isoBits", inPlace := ["internal/bytealg.IndexByteString", "internal/bytealg.IndexString"], unfollowed := true, recurses := true, named := ["unicode/utf8.first", "unicode/utf8.acceptRanges", "internal/bytealg.MaxLen"], apart := false, laid := [("unicode/utf8.acceptRanges", laid_unicode_utf8_acceptRanges), ("unicode/utf8.first", laid_unicode_utf8_first)] }
def IsoBitsSaid : Prop := isoBitsRow.holds Tryd.pinned (OpenSpec.ofChange isoBitsSpec)

/-- ITS FALSE NEIGHBOUR: 'it returns false'. Refute it at one input. -/
def isoBitsWrong : ChangeSpec := { name := "isoBits", fn := fun _ => fun
  | [d] => { results := [.lit (.bool false)], args := [d] }
  | _ => none }
def IsoBitsWrongFalsely : Prop := isoBitsRow.holds Tryd.pinned (OpenSpec.ofChange isoBitsWrong)

/-- 'moneyerlaw12.IsoWrites': WHATEVER THE INPUT: true; the input reads as it did. -/
def isoWritesSpec : ChangeSpec := { name := "isoWrites", fn := fun _ => fun
  | [d1, d2, d3] => { results := [.lit (.bool true)], args := [d1, d2, d3] }
  | _ => none }
def isoWritesRow : OpenClaim := { program := "ythckgkghmlkcnaadoor", sum := "5c971de05f161387b2872f64d9a68a0946c49b431c44afcc2ed8afac09a84b73", func := "moneyer/moneyerlaw12.IsoWrites", spec := "isoWrites", inPlace := ["internal/bytealg.IndexByteString", "internal/bytealg.IndexString", "slices.overlaps[moneyer/api.Field]"], unfollowed := true, recurses := true, named := ["unicode/utf8.first", "unicode/utf8.acceptRanges", "internal/bytealg.MaxLen"], apart := false, laid := [("unicode/utf8.acceptRanges", laid_unicode_utf8_acceptRanges), ("unicode/utf8.first", laid_unicode_utf8_first)] }
def IsoWritesSaid : Prop := isoWritesRow.holds Tryd.pinned (OpenSpec.ofChange isoWritesSpec)

/-- ITS FALSE NEIGHBOUR: 'it returns false'. Refute it at one input. -/
def isoWritesWrong : ChangeSpec := { name := "isoWrites", fn := fun _ => fun
  | [d1, d2, d3] => { results := [.lit (.bool false)], args := [d1, d2, d3] }
  | _ => none }
def IsoWritesWrongFalsely : Prop := isoWritesRow.holds Tryd.pinned (OpenSpec.ofChange isoWritesWrong)

/-- 'moneyerlaw12.IsoPuts': WHATEVER THE INPUT: true; the input reads as it did. -/
def isoPutsSpec : ChangeSpec := { name := "isoPuts", fn := fun _ => fun
  | [d1, d2, d3, d4] => { results := [.lit (.bool true)], args := [d1, d2, d3, d4] }
  | _ => none }
def isoPutsRow : OpenClaim := { program := "ythckgkghmlkcnaadoor", sum := "5c971de05f161387b2872f64d9a68a0946c49b431c44afcc2ed8afac09a84b73", func := "moneyer/moneyerlaw12.IsoPuts", spec := "isoPuts", inPlace := ["internal/bytealg.IndexByteString", "internal/bytealg.IndexString", "slices.overlaps[moneyer/api.Field]"], unfollowed := true, recurses := true, named := ["unicode/utf8.first", "unicode/utf8.acceptRanges", "internal/bytealg.MaxLen"], apart := false, laid := [("unicode/utf8.acceptRanges", laid_unicode_utf8_acceptRanges), ("unicode/utf8.first", laid_unicode_utf8_first)] }
def IsoPutsSaid : Prop := isoPutsRow.holds Tryd.pinned (OpenSpec.ofChange isoPutsSpec)

/-- ITS FALSE NEIGHBOUR: 'it returns false'. Refute it at one input. -/
def isoPutsWrong : ChangeSpec := { name := "isoPuts", fn := fun _ => fun
  | [d1, d2, d3, d4] => { results := [.lit (.bool false)], args := [d1, d2, d3, d4] }
  | _ => none }
def IsoPutsWrongFalsely : Prop := isoPutsRow.holds Tryd.pinned (OpenSpec.ofChange isoPutsWrong)

/- THE SECOND FORM. 'bulk': how many values and letters a reading holds, each counted each time it is reached (what is shared counts as often as it is met; a slice's spare places count too). A statement '..UptoSaid' is the law's where the arguments, and the package variables that the reading takes, are together of bulk at most 1048576: NARROWER than '..Said'. Prove '..Said' where nothing that the law and all that it calls make is longer than what came in: it says more and counts as full. Else prove '..UptoSaid'. A law counts once. -/
mutual
def uptoBulk {H : Type} : DataW H → Nat
  | .lit (.string bytes) => bytes.length + 1
  | .lit _ => 1
  | .nil => 1
  | .ptr d => uptoBulk d + 1
  | .slice elems spare => uptoBulkAll elems + uptoBulkAll spare + 1
  | .agg parts => uptoBulkAll parts + 1
  | .iface _ d => uptoBulk d + 1
  | .map entries => uptoBulkEntries entries + 1
  | .held _ => 1
def uptoBulkAll {H : Type} : List (DataW H) → Nat
  | [] => 0
  | d :: r => uptoBulk d + uptoBulkAll r
def uptoBulkEntries {H : Type} : List (Lit × DataW H) → Nat
  | [] => 0
  | x :: r => uptoBulkEntry x + uptoBulkEntries r
def uptoBulkEntry {H : Type} : Lit × DataW H → Nat
  | (.string bytes, d) => bytes.length + uptoBulk d + 1
  | (_, d) => uptoBulk d + 1
 end
def uptoSmall : (H : Type) → List (DataW H) → Bool := fun _ ds => decide (uptoBulkAll ds ≤ 1048576)
def OpenSpec.upto (s : _root_.Go.ChangeSpec) : _root_.Go.OpenSpec := { _root_.Go.OpenSpec.ofChange s with cond := some uptoSmall }

/-- 'moneyerlaw12.IsoReads', WHERE WHAT IT READS IS OF BULK AT MOST 1048576: true; the input reads as it did. -/
def isoReadsUptoRow : OpenClaim := { program := "ythckgkghmlkcnaadoor", sum := "5c971de05f161387b2872f64d9a68a0946c49b431c44afcc2ed8afac09a84b73", func := "moneyer/moneyerlaw12.IsoReads", spec := "isoReads", inPlace := ["internal/bytealg.IndexByteString", "internal/bytealg.IndexString"], unfollowed := true, recurses := true, named := ["unicode/utf8.first", "unicode/utf8.acceptRanges", "internal/bytealg.MaxLen"], apart := false, laid := [("unicode/utf8.acceptRanges", laid_unicode_utf8_acceptRanges), ("unicode/utf8.first", laid_unicode_utf8_first)], narrowed := true }
def IsoReadsUptoSaid : Prop := isoReadsUptoRow.holds Tryd.pinned (OpenSpec.upto isoReadsSpec)

/-- 'moneyerlaw12.IsoBack', WHERE WHAT IT READS IS OF BULK AT MOST 1048576: true; the input reads as it did. -/
def isoBackUptoRow : OpenClaim := { program := "ythckgkghmlkcnaadoor", sum := "5c971de05f161387b2872f64d9a68a0946c49b431c44afcc2ed8afac09a84b73", func := "moneyer/moneyerlaw12.IsoBack", spec := "isoBack", inPlace := ["internal/bytealg.IndexByteString", "internal/bytealg.IndexString"], unfollowed := true, recurses := true, named := ["unicode/utf8.first", "unicode/utf8.acceptRanges", "internal/bytealg.MaxLen"], apart := false, laid := [("unicode/utf8.acceptRanges", laid_unicode_utf8_acceptRanges), ("unicode/utf8.first", laid_unicode_utf8_first)], narrowed := true }
def IsoBackUptoSaid : Prop := isoBackUptoRow.holds Tryd.pinned (OpenSpec.upto isoBackSpec)

/-- 'moneyerlaw12.IsoSizes', WHERE WHAT IT READS IS OF BULK AT MOST 1048576: true; the input reads as it did. -/
def isoSizesUptoRow : OpenClaim := { program := "ythckgkghmlkcnaadoor", sum := "5c971de05f161387b2872f64d9a68a0946c49b431c44afcc2ed8afac09a84b73", func := "moneyer/moneyerlaw12.IsoSizes", spec := "isoSizes", inPlace := ["internal/bytealg.IndexByteString", "internal/bytealg.IndexString"], unfollowed := true, recurses := true, named := ["unicode/utf8.first", "unicode/utf8.acceptRanges", "internal/bytealg.MaxLen"], apart := false, laid := [("unicode/utf8.acceptRanges", laid_unicode_utf8_acceptRanges), ("unicode/utf8.first", laid_unicode_utf8_first)], narrowed := true }
def IsoSizesUptoSaid : Prop := isoSizesUptoRow.holds Tryd.pinned (OpenSpec.upto isoSizesSpec)

/-- 'moneyerlaw12.IsoBits', WHERE WHAT IT READS IS OF BULK AT MOST 1048576: true; the input reads as it did. -/
def isoBitsUptoRow : OpenClaim := { program := "ythckgkghmlkcnaadoor", sum := "5c971de05f161387b2872f64d9a68a0946c49b431c44afcc2ed8afac09a84b73", func := "moneyer/moneyerlaw12.IsoBits", spec := "isoBits", inPlace := ["internal/bytealg.IndexByteString", "internal/bytealg.IndexString"], unfollowed := true, recurses := true, named := ["unicode/utf8.first", "unicode/utf8.acceptRanges", "internal/bytealg.MaxLen"], apart := false, laid := [("unicode/utf8.acceptRanges", laid_unicode_utf8_acceptRanges), ("unicode/utf8.first", laid_unicode_utf8_first)], narrowed := true }
def IsoBitsUptoSaid : Prop := isoBitsUptoRow.holds Tryd.pinned (OpenSpec.upto isoBitsSpec)

/-- 'moneyerlaw12.IsoWrites', WHERE WHAT IT READS IS OF BULK AT MOST 1048576: true; the input reads as it did. -/
def isoWritesUptoRow : OpenClaim := { program := "ythckgkghmlkcnaadoor", sum := "5c971de05f161387b2872f64d9a68a0946c49b431c44afcc2ed8afac09a84b73", func := "moneyer/moneyerlaw12.IsoWrites", spec := "isoWrites", inPlace := ["internal/bytealg.IndexByteString", "internal/bytealg.IndexString", "slices.overlaps[moneyer/api.Field]"], unfollowed := true, recurses := true, named := ["unicode/utf8.first", "unicode/utf8.acceptRanges", "internal/bytealg.MaxLen"], apart := false, laid := [("unicode/utf8.acceptRanges", laid_unicode_utf8_acceptRanges), ("unicode/utf8.first", laid_unicode_utf8_first)], narrowed := true }
def IsoWritesUptoSaid : Prop := isoWritesUptoRow.holds Tryd.pinned (OpenSpec.upto isoWritesSpec)

/-- 'moneyerlaw12.IsoPuts', WHERE WHAT IT READS IS OF BULK AT MOST 1048576: true; the input reads as it did. -/
def isoPutsUptoRow : OpenClaim := { program := "ythckgkghmlkcnaadoor", sum := "5c971de05f161387b2872f64d9a68a0946c49b431c44afcc2ed8afac09a84b73", func := "moneyer/moneyerlaw12.IsoPuts", spec := "isoPuts", inPlace := ["internal/bytealg.IndexByteString", "internal/bytealg.IndexString", "slices.overlaps[moneyer/api.Field]"], unfollowed := true, recurses := true, named := ["unicode/utf8.first", "unicode/utf8.acceptRanges", "internal/bytealg.MaxLen"], apart := false, laid := [("unicode/utf8.acceptRanges", laid_unicode_utf8_acceptRanges), ("unicode/utf8.first", laid_unicode_utf8_first)], narrowed := true }
def IsoPutsUptoSaid : Prop := isoPutsUptoRow.holds Tryd.pinned (OpenSpec.upto isoPutsSpec)

end Rows
end Go.Proofs.YthckgkghmlkcnaaDoor
