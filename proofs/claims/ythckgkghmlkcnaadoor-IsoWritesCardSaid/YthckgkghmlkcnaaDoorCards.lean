/-
  DERIVED. GIVEN WITH THE SEED: THE CARDS: each row of YthckgkghmlkcnaaDoorRows.lean that lists a variable, with what it lists TIED to the program's text (the seventh form; the later family's looks); each row that meets fmt, with fmt's text TOLD by the authors' own Lean function (tested against real Go, not proved from fmt's source: count such statements apart). THE CARD IS WHAT COUNTS. Prove the row's statement (the work); the ties are given (YthckgkghmlkcnaaDoorTie.lean); close each card by the builder's one call (the guide's Derived/Test/ToyasCard.lean, 'card_holds'). Laid BY PROGRAM, IN A SANDBOX (cutbox-door.mjs). By AI agents, Wed Nov 11 2026. No macro, syntax, notation, axiom, sorry.
-/
import Derived.Test.YthckgkghmlkcnaaDoorRows
import GoSem.ClaimSeven
namespace Go.Proofs.YthckgkghmlkcnaaDoor
namespace Rows

/-- THE TIED CARD OF 'moneyerlaw12.IsoReads'. -/
def isoReadsCard : Claim7 := { stood := { row := isoReadsRow, standIns := [], harness := (true, "dfd119ab7da9c640107b04ee2f37d54e4f5fef4ed146ada690047587b3c3aac1"), looks := false }, kinds := [], alts := [], laidByText := true, laidKinds := [.data, .pinned], laidTests := true, laidLooks := .later }
def IsoReadsCardSaid : Prop := Claim7.holds Tryd.pinned (.plain (OpenSpec.ofChange isoReadsSpec)) isoReadsCard

/-- THE TIED CARD OF 'moneyerlaw12.IsoBack'. -/
def isoBackCard : Claim7 := { stood := { row := isoBackRow, standIns := [], harness := (true, "dfd119ab7da9c640107b04ee2f37d54e4f5fef4ed146ada690047587b3c3aac1"), looks := false }, kinds := [], alts := [], laidByText := true, laidKinds := [.data, .pinned], laidTests := true, laidLooks := .later }
def IsoBackCardSaid : Prop := Claim7.holds Tryd.pinned (.plain (OpenSpec.ofChange isoBackSpec)) isoBackCard

/-- THE TIED CARD OF 'moneyerlaw12.IsoSizes'. -/
def isoSizesCard : Claim7 := { stood := { row := isoSizesRow, standIns := [], harness := (true, "dfd119ab7da9c640107b04ee2f37d54e4f5fef4ed146ada690047587b3c3aac1"), looks := false }, kinds := [], alts := [], laidByText := true, laidKinds := [.data, .pinned], laidTests := true, laidLooks := .later }
def IsoSizesCardSaid : Prop := Claim7.holds Tryd.pinned (.plain (OpenSpec.ofChange isoSizesSpec)) isoSizesCard

/-- THE TIED CARD OF 'moneyerlaw12.IsoBits'. -/
def isoBitsCard : Claim7 := { stood := { row := isoBitsRow, standIns := [], harness := (true, "dfd119ab7da9c640107b04ee2f37d54e4f5fef4ed146ada690047587b3c3aac1"), looks := false }, kinds := [], alts := [], laidByText := true, laidKinds := [.data, .pinned], laidTests := true, laidLooks := .later }
def IsoBitsCardSaid : Prop := Claim7.holds Tryd.pinned (.plain (OpenSpec.ofChange isoBitsSpec)) isoBitsCard

/-- THE TIED CARD OF 'moneyerlaw12.IsoWrites'. -/
def isoWritesCard : Claim7 := { stood := { row := isoWritesRow, standIns := [], harness := (true, "dfd119ab7da9c640107b04ee2f37d54e4f5fef4ed146ada690047587b3c3aac1"), looks := false }, kinds := [], alts := [], laidByText := true, laidKinds := [.data, .pinned], laidTests := true, laidLooks := .later }
def IsoWritesCardSaid : Prop := Claim7.holds Tryd.pinned (.plain (OpenSpec.ofChange isoWritesSpec)) isoWritesCard

/-- THE TIED CARD OF 'moneyerlaw12.IsoPuts'. -/
def isoPutsCard : Claim7 := { stood := { row := isoPutsRow, standIns := [], harness := (true, "dfd119ab7da9c640107b04ee2f37d54e4f5fef4ed146ada690047587b3c3aac1"), looks := false }, kinds := [], alts := [], laidByText := true, laidKinds := [.data, .pinned], laidTests := true, laidLooks := .later }
def IsoPutsCardSaid : Prop := Claim7.holds Tryd.pinned (.plain (OpenSpec.ofChange isoPutsSpec)) isoPutsCard

/-- THE SECOND FORM's CARD OF 'moneyerlaw12.IsoReads'. -/
def isoReadsUptoCard : Claim7 := { stood := { row := isoReadsUptoRow, standIns := [], harness := (true, "dfd119ab7da9c640107b04ee2f37d54e4f5fef4ed146ada690047587b3c3aac1"), looks := false }, kinds := [], alts := [], laidByText := true, laidKinds := [.data, .pinned], laidTests := true, laidLooks := .later }
def IsoReadsUptoCardSaid : Prop := Claim7.holds Tryd.pinned (.plain (OpenSpec.upto isoReadsSpec)) isoReadsUptoCard

/-- THE SECOND FORM's CARD OF 'moneyerlaw12.IsoBack'. -/
def isoBackUptoCard : Claim7 := { stood := { row := isoBackUptoRow, standIns := [], harness := (true, "dfd119ab7da9c640107b04ee2f37d54e4f5fef4ed146ada690047587b3c3aac1"), looks := false }, kinds := [], alts := [], laidByText := true, laidKinds := [.data, .pinned], laidTests := true, laidLooks := .later }
def IsoBackUptoCardSaid : Prop := Claim7.holds Tryd.pinned (.plain (OpenSpec.upto isoBackSpec)) isoBackUptoCard

/-- THE SECOND FORM's CARD OF 'moneyerlaw12.IsoSizes'. -/
def isoSizesUptoCard : Claim7 := { stood := { row := isoSizesUptoRow, standIns := [], harness := (true, "dfd119ab7da9c640107b04ee2f37d54e4f5fef4ed146ada690047587b3c3aac1"), looks := false }, kinds := [], alts := [], laidByText := true, laidKinds := [.data, .pinned], laidTests := true, laidLooks := .later }
def IsoSizesUptoCardSaid : Prop := Claim7.holds Tryd.pinned (.plain (OpenSpec.upto isoSizesSpec)) isoSizesUptoCard

/-- THE SECOND FORM's CARD OF 'moneyerlaw12.IsoBits'. -/
def isoBitsUptoCard : Claim7 := { stood := { row := isoBitsUptoRow, standIns := [], harness := (true, "dfd119ab7da9c640107b04ee2f37d54e4f5fef4ed146ada690047587b3c3aac1"), looks := false }, kinds := [], alts := [], laidByText := true, laidKinds := [.data, .pinned], laidTests := true, laidLooks := .later }
def IsoBitsUptoCardSaid : Prop := Claim7.holds Tryd.pinned (.plain (OpenSpec.upto isoBitsSpec)) isoBitsUptoCard

/-- THE SECOND FORM's CARD OF 'moneyerlaw12.IsoWrites'. -/
def isoWritesUptoCard : Claim7 := { stood := { row := isoWritesUptoRow, standIns := [], harness := (true, "dfd119ab7da9c640107b04ee2f37d54e4f5fef4ed146ada690047587b3c3aac1"), looks := false }, kinds := [], alts := [], laidByText := true, laidKinds := [.data, .pinned], laidTests := true, laidLooks := .later }
def IsoWritesUptoCardSaid : Prop := Claim7.holds Tryd.pinned (.plain (OpenSpec.upto isoWritesSpec)) isoWritesUptoCard

/-- THE SECOND FORM's CARD OF 'moneyerlaw12.IsoPuts'. -/
def isoPutsUptoCard : Claim7 := { stood := { row := isoPutsUptoRow, standIns := [], harness := (true, "dfd119ab7da9c640107b04ee2f37d54e4f5fef4ed146ada690047587b3c3aac1"), looks := false }, kinds := [], alts := [], laidByText := true, laidKinds := [.data, .pinned], laidTests := true, laidLooks := .later }
def IsoPutsUptoCardSaid : Prop := Claim7.holds Tryd.pinned (.plain (OpenSpec.upto isoPutsSpec)) isoPutsUptoCard
end Rows
end Go.Proofs.YthckgkghmlkcnaaDoor
