/-
  DERIVED. GIVEN WITH THE SEED: THE CARDS: each row of YthabllnhlhkejaaGreatDoorRows.lean that lists a variable, with what it lists TIED to the program's text (the seventh form; the later family's looks); each row that meets fmt, with fmt's text TOLD by the authors' own Lean function (tested against real Go, not proved from fmt's source: count such statements apart). THE CARD IS WHAT COUNTS. Prove the row's statement (the work); the ties are given (YthabllnhlhkejaaGreatDoorTie.lean); close each card by the builder's one call (the guide's Derived/Test/ToyasCard.lean, 'card_holds'). Laid BY PROGRAM, IN A SANDBOX (cutbox-door.mjs). By AI agents, Wed Nov 11 2026. No macro, syntax, notation, axiom, sorry.
-/
import Derived.Test.YthabllnhlhkejaaGreatDoorRows
import GoSem.ClaimSeven
namespace Go.Proofs.YthabllnhlhkejaaGreatDoor
namespace Rows

/-- THE TIED CARD OF 'moneyerlaw22.StoreNumbers'. -/
def storeNumbersCard : Claim7 := { stood := { row := storeNumbersRow, standIns := [], harness := (true, "fdea35a4657e825e19116e22aa8a0693d468a0325ae7e124757d27e96763949b"), looks := false }, kinds := [], alts := [], laidByText := true, laidKinds := [.data, .data, .data], laidTests := true, laidLooks := .later }
def StoreNumbersCardSaid : Prop := Claim7.holds Tryz.pinned (.plain (OpenSpec.ofChange storeNumbersSpec)) storeNumbersCard

/-- THE TIED CARD OF 'moneyerlaw22.StoreApart'. -/
def storeApartCard : Claim7 := { stood := { row := storeApartRow, standIns := [], harness := (true, "fdea35a4657e825e19116e22aa8a0693d468a0325ae7e124757d27e96763949b"), looks := false }, kinds := [], alts := [], laidByText := true, laidKinds := [.data, .data, .data], laidTests := true, laidLooks := .later }
def StoreApartCardSaid : Prop := Claim7.holds Tryz.pinned (.plain (OpenSpec.ofChange storeApartSpec)) storeApartCard

/-- THE TIED CARD OF 'moneyerlaw22.StoreFresh'. -/
def storeFreshCard : Claim7 := { stood := { row := storeFreshRow, standIns := [], harness := (true, "fdea35a4657e825e19116e22aa8a0693d468a0325ae7e124757d27e96763949b"), looks := false }, kinds := [], alts := [], laidByText := true, laidKinds := [.data, .data, .data], laidTests := true, laidLooks := .later }
def StoreFreshCardSaid : Prop := Claim7.holds Tryz.pinned (.plain (OpenSpec.ofChange storeFreshSpec)) storeFreshCard

/-- THE TIED CARD OF 'moneyerlaw22.StoreLasts'. -/
def storeLastsCard : Claim7 := { stood := { row := storeLastsRow, standIns := [], harness := (true, "fdea35a4657e825e19116e22aa8a0693d468a0325ae7e124757d27e96763949b"), looks := false }, kinds := [], alts := [], laidByText := true, laidKinds := [.data, .data, .data], laidTests := true, laidLooks := .later }
def StoreLastsCardSaid : Prop := Claim7.holds Tryz.pinned (.plain (OpenSpec.ofChange storeLastsSpec)) storeLastsCard

/-- THE SECOND FORM's CARD OF 'moneyerlaw22.StoreNumbers'. -/
def storeNumbersUptoCard : Claim7 := { stood := { row := storeNumbersUptoRow, standIns := [], harness := (true, "fdea35a4657e825e19116e22aa8a0693d468a0325ae7e124757d27e96763949b"), looks := false }, kinds := [], alts := [], laidByText := true, laidKinds := [.data, .data, .data], laidTests := true, laidLooks := .later }
def StoreNumbersUptoCardSaid : Prop := Claim7.holds Tryz.pinned (.plain (OpenSpec.upto storeNumbersSpec)) storeNumbersUptoCard

/-- THE SECOND FORM's CARD OF 'moneyerlaw22.StoreApart'. -/
def storeApartUptoCard : Claim7 := { stood := { row := storeApartUptoRow, standIns := [], harness := (true, "fdea35a4657e825e19116e22aa8a0693d468a0325ae7e124757d27e96763949b"), looks := false }, kinds := [], alts := [], laidByText := true, laidKinds := [.data, .data, .data], laidTests := true, laidLooks := .later }
def StoreApartUptoCardSaid : Prop := Claim7.holds Tryz.pinned (.plain (OpenSpec.upto storeApartSpec)) storeApartUptoCard

/-- THE SECOND FORM's CARD OF 'moneyerlaw22.StoreFresh'. -/
def storeFreshUptoCard : Claim7 := { stood := { row := storeFreshUptoRow, standIns := [], harness := (true, "fdea35a4657e825e19116e22aa8a0693d468a0325ae7e124757d27e96763949b"), looks := false }, kinds := [], alts := [], laidByText := true, laidKinds := [.data, .data, .data], laidTests := true, laidLooks := .later }
def StoreFreshUptoCardSaid : Prop := Claim7.holds Tryz.pinned (.plain (OpenSpec.upto storeFreshSpec)) storeFreshUptoCard

/-- THE SECOND FORM's CARD OF 'moneyerlaw22.StoreLasts'. -/
def storeLastsUptoCard : Claim7 := { stood := { row := storeLastsUptoRow, standIns := [], harness := (true, "fdea35a4657e825e19116e22aa8a0693d468a0325ae7e124757d27e96763949b"), looks := false }, kinds := [], alts := [], laidByText := true, laidKinds := [.data, .data, .data], laidTests := true, laidLooks := .later }
def StoreLastsUptoCardSaid : Prop := Claim7.holds Tryz.pinned (.plain (OpenSpec.upto storeLastsSpec)) storeLastsUptoCard
end Rows
end Go.Proofs.YthabllnhlhkejaaGreatDoor
