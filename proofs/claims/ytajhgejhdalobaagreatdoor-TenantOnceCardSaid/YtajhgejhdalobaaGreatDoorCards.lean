/-
  DERIVED. GIVEN WITH THE SEED: THE CARDS: each row of YtajhgejhdalobaaGreatDoorRows.lean that lists a variable, with what it lists TIED to the program's text (the seventh form; the later family's looks); each row that meets fmt, with fmt's text TOLD by the authors' own Lean function (tested against real Go, not proved from fmt's source: count such statements apart). THE CARD IS WHAT COUNTS. Prove the row's statement (the work); the ties are given (YtajhgejhdalobaaGreatDoorTie.lean); close each card by the builder's one call (the guide's Derived/Test/ToyasCard.lean, 'card_holds'). Laid BY PROGRAM, IN A SANDBOX (cutbox-door.mjs). By AI agents, Wed Nov 11 2026. No macro, syntax, notation, axiom, sorry.
-/
import Derived.Test.YtajhgejhdalobaaGreatDoorRows
import GoSem.ClaimSeven
namespace Go.Proofs.YtajhgejhdalobaaGreatDoor
namespace Rows

/-- THE TIED CARD OF 'moneyerlaw18.TenantTypes'. -/
def tenantTypesCard : Claim7 := { stood := { row := tenantTypesRow, standIns := [], harness := (true, "8f336778dcc6a33433b75bd3b957321658b5b16e4196ebd87802b0b71a0f8cf3"), looks := false }, kinds := [], alts := [], laidByText := true, laidKinds := [.data, .data, .data, .data, .pinned], laidTests := true, laidLooks := .later }
def TenantTypesCardSaid : Prop := Claim7.holds Tryz.pinned (.plain (OpenSpec.ofChange tenantTypesSpec)) tenantTypesCard

/-- THE TIED CARD OF 'moneyerlaw18.TenantSums'. -/
def tenantSumsCard : Claim7 := { stood := { row := tenantSumsRow, standIns := [], harness := (true, "8f336778dcc6a33433b75bd3b957321658b5b16e4196ebd87802b0b71a0f8cf3"), looks := false }, kinds := [], alts := [], laidByText := true, laidKinds := [.data, .data, .data, .data, .pinned], laidTests := true, laidLooks := .later }
def TenantSumsCardSaid : Prop := Claim7.holds Tryz.pinned (.plain (OpenSpec.ofChange tenantSumsSpec)) tenantSumsCard

/-- THE TIED CARD OF 'moneyerlaw18.TenantHides'. -/
def tenantHidesCard : Claim7 := { stood := { row := tenantHidesRow, standIns := [], harness := (true, "8f336778dcc6a33433b75bd3b957321658b5b16e4196ebd87802b0b71a0f8cf3"), looks := false }, kinds := [], alts := [], laidByText := true, laidKinds := [.data, .data, .data, .data, .pinned], laidTests := true, laidLooks := .later }
def TenantHidesCardSaid : Prop := Claim7.holds Tryz.pinned (.plain (OpenSpec.ofChange tenantHidesSpec)) tenantHidesCard

/-- THE TIED CARD OF 'moneyerlaw18.TenantRoutes'. -/
def tenantRoutesCard : Claim7 := { stood := { row := tenantRoutesRow, standIns := [], harness := (true, "8f336778dcc6a33433b75bd3b957321658b5b16e4196ebd87802b0b71a0f8cf3"), looks := false }, kinds := [], alts := [], laidByText := true, laidKinds := [.data, .data, .data, .data, .pinned], laidTests := true, laidLooks := .later }
def TenantRoutesCardSaid : Prop := Claim7.holds Tryz.pinned (.plain (OpenSpec.ofChange tenantRoutesSpec)) tenantRoutesCard

/-- THE TIED CARD OF 'moneyerlaw18.TenantOnce'. -/
def tenantOnceCard : Claim7 := { stood := { row := tenantOnceRow, standIns := [], harness := (true, "8f336778dcc6a33433b75bd3b957321658b5b16e4196ebd87802b0b71a0f8cf3"), looks := false }, kinds := [], alts := [], laidByText := true, laidKinds := [.data, .data, .data, .data, .pinned], laidTests := true, laidLooks := .later }
def TenantOnceCardSaid : Prop := Claim7.holds Tryz.pinned (.plain (OpenSpec.ofChange tenantOnceSpec)) tenantOnceCard

/-- THE TIED CARD OF 'moneyerlaw18.TenantAgain'. -/
def tenantAgainCard : Claim7 := { stood := { row := tenantAgainRow, standIns := [], harness := (true, "8f336778dcc6a33433b75bd3b957321658b5b16e4196ebd87802b0b71a0f8cf3"), looks := false }, kinds := [], alts := [], laidByText := true, laidKinds := [.data, .data, .data, .data, .pinned], laidTests := true, laidLooks := .later }
def TenantAgainCardSaid : Prop := Claim7.holds Tryz.pinned (.plain (OpenSpec.ofChange tenantAgainSpec)) tenantAgainCard

/-- THE TIED CARD OF 'moneyerlaw18.TenantPlays'. -/
def tenantPlaysCard : Claim7 := { stood := { row := tenantPlaysRow, standIns := [], harness := (true, "8f336778dcc6a33433b75bd3b957321658b5b16e4196ebd87802b0b71a0f8cf3"), looks := false }, kinds := [], alts := [], laidByText := true, laidKinds := [.data, .data, .data, .data, .pinned], laidTests := true, laidLooks := .later }
def TenantPlaysCardSaid : Prop := Claim7.holds Tryz.pinned (.plain (OpenSpec.ofChange tenantPlaysSpec)) tenantPlaysCard

/-- THE TIED CARD OF 'moneyerlaw18.TenantLoads'. -/
def tenantLoadsCard : Claim7 := { stood := { row := tenantLoadsRow, standIns := [], harness := (true, "8f336778dcc6a33433b75bd3b957321658b5b16e4196ebd87802b0b71a0f8cf3"), looks := false }, kinds := [], alts := [], laidByText := true, laidKinds := [.data, .data, .data, .data, .pinned], laidTests := true, laidLooks := .later }
def TenantLoadsCardSaid : Prop := Claim7.holds Tryz.pinned (.plain (OpenSpec.ofChange tenantLoadsSpec)) tenantLoadsCard

/-- THE SECOND FORM's CARD OF 'moneyerlaw18.TenantTypes'. -/
def tenantTypesUptoCard : Claim7 := { stood := { row := tenantTypesUptoRow, standIns := [], harness := (true, "8f336778dcc6a33433b75bd3b957321658b5b16e4196ebd87802b0b71a0f8cf3"), looks := false }, kinds := [], alts := [], laidByText := true, laidKinds := [.data, .data, .data, .data, .pinned], laidTests := true, laidLooks := .later }
def TenantTypesUptoCardSaid : Prop := Claim7.holds Tryz.pinned (.plain (OpenSpec.upto tenantTypesSpec)) tenantTypesUptoCard

/-- THE SECOND FORM's CARD OF 'moneyerlaw18.TenantSums'. -/
def tenantSumsUptoCard : Claim7 := { stood := { row := tenantSumsUptoRow, standIns := [], harness := (true, "8f336778dcc6a33433b75bd3b957321658b5b16e4196ebd87802b0b71a0f8cf3"), looks := false }, kinds := [], alts := [], laidByText := true, laidKinds := [.data, .data, .data, .data, .pinned], laidTests := true, laidLooks := .later }
def TenantSumsUptoCardSaid : Prop := Claim7.holds Tryz.pinned (.plain (OpenSpec.upto tenantSumsSpec)) tenantSumsUptoCard

/-- THE SECOND FORM's CARD OF 'moneyerlaw18.TenantHides'. -/
def tenantHidesUptoCard : Claim7 := { stood := { row := tenantHidesUptoRow, standIns := [], harness := (true, "8f336778dcc6a33433b75bd3b957321658b5b16e4196ebd87802b0b71a0f8cf3"), looks := false }, kinds := [], alts := [], laidByText := true, laidKinds := [.data, .data, .data, .data, .pinned], laidTests := true, laidLooks := .later }
def TenantHidesUptoCardSaid : Prop := Claim7.holds Tryz.pinned (.plain (OpenSpec.upto tenantHidesSpec)) tenantHidesUptoCard

/-- THE SECOND FORM's CARD OF 'moneyerlaw18.TenantRoutes'. -/
def tenantRoutesUptoCard : Claim7 := { stood := { row := tenantRoutesUptoRow, standIns := [], harness := (true, "8f336778dcc6a33433b75bd3b957321658b5b16e4196ebd87802b0b71a0f8cf3"), looks := false }, kinds := [], alts := [], laidByText := true, laidKinds := [.data, .data, .data, .data, .pinned], laidTests := true, laidLooks := .later }
def TenantRoutesUptoCardSaid : Prop := Claim7.holds Tryz.pinned (.plain (OpenSpec.upto tenantRoutesSpec)) tenantRoutesUptoCard

/-- THE SECOND FORM's CARD OF 'moneyerlaw18.TenantOnce'. -/
def tenantOnceUptoCard : Claim7 := { stood := { row := tenantOnceUptoRow, standIns := [], harness := (true, "8f336778dcc6a33433b75bd3b957321658b5b16e4196ebd87802b0b71a0f8cf3"), looks := false }, kinds := [], alts := [], laidByText := true, laidKinds := [.data, .data, .data, .data, .pinned], laidTests := true, laidLooks := .later }
def TenantOnceUptoCardSaid : Prop := Claim7.holds Tryz.pinned (.plain (OpenSpec.upto tenantOnceSpec)) tenantOnceUptoCard

/-- THE SECOND FORM's CARD OF 'moneyerlaw18.TenantAgain'. -/
def tenantAgainUptoCard : Claim7 := { stood := { row := tenantAgainUptoRow, standIns := [], harness := (true, "8f336778dcc6a33433b75bd3b957321658b5b16e4196ebd87802b0b71a0f8cf3"), looks := false }, kinds := [], alts := [], laidByText := true, laidKinds := [.data, .data, .data, .data, .pinned], laidTests := true, laidLooks := .later }
def TenantAgainUptoCardSaid : Prop := Claim7.holds Tryz.pinned (.plain (OpenSpec.upto tenantAgainSpec)) tenantAgainUptoCard

/-- THE SECOND FORM's CARD OF 'moneyerlaw18.TenantPlays'. -/
def tenantPlaysUptoCard : Claim7 := { stood := { row := tenantPlaysUptoRow, standIns := [], harness := (true, "8f336778dcc6a33433b75bd3b957321658b5b16e4196ebd87802b0b71a0f8cf3"), looks := false }, kinds := [], alts := [], laidByText := true, laidKinds := [.data, .data, .data, .data, .pinned], laidTests := true, laidLooks := .later }
def TenantPlaysUptoCardSaid : Prop := Claim7.holds Tryz.pinned (.plain (OpenSpec.upto tenantPlaysSpec)) tenantPlaysUptoCard

/-- THE SECOND FORM's CARD OF 'moneyerlaw18.TenantLoads'. -/
def tenantLoadsUptoCard : Claim7 := { stood := { row := tenantLoadsUptoRow, standIns := [], harness := (true, "8f336778dcc6a33433b75bd3b957321658b5b16e4196ebd87802b0b71a0f8cf3"), looks := false }, kinds := [], alts := [], laidByText := true, laidKinds := [.data, .data, .data, .data, .pinned], laidTests := true, laidLooks := .later }
def TenantLoadsUptoCardSaid : Prop := Claim7.holds Tryz.pinned (.plain (OpenSpec.upto tenantLoadsSpec)) tenantLoadsUptoCard
end Rows
end Go.Proofs.YtajhgejhdalobaaGreatDoor
