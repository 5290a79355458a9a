/-
  No cell of these rows narrows 'for every input' (looked for: loops, veiled, ifaces, maps, wideKeys, modest, calm, conditions, laid).
  DERIVED. THE GIVEN ROWS OF THIS SEAT. 5 by the template 'for every input the law returns true; each argument reads behind the call as it read before'; 0 by the template 'total and deterministic' (their statements: YtpdkilfncflngaaTotals.lean).
  GIVEN WITH THE SEED: the statements are not yours to turn. If you find one false, say at which input.
  Laid BY PROGRAM, IN A SANDBOX (cutbox-rows.mjs): the forced cells as the released guide's own fill.sh prints them over the translation ca18e4c65870c782… (all of the seat's roots in one cut). By AI agents, Wed Nov 11 2026. No macro, syntax, notation, axiom, sorry.
-/
import Derived.Test.YtpdkilfncflngaaChecked
import GoSem.Claim
import GoSem.ClaimJoined
import GoSem.ClaimMapViews
import Derived.JoinedTies
import Derived.KernelRfl
namespace Go.Proofs.Ytpdkilfncflngaa
/- THE CELL 'sum', in the pinned program and in every row, IS THE sha256 OF THE DUMP (.gsa) THAT YtpdkilfncflngaaProg.lean LOADS. Nothing in Lean hashes anything: it is a label: what it is worth is what the hold of that sum in a sandbox is worth. -/
noncomputable def Try.pinned : Pinned := { name := "ytpdkilfncflngaa", sum := "ca18e4c65870c782dcd92759691e3906f5e3602553a1e6557c76b443413dfe17", checked := Try.checked }
namespace Rows
def none {H : Type} : Left H := { results := [], args := [] }

/-- 'moneyerlaw15.RouteOwn': WHATEVER THE INPUT: true; the input reads as it did. -/
def routeOwnSpec : ChangeSpec := { name := "routeOwn", fn := fun _ => fun
  | [d1, d2, d3] => { results := [.lit (.bool true)], args := [d1, d2, d3] }
  | _ => none }
def routeOwnRow : OpenClaim := { program := "ytpdkilfncflngaa", sum := "ca18e4c65870c782dcd92759691e3906f5e3602553a1e6557c76b443413dfe17", func := "moneyer/moneyerlaw15.RouteOwn", spec := "routeOwn", recurses := true, apart := false }
def RouteOwnSaid : Prop := routeOwnRow.holds Try.pinned (OpenSpec.ofChange routeOwnSpec)

/-- ITS FALSE NEIGHBOUR: 'it returns false'. Refute it at one input. -/
def routeOwnWrong : ChangeSpec := { name := "routeOwn", fn := fun _ => fun
  | [d1, d2, d3] => { results := [.lit (.bool false)], args := [d1, d2, d3] }
  | _ => none }
def RouteOwnWrongFalsely : Prop := routeOwnRow.holds Try.pinned (OpenSpec.ofChange routeOwnWrong)

/-- 'moneyerlaw15.RoutePlays': WHATEVER THE INPUT: true; the input reads as it did. -/
def routePlaysSpec : ChangeSpec := { name := "routePlays", fn := fun _ => fun
  | [d] => { results := [.lit (.bool true)], args := [d] }
  | _ => none }
def routePlaysRow : OpenClaim := { program := "ytpdkilfncflngaa", sum := "ca18e4c65870c782dcd92759691e3906f5e3602553a1e6557c76b443413dfe17", func := "moneyer/moneyerlaw15.RoutePlays", spec := "routePlays", recurses := true, apart := false }
def RoutePlaysSaid : Prop := routePlaysRow.holds Try.pinned (OpenSpec.ofChange routePlaysSpec)

/-- ITS FALSE NEIGHBOUR: 'it returns false'. Refute it at one input. -/
def routePlaysWrong : ChangeSpec := { name := "routePlays", fn := fun _ => fun
  | [d] => { results := [.lit (.bool false)], args := [d] }
  | _ => none }
def RoutePlaysWrongFalsely : Prop := routePlaysRow.holds Try.pinned (OpenSpec.ofChange routePlaysWrong)

/-- 'moneyerlaw15.RouteLongest': WHATEVER THE INPUT: true; the input reads as it did. -/
def routeLongestSpec : ChangeSpec := { name := "routeLongest", fn := fun _ => fun
  | [d1, d2] => { results := [.lit (.bool true)], args := [d1, d2] }
  | _ => none }
def routeLongestRow : OpenClaim := { program := "ytpdkilfncflngaa", sum := "ca18e4c65870c782dcd92759691e3906f5e3602553a1e6557c76b443413dfe17", func := "moneyer/moneyerlaw15.RouteLongest", spec := "routeLongest", recurses := true, apart := false }
def RouteLongestSaid : Prop := routeLongestRow.holds Try.pinned (OpenSpec.ofChange routeLongestSpec)

/-- ITS FALSE NEIGHBOUR: 'it returns false'. Refute it at one input. -/
def routeLongestWrong : ChangeSpec := { name := "routeLongest", fn := fun _ => fun
  | [d1, d2] => { results := [.lit (.bool false)], args := [d1, d2] }
  | _ => none }
def RouteLongestWrongFalsely : Prop := routeLongestRow.holds Try.pinned (OpenSpec.ofChange routeLongestWrong)

/-- 'moneyerlaw15.RouteApart': WHATEVER THE INPUT: true; the input reads as it did. -/
def routeApartSpec : ChangeSpec := { name := "routeApart", fn := fun _ => fun
  | [d1, d2, d3, d4] => { results := [.lit (.bool true)], args := [d1, d2, d3, d4] }
  | _ => none }
def routeApartRow : OpenClaim := { program := "ytpdkilfncflngaa", sum := "ca18e4c65870c782dcd92759691e3906f5e3602553a1e6557c76b443413dfe17", func := "moneyer/moneyerlaw15.RouteApart", spec := "routeApart", recurses := true, apart := false }
def RouteApartSaid : Prop := routeApartRow.holds Try.pinned (OpenSpec.ofChange routeApartSpec)

/-- ITS FALSE NEIGHBOUR: 'it returns false'. Refute it at one input. -/
def routeApartWrong : ChangeSpec := { name := "routeApart", fn := fun _ => fun
  | [d1, d2, d3, d4] => { results := [.lit (.bool false)], args := [d1, d2, d3, d4] }
  | _ => none }
def RouteApartWrongFalsely : Prop := routeApartRow.holds Try.pinned (OpenSpec.ofChange routeApartWrong)

/-- 'moneyerlaw15.RouteOrders': WHATEVER THE INPUT: true; the input reads as it did. -/
def routeOrdersSpec : ChangeSpec := { name := "routeOrders", fn := fun _ => fun
  | [d1, d2, d3, d4, d5] => { results := [.lit (.bool true)], args := [d1, d2, d3, d4, d5] }
  | _ => none }
def routeOrdersRow : OpenClaim := { program := "ytpdkilfncflngaa", sum := "ca18e4c65870c782dcd92759691e3906f5e3602553a1e6557c76b443413dfe17", func := "moneyer/moneyerlaw15.RouteOrders", spec := "routeOrders", recurses := true, apart := false }
def RouteOrdersSaid : Prop := routeOrdersRow.holds Try.pinned (OpenSpec.ofChange routeOrdersSpec)

/-- ITS FALSE NEIGHBOUR: 'it returns false'. Refute it at one input. -/
def routeOrdersWrong : ChangeSpec := { name := "routeOrders", fn := fun _ => fun
  | [d1, d2, d3, d4, d5] => { results := [.lit (.bool false)], args := [d1, d2, d3, d4, d5] }
  | _ => none }
def RouteOrdersWrongFalsely : Prop := routeOrdersRow.holds Try.pinned (OpenSpec.ofChange routeOrdersWrong)

/- THE SECOND FORM. 'bulk': how many values and letters a reading holds, each counted each time it is reached (what is shared counts as often as it is met; a slice's spare places count too). A statement '..UptoSaid' is the law's where the arguments, and the package variables that the reading takes, are together of bulk at most 1048576: NARROWER than '..Said'. Prove '..Said' where nothing that the law and all that it calls make is longer than what came in: it says more and counts as full. Else prove '..UptoSaid'. A law counts once. -/
mutual
def uptoBulk {H : Type} : DataW H → Nat
  | .lit (.string bytes) => bytes.length + 1
  | .lit _ => 1
  | .nil => 1
  | .ptr d => uptoBulk d + 1
  | .slice elems spare => uptoBulkAll elems + uptoBulkAll spare + 1
  | .agg parts => uptoBulkAll parts + 1
  | .iface _ d => uptoBulk d + 1
  | .map entries => uptoBulkEntries entries + 1
  | .held _ => 1
def uptoBulkAll {H : Type} : List (DataW H) → Nat
  | [] => 0
  | d :: r => uptoBulk d + uptoBulkAll r
def uptoBulkEntries {H : Type} : List (Lit × DataW H) → Nat
  | [] => 0
  | x :: r => uptoBulkEntry x + uptoBulkEntries r
def uptoBulkEntry {H : Type} : Lit × DataW H → Nat
  | (.string bytes, d) => bytes.length + uptoBulk d + 1
  | (_, d) => uptoBulk d + 1
 end
def uptoSmall : (H : Type) → List (DataW H) → Bool := fun _ ds => decide (uptoBulkAll ds ≤ 1048576)
def OpenSpec.upto (s : _root_.Go.ChangeSpec) : _root_.Go.OpenSpec := { _root_.Go.OpenSpec.ofChange s with cond := some uptoSmall }

/-- 'moneyerlaw15.RouteOwn', WHERE WHAT IT READS IS OF BULK AT MOST 1048576: true; the input reads as it did. -/
def routeOwnUptoRow : OpenClaim := { program := "ytpdkilfncflngaa", sum := "ca18e4c65870c782dcd92759691e3906f5e3602553a1e6557c76b443413dfe17", func := "moneyer/moneyerlaw15.RouteOwn", spec := "routeOwn", recurses := true, apart := false, narrowed := true }
def RouteOwnUptoSaid : Prop := routeOwnUptoRow.holds Try.pinned (OpenSpec.upto routeOwnSpec)

/-- 'moneyerlaw15.RoutePlays', WHERE WHAT IT READS IS OF BULK AT MOST 1048576: true; the input reads as it did. -/
def routePlaysUptoRow : OpenClaim := { program := "ytpdkilfncflngaa", sum := "ca18e4c65870c782dcd92759691e3906f5e3602553a1e6557c76b443413dfe17", func := "moneyer/moneyerlaw15.RoutePlays", spec := "routePlays", recurses := true, apart := false, narrowed := true }
def RoutePlaysUptoSaid : Prop := routePlaysUptoRow.holds Try.pinned (OpenSpec.upto routePlaysSpec)

/-- 'moneyerlaw15.RouteLongest', WHERE WHAT IT READS IS OF BULK AT MOST 1048576: true; the input reads as it did. -/
def routeLongestUptoRow : OpenClaim := { program := "ytpdkilfncflngaa", sum := "ca18e4c65870c782dcd92759691e3906f5e3602553a1e6557c76b443413dfe17", func := "moneyer/moneyerlaw15.RouteLongest", spec := "routeLongest", recurses := true, apart := false, narrowed := true }
def RouteLongestUptoSaid : Prop := routeLongestUptoRow.holds Try.pinned (OpenSpec.upto routeLongestSpec)

/-- 'moneyerlaw15.RouteApart', WHERE WHAT IT READS IS OF BULK AT MOST 1048576: true; the input reads as it did. -/
def routeApartUptoRow : OpenClaim := { program := "ytpdkilfncflngaa", sum := "ca18e4c65870c782dcd92759691e3906f5e3602553a1e6557c76b443413dfe17", func := "moneyer/moneyerlaw15.RouteApart", spec := "routeApart", recurses := true, apart := false, narrowed := true }
def RouteApartUptoSaid : Prop := routeApartUptoRow.holds Try.pinned (OpenSpec.upto routeApartSpec)

/-- 'moneyerlaw15.RouteOrders', WHERE WHAT IT READS IS OF BULK AT MOST 1048576: true; the input reads as it did. -/
def routeOrdersUptoRow : OpenClaim := { program := "ytpdkilfncflngaa", sum := "ca18e4c65870c782dcd92759691e3906f5e3602553a1e6557c76b443413dfe17", func := "moneyer/moneyerlaw15.RouteOrders", spec := "routeOrders", recurses := true, apart := false, narrowed := true }
def RouteOrdersUptoSaid : Prop := routeOrdersUptoRow.holds Try.pinned (OpenSpec.upto routeOrdersSpec)

end Rows
end Go.Proofs.Ytpdkilfncflngaa
