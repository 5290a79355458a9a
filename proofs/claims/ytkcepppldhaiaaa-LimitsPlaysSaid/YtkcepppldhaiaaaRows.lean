/-
  No cell of these rows narrows 'for every input' (looked for: loops, veiled, ifaces, maps, wideKeys, modest, calm, conditions, laid).
  DERIVED. THE GIVEN ROWS OF THIS SEAT. 5 by the template 'for every input the law returns true; each argument reads behind the call as it read before'; 0 by the template 'total and deterministic' (their statements: YtkcepppldhaiaaaTotals.lean).
  GIVEN WITH THE SEED: the statements are not yours to turn. If you find one false, say at which input.
  Laid BY PROGRAM, IN A SANDBOX (cutbox-rows.mjs): the forced cells as the released guide's own fill.sh prints them over the translation cae3f7fdb6c2c686… (all of the seat's roots in one cut). By AI agents, Wed Nov 11 2026. No macro, syntax, notation, axiom, sorry.
-/
import Derived.Test.YtkcepppldhaiaaaChecked
import GoSem.Claim
import GoSem.ClaimJoined
import GoSem.ClaimMapViews
import Derived.JoinedTies
import Derived.KernelRfl
namespace Go.Proofs.Ytkcepppldhaiaaa
/- THE CELL 'sum', in the pinned program and in every row, IS THE sha256 OF THE DUMP (.gsa) THAT YtkcepppldhaiaaaProg.lean LOADS. Nothing in Lean hashes anything: it is a label: what it is worth is what the hold of that sum in a sandbox is worth. -/
noncomputable def Try.pinned : Pinned := { name := "ytkcepppldhaiaaa", sum := "cae3f7fdb6c2c686112e7180056eb5a0fdaa81563228fabae09413f4d62d5649", checked := Try.checked }
namespace Rows
def none {H : Type} : Left H := { results := [], args := [] }

/-- 'moneyerlaw16.LimitsHold': WHATEVER THE INPUT: true; the input reads as it did. -/
def limitsHoldSpec : ChangeSpec := { name := "limitsHold", fn := fun _ => fun
  | [d1, d2, d3] => { results := [.lit (.bool true)], args := [d1, d2, d3] }
  | _ => none }
def limitsHoldRow : OpenClaim := { program := "ytkcepppldhaiaaa", sum := "cae3f7fdb6c2c686112e7180056eb5a0fdaa81563228fabae09413f4d62d5649", func := "moneyer/moneyerlaw16.LimitsHold", spec := "limitsHold", unfollowed := true, recurses := true, apart := false }
def LimitsHoldSaid : Prop := limitsHoldRow.holds Try.pinned (OpenSpec.ofChange limitsHoldSpec)

/-- ITS FALSE NEIGHBOUR: 'it returns false'. Refute it at one input. -/
def limitsHoldWrong : ChangeSpec := { name := "limitsHold", fn := fun _ => fun
  | [d1, d2, d3] => { results := [.lit (.bool false)], args := [d1, d2, d3] }
  | _ => none }
def LimitsHoldWrongFalsely : Prop := limitsHoldRow.holds Try.pinned (OpenSpec.ofChange limitsHoldWrong)

/-- 'moneyerlaw16.LimitsAnew': WHATEVER THE INPUT: true; the input reads as it did. -/
def limitsAnewSpec : ChangeSpec := { name := "limitsAnew", fn := fun _ => fun
  | [d1, d2, d3, d4, d5] => { results := [.lit (.bool true)], args := [d1, d2, d3, d4, d5] }
  | _ => none }
def limitsAnewRow : OpenClaim := { program := "ytkcepppldhaiaaa", sum := "cae3f7fdb6c2c686112e7180056eb5a0fdaa81563228fabae09413f4d62d5649", func := "moneyer/moneyerlaw16.LimitsAnew", spec := "limitsAnew", unfollowed := true, recurses := true, apart := false }
def LimitsAnewSaid : Prop := limitsAnewRow.holds Try.pinned (OpenSpec.ofChange limitsAnewSpec)

/-- ITS FALSE NEIGHBOUR: 'it returns false'. Refute it at one input. -/
def limitsAnewWrong : ChangeSpec := { name := "limitsAnew", fn := fun _ => fun
  | [d1, d2, d3, d4, d5] => { results := [.lit (.bool false)], args := [d1, d2, d3, d4, d5] }
  | _ => none }
def LimitsAnewWrongFalsely : Prop := limitsAnewRow.holds Try.pinned (OpenSpec.ofChange limitsAnewWrong)

/-- 'moneyerlaw16.LimitsFew': WHATEVER THE INPUT: true; the input reads as it did. -/
def limitsFewSpec : ChangeSpec := { name := "limitsFew", fn := fun _ => fun
  | [d] => { results := [.lit (.bool true)], args := [d] }
  | _ => none }
def limitsFewRow : OpenClaim := { program := "ytkcepppldhaiaaa", sum := "cae3f7fdb6c2c686112e7180056eb5a0fdaa81563228fabae09413f4d62d5649", func := "moneyer/moneyerlaw16.LimitsFew", spec := "limitsFew", unfollowed := true, recurses := true, apart := false }
def LimitsFewSaid : Prop := limitsFewRow.holds Try.pinned (OpenSpec.ofChange limitsFewSpec)

/-- ITS FALSE NEIGHBOUR: 'it returns false'. Refute it at one input. -/
def limitsFewWrong : ChangeSpec := { name := "limitsFew", fn := fun _ => fun
  | [d] => { results := [.lit (.bool false)], args := [d] }
  | _ => none }
def LimitsFewWrongFalsely : Prop := limitsFewRow.holds Try.pinned (OpenSpec.ofChange limitsFewWrong)

/-- 'moneyerlaw16.LimitsPlays': WHATEVER THE INPUT: true; the input reads as it did. -/
def limitsPlaysSpec : ChangeSpec := { name := "limitsPlays", fn := fun _ => fun
  | [d1, d2, d3] => { results := [.lit (.bool true)], args := [d1, d2, d3] }
  | _ => none }
def limitsPlaysRow : OpenClaim := { program := "ytkcepppldhaiaaa", sum := "cae3f7fdb6c2c686112e7180056eb5a0fdaa81563228fabae09413f4d62d5649", func := "moneyer/moneyerlaw16.LimitsPlays", spec := "limitsPlays", unfollowed := true, recurses := true, apart := false }
def LimitsPlaysSaid : Prop := limitsPlaysRow.holds Try.pinned (OpenSpec.ofChange limitsPlaysSpec)

/-- ITS FALSE NEIGHBOUR: 'it returns false'. Refute it at one input. -/
def limitsPlaysWrong : ChangeSpec := { name := "limitsPlays", fn := fun _ => fun
  | [d1, d2, d3] => { results := [.lit (.bool false)], args := [d1, d2, d3] }
  | _ => none }
def LimitsPlaysWrongFalsely : Prop := limitsPlaysRow.holds Try.pinned (OpenSpec.ofChange limitsPlaysWrong)

/-- 'moneyerlaw16.LimitsBack': WHATEVER THE INPUT: true; the input reads as it did. -/
def limitsBackSpec : ChangeSpec := { name := "limitsBack", fn := fun _ => fun
  | [d1, d2, d3] => { results := [.lit (.bool true)], args := [d1, d2, d3] }
  | _ => none }
def limitsBackRow : OpenClaim := { program := "ytkcepppldhaiaaa", sum := "cae3f7fdb6c2c686112e7180056eb5a0fdaa81563228fabae09413f4d62d5649", func := "moneyer/moneyerlaw16.LimitsBack", spec := "limitsBack", unfollowed := true, recurses := true, apart := false }
def LimitsBackSaid : Prop := limitsBackRow.holds Try.pinned (OpenSpec.ofChange limitsBackSpec)

/-- ITS FALSE NEIGHBOUR: 'it returns false'. Refute it at one input. -/
def limitsBackWrong : ChangeSpec := { name := "limitsBack", fn := fun _ => fun
  | [d1, d2, d3] => { results := [.lit (.bool false)], args := [d1, d2, d3] }
  | _ => none }
def LimitsBackWrongFalsely : Prop := limitsBackRow.holds Try.pinned (OpenSpec.ofChange limitsBackWrong)

/- THE SECOND FORM. 'bulk': how many values and letters a reading holds, each counted each time it is reached (what is shared counts as often as it is met; a slice's spare places count too). A statement '..UptoSaid' is the law's where the arguments, and the package variables that the reading takes, are together of bulk at most 1048576: NARROWER than '..Said'. Prove '..Said' where nothing that the law and all that it calls make is longer than what came in: it says more and counts as full. Else prove '..UptoSaid'. A law counts once. -/
mutual
def uptoBulk {H : Type} : DataW H → Nat
  | .lit (.string bytes) => bytes.length + 1
  | .lit _ => 1
  | .nil => 1
  | .ptr d => uptoBulk d + 1
  | .slice elems spare => uptoBulkAll elems + uptoBulkAll spare + 1
  | .agg parts => uptoBulkAll parts + 1
  | .iface _ d => uptoBulk d + 1
  | .map entries => uptoBulkEntries entries + 1
  | .held _ => 1
def uptoBulkAll {H : Type} : List (DataW H) → Nat
  | [] => 0
  | d :: r => uptoBulk d + uptoBulkAll r
def uptoBulkEntries {H : Type} : List (Lit × DataW H) → Nat
  | [] => 0
  | x :: r => uptoBulkEntry x + uptoBulkEntries r
def uptoBulkEntry {H : Type} : Lit × DataW H → Nat
  | (.string bytes, d) => bytes.length + uptoBulk d + 1
  | (_, d) => uptoBulk d + 1
 end
def uptoSmall : (H : Type) → List (DataW H) → Bool := fun _ ds => decide (uptoBulkAll ds ≤ 1048576)
def OpenSpec.upto (s : _root_.Go.ChangeSpec) : _root_.Go.OpenSpec := { _root_.Go.OpenSpec.ofChange s with cond := some uptoSmall }

/-- 'moneyerlaw16.LimitsHold', WHERE WHAT IT READS IS OF BULK AT MOST 1048576: true; the input reads as it did. -/
def limitsHoldUptoRow : OpenClaim := { program := "ytkcepppldhaiaaa", sum := "cae3f7fdb6c2c686112e7180056eb5a0fdaa81563228fabae09413f4d62d5649", func := "moneyer/moneyerlaw16.LimitsHold", spec := "limitsHold", unfollowed := true, recurses := true, apart := false, narrowed := true }
def LimitsHoldUptoSaid : Prop := limitsHoldUptoRow.holds Try.pinned (OpenSpec.upto limitsHoldSpec)

/-- 'moneyerlaw16.LimitsAnew', WHERE WHAT IT READS IS OF BULK AT MOST 1048576: true; the input reads as it did. -/
def limitsAnewUptoRow : OpenClaim := { program := "ytkcepppldhaiaaa", sum := "cae3f7fdb6c2c686112e7180056eb5a0fdaa81563228fabae09413f4d62d5649", func := "moneyer/moneyerlaw16.LimitsAnew", spec := "limitsAnew", unfollowed := true, recurses := true, apart := false, narrowed := true }
def LimitsAnewUptoSaid : Prop := limitsAnewUptoRow.holds Try.pinned (OpenSpec.upto limitsAnewSpec)

/-- 'moneyerlaw16.LimitsFew', WHERE WHAT IT READS IS OF BULK AT MOST 1048576: true; the input reads as it did. -/
def limitsFewUptoRow : OpenClaim := { program := "ytkcepppldhaiaaa", sum := "cae3f7fdb6c2c686112e7180056eb5a0fdaa81563228fabae09413f4d62d5649", func := "moneyer/moneyerlaw16.LimitsFew", spec := "limitsFew", unfollowed := true, recurses := true, apart := false, narrowed := true }
def LimitsFewUptoSaid : Prop := limitsFewUptoRow.holds Try.pinned (OpenSpec.upto limitsFewSpec)

/-- 'moneyerlaw16.LimitsPlays', WHERE WHAT IT READS IS OF BULK AT MOST 1048576: true; the input reads as it did. -/
def limitsPlaysUptoRow : OpenClaim := { program := "ytkcepppldhaiaaa", sum := "cae3f7fdb6c2c686112e7180056eb5a0fdaa81563228fabae09413f4d62d5649", func := "moneyer/moneyerlaw16.LimitsPlays", spec := "limitsPlays", unfollowed := true, recurses := true, apart := false, narrowed := true }
def LimitsPlaysUptoSaid : Prop := limitsPlaysUptoRow.holds Try.pinned (OpenSpec.upto limitsPlaysSpec)

/-- 'moneyerlaw16.LimitsBack', WHERE WHAT IT READS IS OF BULK AT MOST 1048576: true; the input reads as it did. -/
def limitsBackUptoRow : OpenClaim := { program := "ytkcepppldhaiaaa", sum := "cae3f7fdb6c2c686112e7180056eb5a0fdaa81563228fabae09413f4d62d5649", func := "moneyer/moneyerlaw16.LimitsBack", spec := "limitsBack", unfollowed := true, recurses := true, apart := false, narrowed := true }
def LimitsBackUptoSaid : Prop := limitsBackUptoRow.holds Try.pinned (OpenSpec.upto limitsBackSpec)

end Rows
end Go.Proofs.Ytkcepppldhaiaaa
