/-
  No cell of these rows narrows 'for every input' (looked for: loops, veiled, ifaces, maps, wideKeys, modest, calm, conditions, laid).
  DERIVED. THE GIVEN ROWS OF THIS SEAT. 12 by the template 'for every input the law returns true; each argument reads behind the call as it read before'; 0 by the template 'total and deterministic' (their statements: YtaimlgfepkopkaaGreatTotals.lean).
  GIVEN WITH THE SEED: the statements are not yours to turn. If you find one false, say at which input.
  Laid BY PROGRAM, IN A SANDBOX (cutbox-rows.mjs): the forced cells as the released guide's own fill.sh prints them over the translation 712e79ce7a84f279… (all of the seat's roots in one cut). By AI agents, Wed Nov 11 2026. No macro, syntax, notation, axiom, sorry.
-/
import Derived.Test.YtaimlgfepkopkaaGreatChecked
import GoSem.Claim
import GoSem.ClaimJoined
import GoSem.ClaimMapViews
import Derived.JoinedTies
import Derived.KernelRfl
namespace Go.Proofs.YtaimlgfepkopkaaGreat
/- THE CELL 'sum', in the pinned program and in every row, IS THE sha256 OF THE DUMP (.gsa) THAT YtaimlgfepkopkaaGreatProg.lean LOADS. Nothing in Lean hashes anything: it is a label: what it is worth is what the hold of that sum in a sandbox is worth. -/
noncomputable def Tryz.pinned : Pinned := { name := "ytaimlgfepkopkaagreat", sum := "712e79ce7a84f279a59d250b22664be3673c83ac45b1573db43d6cbb7c7e019e", checked := Tryz.checked }
namespace Rows
def none {H : Type} : Left H := { results := [], args := [] }

/-- 'cantertop.TopShares': WHATEVER THE INPUT: true; the input reads as it did. -/
def topSharesSpec : ChangeSpec := { name := "topShares", fn := fun _ => fun
  | [d1, d2] => { results := [.lit (.bool true)], args := [d1, d2] }
  | _ => none }
def topSharesRow : OpenClaim := { program := "ytaimlgfepkopkaagreat", sum := "712e79ce7a84f279a59d250b22664be3673c83ac45b1573db43d6cbb7c7e019e", func := "canter/cantertop.TopShares", spec := "topShares", inPlace := ["math/bits.Add64"], unfollowed := true, recurses := true, apart := false }
def TopSharesSaid : Prop := topSharesRow.holds Tryz.pinned (OpenSpec.ofChange topSharesSpec)

/-- ITS FALSE NEIGHBOUR: 'it returns false'. Refute it at one input. -/
def topSharesWrong : ChangeSpec := { name := "topShares", fn := fun _ => fun
  | [d1, d2] => { results := [.lit (.bool false)], args := [d1, d2] }
  | _ => none }
def TopSharesWrongFalsely : Prop := topSharesRow.holds Tryz.pinned (OpenSpec.ofChange topSharesWrong)

/-- 'cantertop.TopAccounts': WHATEVER THE INPUT: true; the input reads as it did. -/
def topAccountsSpec : ChangeSpec := { name := "topAccounts", fn := fun _ => fun
  | [d1, d2] => { results := [.lit (.bool true)], args := [d1, d2] }
  | _ => none }
def topAccountsRow : OpenClaim := { program := "ytaimlgfepkopkaagreat", sum := "712e79ce7a84f279a59d250b22664be3673c83ac45b1573db43d6cbb7c7e019e", func := "canter/cantertop.TopAccounts", spec := "topAccounts", inPlace := ["math/bits.Add64"], unfollowed := true, recurses := true, apart := false }
def TopAccountsSaid : Prop := topAccountsRow.holds Tryz.pinned (OpenSpec.ofChange topAccountsSpec)

/-- ITS FALSE NEIGHBOUR: 'it returns false'. Refute it at one input. -/
def topAccountsWrong : ChangeSpec := { name := "topAccounts", fn := fun _ => fun
  | [d1, d2] => { results := [.lit (.bool false)], args := [d1, d2] }
  | _ => none }
def TopAccountsWrongFalsely : Prop := topAccountsRow.holds Tryz.pinned (OpenSpec.ofChange topAccountsWrong)

/-- 'cantertop.TopDrains': WHATEVER THE INPUT: true; the input reads as it did. -/
def topDrainsSpec : ChangeSpec := { name := "topDrains", fn := fun _ => fun
  | [d1, d2, d3] => { results := [.lit (.bool true)], args := [d1, d2, d3] }
  | _ => none }
def topDrainsRow : OpenClaim := { program := "ytaimlgfepkopkaagreat", sum := "712e79ce7a84f279a59d250b22664be3673c83ac45b1573db43d6cbb7c7e019e", func := "canter/cantertop.TopDrains", spec := "topDrains", inPlace := ["math/bits.Add64"], unfollowed := true, recurses := true, apart := false }
def TopDrainsSaid : Prop := topDrainsRow.holds Tryz.pinned (OpenSpec.ofChange topDrainsSpec)

/-- ITS FALSE NEIGHBOUR: 'it returns false'. Refute it at one input. -/
def topDrainsWrong : ChangeSpec := { name := "topDrains", fn := fun _ => fun
  | [d1, d2, d3] => { results := [.lit (.bool false)], args := [d1, d2, d3] }
  | _ => none }
def TopDrainsWrongFalsely : Prop := topDrainsRow.holds Tryz.pinned (OpenSpec.ofChange topDrainsWrong)

/-- 'canterlaw26.EgressClock': WHATEVER THE INPUT: true; the input reads as it did. -/
def egressClockSpec : ChangeSpec := { name := "egressClock", fn := fun _ => fun
  | [d] => { results := [.lit (.bool true)], args := [d] }
  | _ => none }
def egressClockRow : OpenClaim := { program := "ytaimlgfepkopkaagreat", sum := "712e79ce7a84f279a59d250b22664be3673c83ac45b1573db43d6cbb7c7e019e", func := "canter/canterlaw26.EgressClock", spec := "egressClock", inPlace := ["math/bits.Add64"], unfollowed := true, recurses := true, apart := false }
def EgressClockSaid : Prop := egressClockRow.holds Tryz.pinned (OpenSpec.ofChange egressClockSpec)

/-- ITS FALSE NEIGHBOUR: 'it returns false'. Refute it at one input. -/
def egressClockWrong : ChangeSpec := { name := "egressClock", fn := fun _ => fun
  | [d] => { results := [.lit (.bool false)], args := [d] }
  | _ => none }
def EgressClockWrongFalsely : Prop := egressClockRow.holds Tryz.pinned (OpenSpec.ofChange egressClockWrong)

/-- 'canterlaw26.EgressConfigs': WHATEVER THE INPUT: true; the input reads as it did. -/
def egressConfigsSpec : ChangeSpec := { name := "egressConfigs", fn := fun _ => fun
  | [d1, d2, d3] => { results := [.lit (.bool true)], args := [d1, d2, d3] }
  | _ => none }
def egressConfigsRow : OpenClaim := { program := "ytaimlgfepkopkaagreat", sum := "712e79ce7a84f279a59d250b22664be3673c83ac45b1573db43d6cbb7c7e019e", func := "canter/canterlaw26.EgressConfigs", spec := "egressConfigs", inPlace := ["math/bits.Add64"], unfollowed := true, recurses := true, apart := false }
def EgressConfigsSaid : Prop := egressConfigsRow.holds Tryz.pinned (OpenSpec.ofChange egressConfigsSpec)

/-- ITS FALSE NEIGHBOUR: 'it returns false'. Refute it at one input. -/
def egressConfigsWrong : ChangeSpec := { name := "egressConfigs", fn := fun _ => fun
  | [d1, d2, d3] => { results := [.lit (.bool false)], args := [d1, d2, d3] }
  | _ => none }
def EgressConfigsWrongFalsely : Prop := egressConfigsRow.holds Tryz.pinned (OpenSpec.ofChange egressConfigsWrong)

/-- 'canterlaw26.EgressOpens': WHATEVER THE INPUT: true; the input reads as it did. -/
def egressOpensSpec : ChangeSpec := { name := "egressOpens", fn := fun _ => fun
  | [d1, d2] => { results := [.lit (.bool true)], args := [d1, d2] }
  | _ => none }
def egressOpensRow : OpenClaim := { program := "ytaimlgfepkopkaagreat", sum := "712e79ce7a84f279a59d250b22664be3673c83ac45b1573db43d6cbb7c7e019e", func := "canter/canterlaw26.EgressOpens", spec := "egressOpens", inPlace := ["math/bits.Add64"], unfollowed := true, recurses := true, apart := false }
def EgressOpensSaid : Prop := egressOpensRow.holds Tryz.pinned (OpenSpec.ofChange egressOpensSpec)

/-- ITS FALSE NEIGHBOUR: 'it returns false'. Refute it at one input. -/
def egressOpensWrong : ChangeSpec := { name := "egressOpens", fn := fun _ => fun
  | [d1, d2] => { results := [.lit (.bool false)], args := [d1, d2] }
  | _ => none }
def EgressOpensWrongFalsely : Prop := egressOpensRow.holds Tryz.pinned (OpenSpec.ofChange egressOpensWrong)

/-- 'canterlaw26.EgressDrops': WHATEVER THE INPUT: true; the input reads as it did. -/
def egressDropsSpec : ChangeSpec := { name := "egressDrops", fn := fun _ => fun
  | [d] => { results := [.lit (.bool true)], args := [d] }
  | _ => none }
def egressDropsRow : OpenClaim := { program := "ytaimlgfepkopkaagreat", sum := "712e79ce7a84f279a59d250b22664be3673c83ac45b1573db43d6cbb7c7e019e", func := "canter/canterlaw26.EgressDrops", spec := "egressDrops", inPlace := ["math/bits.Add64"], unfollowed := true, recurses := true, apart := false }
def EgressDropsSaid : Prop := egressDropsRow.holds Tryz.pinned (OpenSpec.ofChange egressDropsSpec)

/-- ITS FALSE NEIGHBOUR: 'it returns false'. Refute it at one input. -/
def egressDropsWrong : ChangeSpec := { name := "egressDrops", fn := fun _ => fun
  | [d] => { results := [.lit (.bool false)], args := [d] }
  | _ => none }
def EgressDropsWrongFalsely : Prop := egressDropsRow.holds Tryz.pinned (OpenSpec.ofChange egressDropsWrong)

/-- 'canterlaw26.EgressBooks': WHATEVER THE INPUT: true; the input reads as it did. -/
def egressBooksSpec : ChangeSpec := { name := "egressBooks", fn := fun _ => fun
  | [d1, d2] => { results := [.lit (.bool true)], args := [d1, d2] }
  | _ => none }
def egressBooksRow : OpenClaim := { program := "ytaimlgfepkopkaagreat", sum := "712e79ce7a84f279a59d250b22664be3673c83ac45b1573db43d6cbb7c7e019e", func := "canter/canterlaw26.EgressBooks", spec := "egressBooks", inPlace := ["math/bits.Add64"], unfollowed := true, recurses := true, apart := false }
def EgressBooksSaid : Prop := egressBooksRow.holds Tryz.pinned (OpenSpec.ofChange egressBooksSpec)

/-- ITS FALSE NEIGHBOUR: 'it returns false'. Refute it at one input. -/
def egressBooksWrong : ChangeSpec := { name := "egressBooks", fn := fun _ => fun
  | [d1, d2] => { results := [.lit (.bool false)], args := [d1, d2] }
  | _ => none }
def EgressBooksWrongFalsely : Prop := egressBooksRow.holds Tryz.pinned (OpenSpec.ofChange egressBooksWrong)

/-- 'canterlaw26.EgressRefuses': WHATEVER THE INPUT: true; the input reads as it did. -/
def egressRefusesSpec : ChangeSpec := { name := "egressRefuses", fn := fun _ => fun
  | [d1, d2] => { results := [.lit (.bool true)], args := [d1, d2] }
  | _ => none }
def egressRefusesRow : OpenClaim := { program := "ytaimlgfepkopkaagreat", sum := "712e79ce7a84f279a59d250b22664be3673c83ac45b1573db43d6cbb7c7e019e", func := "canter/canterlaw26.EgressRefuses", spec := "egressRefuses", inPlace := ["math/bits.Add64"], unfollowed := true, recurses := true, apart := false }
def EgressRefusesSaid : Prop := egressRefusesRow.holds Tryz.pinned (OpenSpec.ofChange egressRefusesSpec)

/-- ITS FALSE NEIGHBOUR: 'it returns false'. Refute it at one input. -/
def egressRefusesWrong : ChangeSpec := { name := "egressRefuses", fn := fun _ => fun
  | [d1, d2] => { results := [.lit (.bool false)], args := [d1, d2] }
  | _ => none }
def EgressRefusesWrongFalsely : Prop := egressRefusesRow.holds Tryz.pinned (OpenSpec.ofChange egressRefusesWrong)

/-- 'canterlaw26.EgressPlays': WHATEVER THE INPUT: true; the input reads as it did. -/
def egressPlaysSpec : ChangeSpec := { name := "egressPlays", fn := fun _ => fun
  | [d1, d2, d3] => { results := [.lit (.bool true)], args := [d1, d2, d3] }
  | _ => none }
def egressPlaysRow : OpenClaim := { program := "ytaimlgfepkopkaagreat", sum := "712e79ce7a84f279a59d250b22664be3673c83ac45b1573db43d6cbb7c7e019e", func := "canter/canterlaw26.EgressPlays", spec := "egressPlays", inPlace := ["math/bits.Add64"], unfollowed := true, recurses := true, apart := false }
def EgressPlaysSaid : Prop := egressPlaysRow.holds Tryz.pinned (OpenSpec.ofChange egressPlaysSpec)

/-- ITS FALSE NEIGHBOUR: 'it returns false'. Refute it at one input. -/
def egressPlaysWrong : ChangeSpec := { name := "egressPlays", fn := fun _ => fun
  | [d1, d2, d3] => { results := [.lit (.bool false)], args := [d1, d2, d3] }
  | _ => none }
def EgressPlaysWrongFalsely : Prop := egressPlaysRow.holds Tryz.pinned (OpenSpec.ofChange egressPlaysWrong)

/-- 'canterlaw26.EgressNil': WHATEVER THE INPUT: true; the input reads as it did. -/
def egressNilSpec : ChangeSpec := { name := "egressNil", fn := fun _ => fun
  | [d1, d2] => { results := [.lit (.bool true)], args := [d1, d2] }
  | _ => none }
def egressNilRow : OpenClaim := { program := "ytaimlgfepkopkaagreat", sum := "712e79ce7a84f279a59d250b22664be3673c83ac45b1573db43d6cbb7c7e019e", func := "canter/canterlaw26.EgressNil", spec := "egressNil", inPlace := ["math/bits.Add64"], unfollowed := true, recurses := true, apart := false }
def EgressNilSaid : Prop := egressNilRow.holds Tryz.pinned (OpenSpec.ofChange egressNilSpec)

/-- ITS FALSE NEIGHBOUR: 'it returns false'. Refute it at one input. -/
def egressNilWrong : ChangeSpec := { name := "egressNil", fn := fun _ => fun
  | [d1, d2] => { results := [.lit (.bool false)], args := [d1, d2] }
  | _ => none }
def EgressNilWrongFalsely : Prop := egressNilRow.holds Tryz.pinned (OpenSpec.ofChange egressNilWrong)

/-- 'cantertop.TopReopens': WHATEVER THE INPUT: true; the input reads as it did. -/
def topReopensSpec : ChangeSpec := { name := "topReopens", fn := fun _ => fun
  | [d1, d2, d3] => { results := [.lit (.bool true)], args := [d1, d2, d3] }
  | _ => none }
def topReopensRow : OpenClaim := { program := "ytaimlgfepkopkaagreat", sum := "712e79ce7a84f279a59d250b22664be3673c83ac45b1573db43d6cbb7c7e019e", func := "canter/cantertop.TopReopens", spec := "topReopens", inPlace := ["math/bits.Add64"], unfollowed := true, recurses := true, apart := false }
def TopReopensSaid : Prop := topReopensRow.holds Tryz.pinned (OpenSpec.ofChange topReopensSpec)

/-- ITS FALSE NEIGHBOUR: 'it returns false'. Refute it at one input. -/
def topReopensWrong : ChangeSpec := { name := "topReopens", fn := fun _ => fun
  | [d1, d2, d3] => { results := [.lit (.bool false)], args := [d1, d2, d3] }
  | _ => none }
def TopReopensWrongFalsely : Prop := topReopensRow.holds Tryz.pinned (OpenSpec.ofChange topReopensWrong)

/- THE SECOND FORM. 'bulk': how many values and letters a reading holds, each counted each time it is reached (what is shared counts as often as it is met; a slice's spare places count too). A statement '..UptoSaid' is the law's where the arguments, and the package variables that the reading takes, are together of bulk at most 1048576: NARROWER than '..Said'. Prove '..Said' where nothing that the law and all that it calls make is longer than what came in: it says more and counts as full. Else prove '..UptoSaid'. A law counts once. -/
mutual
def uptoBulk {H : Type} : DataW H → Nat
  | .lit (.string bytes) => bytes.length + 1
  | .lit _ => 1
  | .nil => 1
  | .ptr d => uptoBulk d + 1
  | .slice elems spare => uptoBulkAll elems + uptoBulkAll spare + 1
  | .agg parts => uptoBulkAll parts + 1
  | .iface _ d => uptoBulk d + 1
  | .map entries => uptoBulkEntries entries + 1
  | .held _ => 1
def uptoBulkAll {H : Type} : List (DataW H) → Nat
  | [] => 0
  | d :: r => uptoBulk d + uptoBulkAll r
def uptoBulkEntries {H : Type} : List (Lit × DataW H) → Nat
  | [] => 0
  | x :: r => uptoBulkEntry x + uptoBulkEntries r
def uptoBulkEntry {H : Type} : Lit × DataW H → Nat
  | (.string bytes, d) => bytes.length + uptoBulk d + 1
  | (_, d) => uptoBulk d + 1
 end
def uptoSmall : (H : Type) → List (DataW H) → Bool := fun _ ds => decide (uptoBulkAll ds ≤ 1048576)
def OpenSpec.upto (s : _root_.Go.ChangeSpec) : _root_.Go.OpenSpec := { _root_.Go.OpenSpec.ofChange s with cond := some uptoSmall }

/-- 'cantertop.TopShares', WHERE WHAT IT READS IS OF BULK AT MOST 1048576: true; the input reads as it did. -/
def topSharesUptoRow : OpenClaim := { program := "ytaimlgfepkopkaagreat", sum := "712e79ce7a84f279a59d250b22664be3673c83ac45b1573db43d6cbb7c7e019e", func := "canter/cantertop.TopShares", spec := "topShares", inPlace := ["math/bits.Add64"], unfollowed := true, recurses := true, apart := false, narrowed := true }
def TopSharesUptoSaid : Prop := topSharesUptoRow.holds Tryz.pinned (OpenSpec.upto topSharesSpec)

/-- 'cantertop.TopAccounts', WHERE WHAT IT READS IS OF BULK AT MOST 1048576: true; the input reads as it did. -/
def topAccountsUptoRow : OpenClaim := { program := "ytaimlgfepkopkaagreat", sum := "712e79ce7a84f279a59d250b22664be3673c83ac45b1573db43d6cbb7c7e019e", func := "canter/cantertop.TopAccounts", spec := "topAccounts", inPlace := ["math/bits.Add64"], unfollowed := true, recurses := true, apart := false, narrowed := true }
def TopAccountsUptoSaid : Prop := topAccountsUptoRow.holds Tryz.pinned (OpenSpec.upto topAccountsSpec)

/-- 'cantertop.TopDrains', WHERE WHAT IT READS IS OF BULK AT MOST 1048576: true; the input reads as it did. -/
def topDrainsUptoRow : OpenClaim := { program := "ytaimlgfepkopkaagreat", sum := "712e79ce7a84f279a59d250b22664be3673c83ac45b1573db43d6cbb7c7e019e", func := "canter/cantertop.TopDrains", spec := "topDrains", inPlace := ["math/bits.Add64"], unfollowed := true, recurses := true, apart := false, narrowed := true }
def TopDrainsUptoSaid : Prop := topDrainsUptoRow.holds Tryz.pinned (OpenSpec.upto topDrainsSpec)

/-- 'canterlaw26.EgressClock', WHERE WHAT IT READS IS OF BULK AT MOST 1048576: true; the input reads as it did. -/
def egressClockUptoRow : OpenClaim := { program := "ytaimlgfepkopkaagreat", sum := "712e79ce7a84f279a59d250b22664be3673c83ac45b1573db43d6cbb7c7e019e", func := "canter/canterlaw26.EgressClock", spec := "egressClock", inPlace := ["math/bits.Add64"], unfollowed := true, recurses := true, apart := false, narrowed := true }
def EgressClockUptoSaid : Prop := egressClockUptoRow.holds Tryz.pinned (OpenSpec.upto egressClockSpec)

/-- 'canterlaw26.EgressConfigs', WHERE WHAT IT READS IS OF BULK AT MOST 1048576: true; the input reads as it did. -/
def egressConfigsUptoRow : OpenClaim := { program := "ytaimlgfepkopkaagreat", sum := "712e79ce7a84f279a59d250b22664be3673c83ac45b1573db43d6cbb7c7e019e", func := "canter/canterlaw26.EgressConfigs", spec := "egressConfigs", inPlace := ["math/bits.Add64"], unfollowed := true, recurses := true, apart := false, narrowed := true }
def EgressConfigsUptoSaid : Prop := egressConfigsUptoRow.holds Tryz.pinned (OpenSpec.upto egressConfigsSpec)

/-- 'canterlaw26.EgressOpens', WHERE WHAT IT READS IS OF BULK AT MOST 1048576: true; the input reads as it did. -/
def egressOpensUptoRow : OpenClaim := { program := "ytaimlgfepkopkaagreat", sum := "712e79ce7a84f279a59d250b22664be3673c83ac45b1573db43d6cbb7c7e019e", func := "canter/canterlaw26.EgressOpens", spec := "egressOpens", inPlace := ["math/bits.Add64"], unfollowed := true, recurses := true, apart := false, narrowed := true }
def EgressOpensUptoSaid : Prop := egressOpensUptoRow.holds Tryz.pinned (OpenSpec.upto egressOpensSpec)

/-- 'canterlaw26.EgressDrops', WHERE WHAT IT READS IS OF BULK AT MOST 1048576: true; the input reads as it did. -/
def egressDropsUptoRow : OpenClaim := { program := "ytaimlgfepkopkaagreat", sum := "712e79ce7a84f279a59d250b22664be3673c83ac45b1573db43d6cbb7c7e019e", func := "canter/canterlaw26.EgressDrops", spec := "egressDrops", inPlace := ["math/bits.Add64"], unfollowed := true, recurses := true, apart := false, narrowed := true }
def EgressDropsUptoSaid : Prop := egressDropsUptoRow.holds Tryz.pinned (OpenSpec.upto egressDropsSpec)

/-- 'canterlaw26.EgressBooks', WHERE WHAT IT READS IS OF BULK AT MOST 1048576: true; the input reads as it did. -/
def egressBooksUptoRow : OpenClaim := { program := "ytaimlgfepkopkaagreat", sum := "712e79ce7a84f279a59d250b22664be3673c83ac45b1573db43d6cbb7c7e019e", func := "canter/canterlaw26.EgressBooks", spec := "egressBooks", inPlace := ["math/bits.Add64"], unfollowed := true, recurses := true, apart := false, narrowed := true }
def EgressBooksUptoSaid : Prop := egressBooksUptoRow.holds Tryz.pinned (OpenSpec.upto egressBooksSpec)

/-- 'canterlaw26.EgressRefuses', WHERE WHAT IT READS IS OF BULK AT MOST 1048576: true; the input reads as it did. -/
def egressRefusesUptoRow : OpenClaim := { program := "ytaimlgfepkopkaagreat", sum := "712e79ce7a84f279a59d250b22664be3673c83ac45b1573db43d6cbb7c7e019e", func := "canter/canterlaw26.EgressRefuses", spec := "egressRefuses", inPlace := ["math/bits.Add64"], unfollowed := true, recurses := true, apart := false, narrowed := true }
def EgressRefusesUptoSaid : Prop := egressRefusesUptoRow.holds Tryz.pinned (OpenSpec.upto egressRefusesSpec)

/-- 'canterlaw26.EgressPlays', WHERE WHAT IT READS IS OF BULK AT MOST 1048576: true; the input reads as it did. -/
def egressPlaysUptoRow : OpenClaim := { program := "ytaimlgfepkopkaagreat", sum := "712e79ce7a84f279a59d250b22664be3673c83ac45b1573db43d6cbb7c7e019e", func := "canter/canterlaw26.EgressPlays", spec := "egressPlays", inPlace := ["math/bits.Add64"], unfollowed := true, recurses := true, apart := false, narrowed := true }
def EgressPlaysUptoSaid : Prop := egressPlaysUptoRow.holds Tryz.pinned (OpenSpec.upto egressPlaysSpec)

/-- 'canterlaw26.EgressNil', WHERE WHAT IT READS IS OF BULK AT MOST 1048576: true; the input reads as it did. -/
def egressNilUptoRow : OpenClaim := { program := "ytaimlgfepkopkaagreat", sum := "712e79ce7a84f279a59d250b22664be3673c83ac45b1573db43d6cbb7c7e019e", func := "canter/canterlaw26.EgressNil", spec := "egressNil", inPlace := ["math/bits.Add64"], unfollowed := true, recurses := true, apart := false, narrowed := true }
def EgressNilUptoSaid : Prop := egressNilUptoRow.holds Tryz.pinned (OpenSpec.upto egressNilSpec)

/-- 'cantertop.TopReopens', WHERE WHAT IT READS IS OF BULK AT MOST 1048576: true; the input reads as it did. -/
def topReopensUptoRow : OpenClaim := { program := "ytaimlgfepkopkaagreat", sum := "712e79ce7a84f279a59d250b22664be3673c83ac45b1573db43d6cbb7c7e019e", func := "canter/cantertop.TopReopens", spec := "topReopens", inPlace := ["math/bits.Add64"], unfollowed := true, recurses := true, apart := false, narrowed := true }
def TopReopensUptoSaid : Prop := topReopensUptoRow.holds Tryz.pinned (OpenSpec.upto topReopensSpec)

end Rows
end Go.Proofs.YtaimlgfepkopkaaGreat
