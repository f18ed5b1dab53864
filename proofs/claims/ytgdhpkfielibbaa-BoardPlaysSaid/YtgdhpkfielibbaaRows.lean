/-
  No cell of these rows narrows 'for every input' (looked for: loops, veiled, ifaces, maps, wideKeys, modest, calm, conditions, laid).
  DERIVED. THE GIVEN ROWS OF THIS SEAT. 10 by the template 'for every input the law returns true; each argument reads behind the call as it read before'; 0 by the template 'total and deterministic' (their statements: YtgdhpkfielibbaaTotals.lean).
  GIVEN WITH THE SEED: the statements are not yours to turn. If you find one false, say at which input.
  Laid BY PROGRAM, IN A SANDBOX (cutbox-rows.mjs): the forced cells as the released guide's own fill.sh prints them over the translation 6e55036b77cf1b99… (all of the seat's roots in one cut). By AI agents, Wed Nov 11 2026. No macro, syntax, notation, axiom, sorry.
-/
import Derived.Test.YtgdhpkfielibbaaChecked
import GoSem.Claim
import GoSem.ClaimJoined
import GoSem.ClaimMapViews
import Derived.JoinedTies
import Derived.KernelRfl
namespace Go.Proofs.Ytgdhpkfielibbaa
/- THE CELL 'sum', in the pinned program and in every row, IS THE sha256 OF THE DUMP (.gsa) THAT YtgdhpkfielibbaaProg.lean LOADS. Nothing in Lean hashes anything: it is a label: what it is worth is what the hold of that sum in a sandbox is worth. -/
noncomputable def Try.pinned : Pinned := { name := "ytgdhpkfielibbaa", sum := "6e55036b77cf1b9987bfbbbc9a25a986bacda0056b28eda7d0107fe0eab07746", checked := Try.checked }
namespace Rows
def none {H : Type} : Left H := { results := [], args := [] }

/-- 'canterlaw24.BoardRefuses': WHATEVER THE INPUT: true; the input reads as it did. -/
def boardRefusesSpec : ChangeSpec := { name := "boardRefuses", fn := fun _ => fun
  | [d1, d2, d3] => { results := [.lit (.bool true)], args := [d1, d2, d3] }
  | _ => none }
def boardRefusesRow : OpenClaim := { program := "ytgdhpkfielibbaa", sum := "6e55036b77cf1b9987bfbbbc9a25a986bacda0056b28eda7d0107fe0eab07746", func := "canter/canterlaw24.BoardRefuses", spec := "boardRefuses", unfollowed := true, recurses := true, apart := false }
def BoardRefusesSaid : Prop := boardRefusesRow.holds Try.pinned (OpenSpec.ofChange boardRefusesSpec)

/-- ITS FALSE NEIGHBOUR: 'it returns false'. Refute it at one input. -/
def boardRefusesWrong : ChangeSpec := { name := "boardRefuses", fn := fun _ => fun
  | [d1, d2, d3] => { results := [.lit (.bool false)], args := [d1, d2, d3] }
  | _ => none }
def BoardRefusesWrongFalsely : Prop := boardRefusesRow.holds Try.pinned (OpenSpec.ofChange boardRefusesWrong)

/-- 'canterlaw24.BoardCuts': WHATEVER THE INPUT: true; the input reads as it did. -/
def boardCutsSpec : ChangeSpec := { name := "boardCuts", fn := fun _ => fun
  | [d1, d2] => { results := [.lit (.bool true)], args := [d1, d2] }
  | _ => none }
def boardCutsRow : OpenClaim := { program := "ytgdhpkfielibbaa", sum := "6e55036b77cf1b9987bfbbbc9a25a986bacda0056b28eda7d0107fe0eab07746", func := "canter/canterlaw24.BoardCuts", spec := "boardCuts", unfollowed := true, recurses := true, apart := false }
def BoardCutsSaid : Prop := boardCutsRow.holds Try.pinned (OpenSpec.ofChange boardCutsSpec)

/-- ITS FALSE NEIGHBOUR: 'it returns false'. Refute it at one input. -/
def boardCutsWrong : ChangeSpec := { name := "boardCuts", fn := fun _ => fun
  | [d1, d2] => { results := [.lit (.bool false)], args := [d1, d2] }
  | _ => none }
def BoardCutsWrongFalsely : Prop := boardCutsRow.holds Try.pinned (OpenSpec.ofChange boardCutsWrong)

/-- 'canterlaw19.ListsRemove': WHATEVER THE INPUT: true; the input reads as it did. -/
def listsRemoveSpec : ChangeSpec := { name := "listsRemove", fn := fun _ => fun
  | [d1, d2] => { results := [.lit (.bool true)], args := [d1, d2] }
  | _ => none }
def listsRemoveRow : OpenClaim := { program := "ytgdhpkfielibbaa", sum := "6e55036b77cf1b9987bfbbbc9a25a986bacda0056b28eda7d0107fe0eab07746", func := "canter/canterlaw19.ListsRemove", spec := "listsRemove", unfollowed := true, recurses := true, apart := false }
def ListsRemoveSaid : Prop := listsRemoveRow.holds Try.pinned (OpenSpec.ofChange listsRemoveSpec)

/-- ITS FALSE NEIGHBOUR: 'it returns false'. Refute it at one input. -/
def listsRemoveWrong : ChangeSpec := { name := "listsRemove", fn := fun _ => fun
  | [d1, d2] => { results := [.lit (.bool false)], args := [d1, d2] }
  | _ => none }
def ListsRemoveWrongFalsely : Prop := listsRemoveRow.holds Try.pinned (OpenSpec.ofChange listsRemoveWrong)

/-- 'canterlaw19.ListsPlay': WHATEVER THE INPUT: true; the input reads as it did. -/
def listsPlaySpec : ChangeSpec := { name := "listsPlay", fn := fun _ => fun
  | [d] => { results := [.lit (.bool true)], args := [d] }
  | _ => none }
def listsPlayRow : OpenClaim := { program := "ytgdhpkfielibbaa", sum := "6e55036b77cf1b9987bfbbbc9a25a986bacda0056b28eda7d0107fe0eab07746", func := "canter/canterlaw19.ListsPlay", spec := "listsPlay", unfollowed := true, recurses := true, apart := false }
def ListsPlaySaid : Prop := listsPlayRow.holds Try.pinned (OpenSpec.ofChange listsPlaySpec)

/-- ITS FALSE NEIGHBOUR: 'it returns false'. Refute it at one input. -/
def listsPlayWrong : ChangeSpec := { name := "listsPlay", fn := fun _ => fun
  | [d] => { results := [.lit (.bool false)], args := [d] }
  | _ => none }
def ListsPlayWrongFalsely : Prop := listsPlayRow.holds Try.pinned (OpenSpec.ofChange listsPlayWrong)

/-- 'canterlaw19.ListsRound': WHATEVER THE INPUT: true; the input reads as it did. -/
def listsRoundSpec : ChangeSpec := { name := "listsRound", fn := fun _ => fun
  | [d1, d2, d3] => { results := [.lit (.bool true)], args := [d1, d2, d3] }
  | _ => none }
def listsRoundRow : OpenClaim := { program := "ytgdhpkfielibbaa", sum := "6e55036b77cf1b9987bfbbbc9a25a986bacda0056b28eda7d0107fe0eab07746", func := "canter/canterlaw19.ListsRound", spec := "listsRound", unfollowed := true, recurses := true, apart := false }
def ListsRoundSaid : Prop := listsRoundRow.holds Try.pinned (OpenSpec.ofChange listsRoundSpec)

/-- ITS FALSE NEIGHBOUR: 'it returns false'. Refute it at one input. -/
def listsRoundWrong : ChangeSpec := { name := "listsRound", fn := fun _ => fun
  | [d1, d2, d3] => { results := [.lit (.bool false)], args := [d1, d2, d3] }
  | _ => none }
def ListsRoundWrongFalsely : Prop := listsRoundRow.holds Try.pinned (OpenSpec.ofChange listsRoundWrong)

/-- 'canterlaw19.ListsNew': WHATEVER THE INPUT: true; the input reads as it did. -/
def listsNewSpec : ChangeSpec := { name := "listsNew", fn := fun _ => fun
  | [d1, d2] => { results := [.lit (.bool true)], args := [d1, d2] }
  | _ => none }
def listsNewRow : OpenClaim := { program := "ytgdhpkfielibbaa", sum := "6e55036b77cf1b9987bfbbbc9a25a986bacda0056b28eda7d0107fe0eab07746", func := "canter/canterlaw19.ListsNew", spec := "listsNew", unfollowed := true, recurses := true, apart := false }
def ListsNewSaid : Prop := listsNewRow.holds Try.pinned (OpenSpec.ofChange listsNewSpec)

/-- ITS FALSE NEIGHBOUR: 'it returns false'. Refute it at one input. -/
def listsNewWrong : ChangeSpec := { name := "listsNew", fn := fun _ => fun
  | [d1, d2] => { results := [.lit (.bool false)], args := [d1, d2] }
  | _ => none }
def ListsNewWrongFalsely : Prop := listsNewRow.holds Try.pinned (OpenSpec.ofChange listsNewWrong)

/-- 'canterlaw24.BoardPlays': WHATEVER THE INPUT: true; the input reads as it did. -/
def boardPlaysSpec : ChangeSpec := { name := "boardPlays", fn := fun _ => fun
  | [d] => { results := [.lit (.bool true)], args := [d] }
  | _ => none }
def boardPlaysRow : OpenClaim := { program := "ytgdhpkfielibbaa", sum := "6e55036b77cf1b9987bfbbbc9a25a986bacda0056b28eda7d0107fe0eab07746", func := "canter/canterlaw24.BoardPlays", spec := "boardPlays", unfollowed := true, recurses := true, apart := false }
def BoardPlaysSaid : Prop := boardPlaysRow.holds Try.pinned (OpenSpec.ofChange boardPlaysSpec)

/-- ITS FALSE NEIGHBOUR: 'it returns false'. Refute it at one input. -/
def boardPlaysWrong : ChangeSpec := { name := "boardPlays", fn := fun _ => fun
  | [d] => { results := [.lit (.bool false)], args := [d] }
  | _ => none }
def BoardPlaysWrongFalsely : Prop := boardPlaysRow.holds Try.pinned (OpenSpec.ofChange boardPlaysWrong)

/-- 'canterlaw24.BoardOnce': WHATEVER THE INPUT: true; the input reads as it did. -/
def boardOnceSpec : ChangeSpec := { name := "boardOnce", fn := fun _ => fun
  | [d] => { results := [.lit (.bool true)], args := [d] }
  | _ => none }
def boardOnceRow : OpenClaim := { program := "ytgdhpkfielibbaa", sum := "6e55036b77cf1b9987bfbbbc9a25a986bacda0056b28eda7d0107fe0eab07746", func := "canter/canterlaw24.BoardOnce", spec := "boardOnce", unfollowed := true, recurses := true, apart := false }
def BoardOnceSaid : Prop := boardOnceRow.holds Try.pinned (OpenSpec.ofChange boardOnceSpec)

/-- ITS FALSE NEIGHBOUR: 'it returns false'. Refute it at one input. -/
def boardOnceWrong : ChangeSpec := { name := "boardOnce", fn := fun _ => fun
  | [d] => { results := [.lit (.bool false)], args := [d] }
  | _ => none }
def BoardOnceWrongFalsely : Prop := boardOnceRow.holds Try.pinned (OpenSpec.ofChange boardOnceWrong)

/-- 'canterlaw24.BoardLosses': WHATEVER THE INPUT: true; the input reads as it did. -/
def boardLossesSpec : ChangeSpec := { name := "boardLosses", fn := fun _ => fun
  | [d1, d2] => { results := [.lit (.bool true)], args := [d1, d2] }
  | _ => none }
def boardLossesRow : OpenClaim := { program := "ytgdhpkfielibbaa", sum := "6e55036b77cf1b9987bfbbbc9a25a986bacda0056b28eda7d0107fe0eab07746", func := "canter/canterlaw24.BoardLosses", spec := "boardLosses", unfollowed := true, recurses := true, apart := false }
def BoardLossesSaid : Prop := boardLossesRow.holds Try.pinned (OpenSpec.ofChange boardLossesSpec)

/-- ITS FALSE NEIGHBOUR: 'it returns false'. Refute it at one input. -/
def boardLossesWrong : ChangeSpec := { name := "boardLosses", fn := fun _ => fun
  | [d1, d2] => { results := [.lit (.bool false)], args := [d1, d2] }
  | _ => none }
def BoardLossesWrongFalsely : Prop := boardLossesRow.holds Try.pinned (OpenSpec.ofChange boardLossesWrong)

/-- 'canterlaw24.BoardFlight': WHATEVER THE INPUT: true; the input reads as it did. -/
def boardFlightSpec : ChangeSpec := { name := "boardFlight", fn := fun _ => fun
  | [d] => { results := [.lit (.bool true)], args := [d] }
  | _ => none }
def boardFlightRow : OpenClaim := { program := "ytgdhpkfielibbaa", sum := "6e55036b77cf1b9987bfbbbc9a25a986bacda0056b28eda7d0107fe0eab07746", func := "canter/canterlaw24.BoardFlight", spec := "boardFlight", unfollowed := true, recurses := true, apart := false }
def BoardFlightSaid : Prop := boardFlightRow.holds Try.pinned (OpenSpec.ofChange boardFlightSpec)

/-- ITS FALSE NEIGHBOUR: 'it returns false'. Refute it at one input. -/
def boardFlightWrong : ChangeSpec := { name := "boardFlight", fn := fun _ => fun
  | [d] => { results := [.lit (.bool false)], args := [d] }
  | _ => none }
def BoardFlightWrongFalsely : Prop := boardFlightRow.holds Try.pinned (OpenSpec.ofChange boardFlightWrong)

/- THE SECOND FORM. 'bulk': how many values and letters a reading holds, each counted each time it is reached (what is shared counts as often as it is met; a slice's spare places count too). A statement '..UptoSaid' is the law's where the arguments, and the package variables that the reading takes, are together of bulk at most 1048576: NARROWER than '..Said'. Prove '..Said' where nothing that the law and all that it calls make is longer than what came in: it says more and counts as full. Else prove '..UptoSaid'. A law counts once. -/
mutual
def uptoBulk {H : Type} : DataW H → Nat
  | .lit (.string bytes) => bytes.length + 1
  | .lit _ => 1
  | .nil => 1
  | .ptr d => uptoBulk d + 1
  | .slice elems spare => uptoBulkAll elems + uptoBulkAll spare + 1
  | .agg parts => uptoBulkAll parts + 1
  | .iface _ d => uptoBulk d + 1
  | .map entries => uptoBulkEntries entries + 1
  | .held _ => 1
def uptoBulkAll {H : Type} : List (DataW H) → Nat
  | [] => 0
  | d :: r => uptoBulk d + uptoBulkAll r
def uptoBulkEntries {H : Type} : List (Lit × DataW H) → Nat
  | [] => 0
  | x :: r => uptoBulkEntry x + uptoBulkEntries r
def uptoBulkEntry {H : Type} : Lit × DataW H → Nat
  | (.string bytes, d) => bytes.length + uptoBulk d + 1
  | (_, d) => uptoBulk d + 1
 end
def uptoSmall : (H : Type) → List (DataW H) → Bool := fun _ ds => decide (uptoBulkAll ds ≤ 1048576)
def OpenSpec.upto (s : _root_.Go.ChangeSpec) : _root_.Go.OpenSpec := { _root_.Go.OpenSpec.ofChange s with cond := some uptoSmall }

/-- 'canterlaw24.BoardRefuses', WHERE WHAT IT READS IS OF BULK AT MOST 1048576: true; the input reads as it did. -/
def boardRefusesUptoRow : OpenClaim := { program := "ytgdhpkfielibbaa", sum := "6e55036b77cf1b9987bfbbbc9a25a986bacda0056b28eda7d0107fe0eab07746", func := "canter/canterlaw24.BoardRefuses", spec := "boardRefuses", unfollowed := true, recurses := true, apart := false, narrowed := true }
def BoardRefusesUptoSaid : Prop := boardRefusesUptoRow.holds Try.pinned (OpenSpec.upto boardRefusesSpec)

/-- 'canterlaw24.BoardCuts', WHERE WHAT IT READS IS OF BULK AT MOST 1048576: true; the input reads as it did. -/
def boardCutsUptoRow : OpenClaim := { program := "ytgdhpkfielibbaa", sum := "6e55036b77cf1b9987bfbbbc9a25a986bacda0056b28eda7d0107fe0eab07746", func := "canter/canterlaw24.BoardCuts", spec := "boardCuts", unfollowed := true, recurses := true, apart := false, narrowed := true }
def BoardCutsUptoSaid : Prop := boardCutsUptoRow.holds Try.pinned (OpenSpec.upto boardCutsSpec)

/-- 'canterlaw19.ListsRemove', WHERE WHAT IT READS IS OF BULK AT MOST 1048576: true; the input reads as it did. -/
def listsRemoveUptoRow : OpenClaim := { program := "ytgdhpkfielibbaa", sum := "6e55036b77cf1b9987bfbbbc9a25a986bacda0056b28eda7d0107fe0eab07746", func := "canter/canterlaw19.ListsRemove", spec := "listsRemove", unfollowed := true, recurses := true, apart := false, narrowed := true }
def ListsRemoveUptoSaid : Prop := listsRemoveUptoRow.holds Try.pinned (OpenSpec.upto listsRemoveSpec)

/-- 'canterlaw19.ListsPlay', WHERE WHAT IT READS IS OF BULK AT MOST 1048576: true; the input reads as it did. -/
def listsPlayUptoRow : OpenClaim := { program := "ytgdhpkfielibbaa", sum := "6e55036b77cf1b9987bfbbbc9a25a986bacda0056b28eda7d0107fe0eab07746", func := "canter/canterlaw19.ListsPlay", spec := "listsPlay", unfollowed := true, recurses := true, apart := false, narrowed := true }
def ListsPlayUptoSaid : Prop := listsPlayUptoRow.holds Try.pinned (OpenSpec.upto listsPlaySpec)

/-- 'canterlaw19.ListsRound', WHERE WHAT IT READS IS OF BULK AT MOST 1048576: true; the input reads as it did. -/
def listsRoundUptoRow : OpenClaim := { program := "ytgdhpkfielibbaa", sum := "6e55036b77cf1b9987bfbbbc9a25a986bacda0056b28eda7d0107fe0eab07746", func := "canter/canterlaw19.ListsRound", spec := "listsRound", unfollowed := true, recurses := true, apart := false, narrowed := true }
def ListsRoundUptoSaid : Prop := listsRoundUptoRow.holds Try.pinned (OpenSpec.upto listsRoundSpec)

/-- 'canterlaw19.ListsNew', WHERE WHAT IT READS IS OF BULK AT MOST 1048576: true; the input reads as it did. -/
def listsNewUptoRow : OpenClaim := { program := "ytgdhpkfielibbaa", sum := "6e55036b77cf1b9987bfbbbc9a25a986bacda0056b28eda7d0107fe0eab07746", func := "canter/canterlaw19.ListsNew", spec := "listsNew", unfollowed := true, recurses := true, apart := false, narrowed := true }
def ListsNewUptoSaid : Prop := listsNewUptoRow.holds Try.pinned (OpenSpec.upto listsNewSpec)

/-- 'canterlaw24.BoardPlays', WHERE WHAT IT READS IS OF BULK AT MOST 1048576: true; the input reads as it did. -/
def boardPlaysUptoRow : OpenClaim := { program := "ytgdhpkfielibbaa", sum := "6e55036b77cf1b9987bfbbbc9a25a986bacda0056b28eda7d0107fe0eab07746", func := "canter/canterlaw24.BoardPlays", spec := "boardPlays", unfollowed := true, recurses := true, apart := false, narrowed := true }
def BoardPlaysUptoSaid : Prop := boardPlaysUptoRow.holds Try.pinned (OpenSpec.upto boardPlaysSpec)

/-- 'canterlaw24.BoardOnce', WHERE WHAT IT READS IS OF BULK AT MOST 1048576: true; the input reads as it did. -/
def boardOnceUptoRow : OpenClaim := { program := "ytgdhpkfielibbaa", sum := "6e55036b77cf1b9987bfbbbc9a25a986bacda0056b28eda7d0107fe0eab07746", func := "canter/canterlaw24.BoardOnce", spec := "boardOnce", unfollowed := true, recurses := true, apart := false, narrowed := true }
def BoardOnceUptoSaid : Prop := boardOnceUptoRow.holds Try.pinned (OpenSpec.upto boardOnceSpec)

/-- 'canterlaw24.BoardLosses', WHERE WHAT IT READS IS OF BULK AT MOST 1048576: true; the input reads as it did. -/
def boardLossesUptoRow : OpenClaim := { program := "ytgdhpkfielibbaa", sum := "6e55036b77cf1b9987bfbbbc9a25a986bacda0056b28eda7d0107fe0eab07746", func := "canter/canterlaw24.BoardLosses", spec := "boardLosses", unfollowed := true, recurses := true, apart := false, narrowed := true }
def BoardLossesUptoSaid : Prop := boardLossesUptoRow.holds Try.pinned (OpenSpec.upto boardLossesSpec)

/-- 'canterlaw24.BoardFlight', WHERE WHAT IT READS IS OF BULK AT MOST 1048576: true; the input reads as it did. -/
def boardFlightUptoRow : OpenClaim := { program := "ytgdhpkfielibbaa", sum := "6e55036b77cf1b9987bfbbbc9a25a986bacda0056b28eda7d0107fe0eab07746", func := "canter/canterlaw24.BoardFlight", spec := "boardFlight", unfollowed := true, recurses := true, apart := false, narrowed := true }
def BoardFlightUptoSaid : Prop := boardFlightUptoRow.holds Try.pinned (OpenSpec.upto boardFlightSpec)

end Rows
end Go.Proofs.Ytgdhpkfielibbaa
