/-
  No cell of these rows narrows 'for every input' (looked for: loops, veiled, ifaces, maps, wideKeys, modest, calm, conditions, laid).
  DERIVED. THE GIVEN ROWS OF THIS SEAT. 8 by the template 'for every input the law returns true; each argument reads behind the call as it read before'; 0 by the template 'total and deterministic' (their statements: YteeabliibhedoaaTotals.lean).
  GIVEN WITH THE SEED: the statements are not yours to turn. If you find one false, say at which input.
  Laid BY PROGRAM, IN A SANDBOX (cutbox-rows.mjs): the forced cells as the released guide's own fill.sh prints them over the translation b9f55aa062f26110… (all of the seat's roots in one cut). By AI agents, Wed Nov 11 2026. No macro, syntax, notation, axiom, sorry.
-/
import Derived.Test.YteeabliibhedoaaChecked
import GoSem.Claim
import GoSem.ClaimJoined
import GoSem.ClaimMapViews
import Derived.JoinedTies
import Derived.KernelRfl
namespace Go.Proofs.Yteeabliibhedoaa
/- THE CELL 'sum', in the pinned program and in every row, IS THE sha256 OF THE DUMP (.gsa) THAT YteeabliibhedoaaProg.lean LOADS. Nothing in Lean hashes anything: it is a label: what it is worth is what the hold of that sum in a sandbox is worth. -/
noncomputable def Try.pinned : Pinned := { name := "yteeabliibhedoaa", sum := "b9f55aa062f26110024945b99dc8014adca710cc1980f8b19e2f6b3279938071", checked := Try.checked }
namespace Rows
def none {H : Type} : Left H := { results := [], args := [] }

/-- 'canterlaw17.BbrTells': WHATEVER THE INPUT: true; the input reads as it did. -/
def bbrTellsSpec : ChangeSpec := { name := "bbrTells", fn := fun _ => fun
  | [d1, d2, d3, d4] => { results := [.lit (.bool true)], args := [d1, d2, d3, d4] }
  | _ => none }
def bbrTellsRow : OpenClaim := { program := "yteeabliibhedoaa", sum := "b9f55aa062f26110024945b99dc8014adca710cc1980f8b19e2f6b3279938071", func := "canter/canterlaw17.BbrTells", spec := "bbrTells", inPlace := ["math/bits.Add64"], apart := false }
def BbrTellsSaid : Prop := bbrTellsRow.holds Try.pinned (OpenSpec.ofChange bbrTellsSpec)

/-- ITS FALSE NEIGHBOUR: 'it returns false'. Refute it at one input. -/
def bbrTellsWrong : ChangeSpec := { name := "bbrTells", fn := fun _ => fun
  | [d1, d2, d3, d4] => { results := [.lit (.bool false)], args := [d1, d2, d3, d4] }
  | _ => none }
def BbrTellsWrongFalsely : Prop := bbrTellsRow.holds Try.pinned (OpenSpec.ofChange bbrTellsWrong)

/-- 'canterlaw17.BbrFloor': WHATEVER THE INPUT: true; the input reads as it did. -/
def bbrFloorSpec : ChangeSpec := { name := "bbrFloor", fn := fun _ => fun
  | [d1, d2] => { results := [.lit (.bool true)], args := [d1, d2] }
  | _ => none }
def bbrFloorRow : OpenClaim := { program := "yteeabliibhedoaa", sum := "b9f55aa062f26110024945b99dc8014adca710cc1980f8b19e2f6b3279938071", func := "canter/canterlaw17.BbrFloor", spec := "bbrFloor", inPlace := ["math/bits.Add64"], apart := false }
def BbrFloorSaid : Prop := bbrFloorRow.holds Try.pinned (OpenSpec.ofChange bbrFloorSpec)

/-- ITS FALSE NEIGHBOUR: 'it returns false'. Refute it at one input. -/
def bbrFloorWrong : ChangeSpec := { name := "bbrFloor", fn := fun _ => fun
  | [d1, d2] => { results := [.lit (.bool false)], args := [d1, d2] }
  | _ => none }
def BbrFloorWrongFalsely : Prop := bbrFloorRow.holds Try.pinned (OpenSpec.ofChange bbrFloorWrong)

/-- 'canterlaw17.BbrModes': WHATEVER THE INPUT: true; the input reads as it did. -/
def bbrModesSpec : ChangeSpec := { name := "bbrModes", fn := fun _ => fun
  | [d1, d2] => { results := [.lit (.bool true)], args := [d1, d2] }
  | _ => none }
def bbrModesRow : OpenClaim := { program := "yteeabliibhedoaa", sum := "b9f55aa062f26110024945b99dc8014adca710cc1980f8b19e2f6b3279938071", func := "canter/canterlaw17.BbrModes", spec := "bbrModes", inPlace := ["math/bits.Add64"], apart := false }
def BbrModesSaid : Prop := bbrModesRow.holds Try.pinned (OpenSpec.ofChange bbrModesSpec)

/-- ITS FALSE NEIGHBOUR: 'it returns false'. Refute it at one input. -/
def bbrModesWrong : ChangeSpec := { name := "bbrModes", fn := fun _ => fun
  | [d1, d2] => { results := [.lit (.bool false)], args := [d1, d2] }
  | _ => none }
def BbrModesWrongFalsely : Prop := bbrModesRow.holds Try.pinned (OpenSpec.ofChange bbrModesWrong)

/-- 'canterlaw17.BbrSteady': WHATEVER THE INPUT: true; the input reads as it did. -/
def bbrSteadySpec : ChangeSpec := { name := "bbrSteady", fn := fun _ => fun
  | [d1, d2, d3] => { results := [.lit (.bool true)], args := [d1, d2, d3] }
  | _ => none }
def bbrSteadyRow : OpenClaim := { program := "yteeabliibhedoaa", sum := "b9f55aa062f26110024945b99dc8014adca710cc1980f8b19e2f6b3279938071", func := "canter/canterlaw17.BbrSteady", spec := "bbrSteady", inPlace := ["math/bits.Add64"], apart := false }
def BbrSteadySaid : Prop := bbrSteadyRow.holds Try.pinned (OpenSpec.ofChange bbrSteadySpec)

/-- ITS FALSE NEIGHBOUR: 'it returns false'. Refute it at one input. -/
def bbrSteadyWrong : ChangeSpec := { name := "bbrSteady", fn := fun _ => fun
  | [d1, d2, d3] => { results := [.lit (.bool false)], args := [d1, d2, d3] }
  | _ => none }
def BbrSteadyWrongFalsely : Prop := bbrSteadyRow.holds Try.pinned (OpenSpec.ofChange bbrSteadyWrong)

/-- 'canterlaw17.BbrNil': WHATEVER THE INPUT: true; the input reads as it did. -/
def bbrNilSpec : ChangeSpec := { name := "bbrNil", fn := fun _ => fun
  | [d] => { results := [.lit (.bool true)], args := [d] }
  | _ => none }
def bbrNilRow : OpenClaim := { program := "yteeabliibhedoaa", sum := "b9f55aa062f26110024945b99dc8014adca710cc1980f8b19e2f6b3279938071", func := "canter/canterlaw17.BbrNil", spec := "bbrNil", inPlace := ["math/bits.Add64"], apart := false }
def BbrNilSaid : Prop := bbrNilRow.holds Try.pinned (OpenSpec.ofChange bbrNilSpec)

/-- ITS FALSE NEIGHBOUR: 'it returns false'. Refute it at one input. -/
def bbrNilWrong : ChangeSpec := { name := "bbrNil", fn := fun _ => fun
  | [d] => { results := [.lit (.bool false)], args := [d] }
  | _ => none }
def BbrNilWrongFalsely : Prop := bbrNilRow.holds Try.pinned (OpenSpec.ofChange bbrNilWrong)

/-- 'canterlaw17.BbrRecovers': WHATEVER THE INPUT: true; the input reads as it did. -/
def bbrRecoversSpec : ChangeSpec := { name := "bbrRecovers", fn := fun _ => fun
  | [d1, d2] => { results := [.lit (.bool true)], args := [d1, d2] }
  | _ => none }
def bbrRecoversRow : OpenClaim := { program := "yteeabliibhedoaa", sum := "b9f55aa062f26110024945b99dc8014adca710cc1980f8b19e2f6b3279938071", func := "canter/canterlaw17.BbrRecovers", spec := "bbrRecovers", inPlace := ["math/bits.Add64"], apart := false }
def BbrRecoversSaid : Prop := bbrRecoversRow.holds Try.pinned (OpenSpec.ofChange bbrRecoversSpec)

/-- ITS FALSE NEIGHBOUR: 'it returns false'. Refute it at one input. -/
def bbrRecoversWrong : ChangeSpec := { name := "bbrRecovers", fn := fun _ => fun
  | [d1, d2] => { results := [.lit (.bool false)], args := [d1, d2] }
  | _ => none }
def BbrRecoversWrongFalsely : Prop := bbrRecoversRow.holds Try.pinned (OpenSpec.ofChange bbrRecoversWrong)

/-- 'canterlaw17.BbrProbes': WHATEVER THE INPUT: true; the input reads as it did. -/
def bbrProbesSpec : ChangeSpec := { name := "bbrProbes", fn := fun _ => fun
  | [d] => { results := [.lit (.bool true)], args := [d] }
  | _ => none }
def bbrProbesRow : OpenClaim := { program := "yteeabliibhedoaa", sum := "b9f55aa062f26110024945b99dc8014adca710cc1980f8b19e2f6b3279938071", func := "canter/canterlaw17.BbrProbes", spec := "bbrProbes", inPlace := ["math/bits.Add64"], apart := false }
def BbrProbesSaid : Prop := bbrProbesRow.holds Try.pinned (OpenSpec.ofChange bbrProbesSpec)

/-- ITS FALSE NEIGHBOUR: 'it returns false'. Refute it at one input. -/
def bbrProbesWrong : ChangeSpec := { name := "bbrProbes", fn := fun _ => fun
  | [d] => { results := [.lit (.bool false)], args := [d] }
  | _ => none }
def BbrProbesWrongFalsely : Prop := bbrProbesRow.holds Try.pinned (OpenSpec.ofChange bbrProbesWrong)

/-- 'canterlaw17.BbrRate': WHATEVER THE INPUT: true; the input reads as it did. -/
def bbrRateSpec : ChangeSpec := { name := "bbrRate", fn := fun _ => fun
  | [d1, d2] => { results := [.lit (.bool true)], args := [d1, d2] }
  | _ => none }
def bbrRateRow : OpenClaim := { program := "yteeabliibhedoaa", sum := "b9f55aa062f26110024945b99dc8014adca710cc1980f8b19e2f6b3279938071", func := "canter/canterlaw17.BbrRate", spec := "bbrRate", inPlace := ["math/bits.Add64"], apart := false }
def BbrRateSaid : Prop := bbrRateRow.holds Try.pinned (OpenSpec.ofChange bbrRateSpec)

/-- ITS FALSE NEIGHBOUR: 'it returns false'. Refute it at one input. -/
def bbrRateWrong : ChangeSpec := { name := "bbrRate", fn := fun _ => fun
  | [d1, d2] => { results := [.lit (.bool false)], args := [d1, d2] }
  | _ => none }
def BbrRateWrongFalsely : Prop := bbrRateRow.holds Try.pinned (OpenSpec.ofChange bbrRateWrong)

/- THE SECOND FORM. 'bulk': how many values and letters a reading holds, each counted each time it is reached (what is shared counts as often as it is met; a slice's spare places count too). A statement '..UptoSaid' is the law's where the arguments, and the package variables that the reading takes, are together of bulk at most 1048576: NARROWER than '..Said'. Prove '..Said' where nothing that the law and all that it calls make is longer than what came in: it says more and counts as full. Else prove '..UptoSaid'. A law counts once. -/
mutual
def uptoBulk {H : Type} : DataW H → Nat
  | .lit (.string bytes) => bytes.length + 1
  | .lit _ => 1
  | .nil => 1
  | .ptr d => uptoBulk d + 1
  | .slice elems spare => uptoBulkAll elems + uptoBulkAll spare + 1
  | .agg parts => uptoBulkAll parts + 1
  | .iface _ d => uptoBulk d + 1
  | .map entries => uptoBulkEntries entries + 1
  | .held _ => 1
def uptoBulkAll {H : Type} : List (DataW H) → Nat
  | [] => 0
  | d :: r => uptoBulk d + uptoBulkAll r
def uptoBulkEntries {H : Type} : List (Lit × DataW H) → Nat
  | [] => 0
  | x :: r => uptoBulkEntry x + uptoBulkEntries r
def uptoBulkEntry {H : Type} : Lit × DataW H → Nat
  | (.string bytes, d) => bytes.length + uptoBulk d + 1
  | (_, d) => uptoBulk d + 1
 end
def uptoSmall : (H : Type) → List (DataW H) → Bool := fun _ ds => decide (uptoBulkAll ds ≤ 1048576)
def OpenSpec.upto (s : _root_.Go.ChangeSpec) : _root_.Go.OpenSpec := { _root_.Go.OpenSpec.ofChange s with cond := some uptoSmall }

/-- 'canterlaw17.BbrTells', WHERE WHAT IT READS IS OF BULK AT MOST 1048576: true; the input reads as it did. -/
def bbrTellsUptoRow : OpenClaim := { program := "yteeabliibhedoaa", sum := "b9f55aa062f26110024945b99dc8014adca710cc1980f8b19e2f6b3279938071", func := "canter/canterlaw17.BbrTells", spec := "bbrTells", inPlace := ["math/bits.Add64"], apart := false, narrowed := true }
def BbrTellsUptoSaid : Prop := bbrTellsUptoRow.holds Try.pinned (OpenSpec.upto bbrTellsSpec)

/-- 'canterlaw17.BbrFloor', WHERE WHAT IT READS IS OF BULK AT MOST 1048576: true; the input reads as it did. -/
def bbrFloorUptoRow : OpenClaim := { program := "yteeabliibhedoaa", sum := "b9f55aa062f26110024945b99dc8014adca710cc1980f8b19e2f6b3279938071", func := "canter/canterlaw17.BbrFloor", spec := "bbrFloor", inPlace := ["math/bits.Add64"], apart := false, narrowed := true }
def BbrFloorUptoSaid : Prop := bbrFloorUptoRow.holds Try.pinned (OpenSpec.upto bbrFloorSpec)

/-- 'canterlaw17.BbrModes', WHERE WHAT IT READS IS OF BULK AT MOST 1048576: true; the input reads as it did. -/
def bbrModesUptoRow : OpenClaim := { program := "yteeabliibhedoaa", sum := "b9f55aa062f26110024945b99dc8014adca710cc1980f8b19e2f6b3279938071", func := "canter/canterlaw17.BbrModes", spec := "bbrModes", inPlace := ["math/bits.Add64"], apart := false, narrowed := true }
def BbrModesUptoSaid : Prop := bbrModesUptoRow.holds Try.pinned (OpenSpec.upto bbrModesSpec)

/-- 'canterlaw17.BbrSteady', WHERE WHAT IT READS IS OF BULK AT MOST 1048576: true; the input reads as it did. -/
def bbrSteadyUptoRow : OpenClaim := { program := "yteeabliibhedoaa", sum := "b9f55aa062f26110024945b99dc8014adca710cc1980f8b19e2f6b3279938071", func := "canter/canterlaw17.BbrSteady", spec := "bbrSteady", inPlace := ["math/bits.Add64"], apart := false, narrowed := true }
def BbrSteadyUptoSaid : Prop := bbrSteadyUptoRow.holds Try.pinned (OpenSpec.upto bbrSteadySpec)

/-- 'canterlaw17.BbrNil', WHERE WHAT IT READS IS OF BULK AT MOST 1048576: true; the input reads as it did. -/
def bbrNilUptoRow : OpenClaim := { program := "yteeabliibhedoaa", sum := "b9f55aa062f26110024945b99dc8014adca710cc1980f8b19e2f6b3279938071", func := "canter/canterlaw17.BbrNil", spec := "bbrNil", inPlace := ["math/bits.Add64"], apart := false, narrowed := true }
def BbrNilUptoSaid : Prop := bbrNilUptoRow.holds Try.pinned (OpenSpec.upto bbrNilSpec)

/-- 'canterlaw17.BbrRecovers', WHERE WHAT IT READS IS OF BULK AT MOST 1048576: true; the input reads as it did. -/
def bbrRecoversUptoRow : OpenClaim := { program := "yteeabliibhedoaa", sum := "b9f55aa062f26110024945b99dc8014adca710cc1980f8b19e2f6b3279938071", func := "canter/canterlaw17.BbrRecovers", spec := "bbrRecovers", inPlace := ["math/bits.Add64"], apart := false, narrowed := true }
def BbrRecoversUptoSaid : Prop := bbrRecoversUptoRow.holds Try.pinned (OpenSpec.upto bbrRecoversSpec)

/-- 'canterlaw17.BbrProbes', WHERE WHAT IT READS IS OF BULK AT MOST 1048576: true; the input reads as it did. -/
def bbrProbesUptoRow : OpenClaim := { program := "yteeabliibhedoaa", sum := "b9f55aa062f26110024945b99dc8014adca710cc1980f8b19e2f6b3279938071", func := "canter/canterlaw17.BbrProbes", spec := "bbrProbes", inPlace := ["math/bits.Add64"], apart := false, narrowed := true }
def BbrProbesUptoSaid : Prop := bbrProbesUptoRow.holds Try.pinned (OpenSpec.upto bbrProbesSpec)

/-- 'canterlaw17.BbrRate', WHERE WHAT IT READS IS OF BULK AT MOST 1048576: true; the input reads as it did. -/
def bbrRateUptoRow : OpenClaim := { program := "yteeabliibhedoaa", sum := "b9f55aa062f26110024945b99dc8014adca710cc1980f8b19e2f6b3279938071", func := "canter/canterlaw17.BbrRate", spec := "bbrRate", inPlace := ["math/bits.Add64"], apart := false, narrowed := true }
def BbrRateUptoSaid : Prop := bbrRateUptoRow.holds Try.pinned (OpenSpec.upto bbrRateSpec)

end Rows
end Go.Proofs.Yteeabliibhedoaa
