/-
  No cell of these rows narrows 'for every input' (looked for: loops, veiled, ifaces, maps, wideKeys, modest, calm, conditions, laid).
  DERIVED. THE GIVEN ROWS OF THIS SEAT. 11 by the template 'for every input the law returns true; each argument reads behind the call as it read before'; 0 by the template 'total and deterministic' (their statements: YtjahkildlilabaaTotals.lean).
  GIVEN WITH THE SEED: the statements are not yours to turn. If you find one false, say at which input.
  Laid BY PROGRAM, IN A SANDBOX (cutbox-rows.mjs): the forced cells as the released guide's own fill.sh prints them over the translation 98597f6a55d3838a… (all of the seat's roots in one cut). By AI agents, Wed Nov 11 2026. No macro, syntax, notation, axiom, sorry.
-/
import Derived.Test.YtjahkildlilabaaChecked
import GoSem.Claim
import GoSem.ClaimJoined
import GoSem.ClaimMapViews
import Derived.JoinedTies
import Derived.KernelRfl
namespace Go.Proofs.Ytjahkildlilabaa
/- THE CELL 'sum', in the pinned program and in every row, IS THE sha256 OF THE DUMP (.gsa) THAT YtjahkildlilabaaProg.lean LOADS. Nothing in Lean hashes anything: it is a label: what it is worth is what the hold of that sum in a sandbox is worth. -/
noncomputable def Try.pinned : Pinned := { name := "ytjahkildlilabaa", sum := "98597f6a55d3838a6b15e72bfd16acec71f2f225f8e01f4f6015e157d2214eaf", checked := Try.checked }
namespace Rows
def none {H : Type} : Left H := { results := [], args := [] }

/-- 'canterlaw20.FqSets': WHATEVER THE INPUT: true; the input reads as it did. -/
def fqSetsSpec : ChangeSpec := { name := "fqSets", fn := fun _ => fun
  | [d1, d2, d3] => { results := [.lit (.bool true)], args := [d1, d2, d3] }
  | _ => none }
def fqSetsRow : OpenClaim := { program := "ytjahkildlilabaa", sum := "98597f6a55d3838a6b15e72bfd16acec71f2f225f8e01f4f6015e157d2214eaf", func := "canter/canterlaw20.FqSets", spec := "fqSets", inPlace := ["math/bits.Add64"], unfollowed := true, recurses := true, apart := false }
def FqSetsSaid : Prop := fqSetsRow.holds Try.pinned (OpenSpec.ofChange fqSetsSpec)

/-- ITS FALSE NEIGHBOUR: 'it returns false'. Refute it at one input. -/
def fqSetsWrong : ChangeSpec := { name := "fqSets", fn := fun _ => fun
  | [d1, d2, d3] => { results := [.lit (.bool false)], args := [d1, d2, d3] }
  | _ => none }
def FqSetsWrongFalsely : Prop := fqSetsRow.holds Try.pinned (OpenSpec.ofChange fqSetsWrong)

/-- 'canterlaw20.FqPaces': WHATEVER THE INPUT: true; the input reads as it did. -/
def fqPacesSpec : ChangeSpec := { name := "fqPaces", fn := fun _ => fun
  | [d1, d2] => { results := [.lit (.bool true)], args := [d1, d2] }
  | _ => none }
def fqPacesRow : OpenClaim := { program := "ytjahkildlilabaa", sum := "98597f6a55d3838a6b15e72bfd16acec71f2f225f8e01f4f6015e157d2214eaf", func := "canter/canterlaw20.FqPaces", spec := "fqPaces", inPlace := ["math/bits.Add64"], unfollowed := true, recurses := true, apart := false }
def FqPacesSaid : Prop := fqPacesRow.holds Try.pinned (OpenSpec.ofChange fqPacesSpec)

/-- ITS FALSE NEIGHBOUR: 'it returns false'. Refute it at one input. -/
def fqPacesWrong : ChangeSpec := { name := "fqPaces", fn := fun _ => fun
  | [d1, d2] => { results := [.lit (.bool false)], args := [d1, d2] }
  | _ => none }
def FqPacesWrongFalsely : Prop := fqPacesRow.holds Try.pinned (OpenSpec.ofChange fqPacesWrong)

/-- 'canterlaw20.FqFair': WHATEVER THE INPUT: true; the input reads as it did. -/
def fqFairSpec : ChangeSpec := { name := "fqFair", fn := fun _ => fun
  | [d1, d2, d3, d4, d5, d6] => { results := [.lit (.bool true)], args := [d1, d2, d3, d4, d5, d6] }
  | _ => none }
def fqFairRow : OpenClaim := { program := "ytjahkildlilabaa", sum := "98597f6a55d3838a6b15e72bfd16acec71f2f225f8e01f4f6015e157d2214eaf", func := "canter/canterlaw20.FqFair", spec := "fqFair", inPlace := ["math/bits.Add64"], unfollowed := true, recurses := true, apart := false }
def FqFairSaid : Prop := fqFairRow.holds Try.pinned (OpenSpec.ofChange fqFairSpec)

/-- ITS FALSE NEIGHBOUR: 'it returns false'. Refute it at one input. -/
def fqFairWrong : ChangeSpec := { name := "fqFair", fn := fun _ => fun
  | [d1, d2, d3, d4, d5, d6] => { results := [.lit (.bool false)], args := [d1, d2, d3, d4, d5, d6] }
  | _ => none }
def FqFairWrongFalsely : Prop := fqFairRow.holds Try.pinned (OpenSpec.ofChange fqFairWrong)

/-- 'canterlaw20.FqLimits': WHATEVER THE INPUT: true; the input reads as it did. -/
def fqLimitsSpec : ChangeSpec := { name := "fqLimits", fn := fun _ => fun
  | [d1, d2, d3, d4] => { results := [.lit (.bool true)], args := [d1, d2, d3, d4] }
  | _ => none }
def fqLimitsRow : OpenClaim := { program := "ytjahkildlilabaa", sum := "98597f6a55d3838a6b15e72bfd16acec71f2f225f8e01f4f6015e157d2214eaf", func := "canter/canterlaw20.FqLimits", spec := "fqLimits", inPlace := ["math/bits.Add64"], unfollowed := true, recurses := true, apart := false }
def FqLimitsSaid : Prop := fqLimitsRow.holds Try.pinned (OpenSpec.ofChange fqLimitsSpec)

/-- ITS FALSE NEIGHBOUR: 'it returns false'. Refute it at one input. -/
def fqLimitsWrong : ChangeSpec := { name := "fqLimits", fn := fun _ => fun
  | [d1, d2, d3, d4] => { results := [.lit (.bool false)], args := [d1, d2, d3, d4] }
  | _ => none }
def FqLimitsWrongFalsely : Prop := fqLimitsRow.holds Try.pinned (OpenSpec.ofChange fqLimitsWrong)

/-- 'canterlaw20.FqOrder': WHATEVER THE INPUT: true; the input reads as it did. -/
def fqOrderSpec : ChangeSpec := { name := "fqOrder", fn := fun _ => fun
  | [d1, d2] => { results := [.lit (.bool true)], args := [d1, d2] }
  | _ => none }
def fqOrderRow : OpenClaim := { program := "ytjahkildlilabaa", sum := "98597f6a55d3838a6b15e72bfd16acec71f2f225f8e01f4f6015e157d2214eaf", func := "canter/canterlaw20.FqOrder", spec := "fqOrder", inPlace := ["math/bits.Add64"], unfollowed := true, recurses := true, apart := false }
def FqOrderSaid : Prop := fqOrderRow.holds Try.pinned (OpenSpec.ofChange fqOrderSpec)

/-- ITS FALSE NEIGHBOUR: 'it returns false'. Refute it at one input. -/
def fqOrderWrong : ChangeSpec := { name := "fqOrder", fn := fun _ => fun
  | [d1, d2] => { results := [.lit (.bool false)], args := [d1, d2] }
  | _ => none }
def FqOrderWrongFalsely : Prop := fqOrderRow.holds Try.pinned (OpenSpec.ofChange fqOrderWrong)

/-- 'canterlaw20.FqCredits': WHATEVER THE INPUT: true; the input reads as it did. -/
def fqCreditsSpec : ChangeSpec := { name := "fqCredits", fn := fun _ => fun
  | [d1, d2] => { results := [.lit (.bool true)], args := [d1, d2] }
  | _ => none }
def fqCreditsRow : OpenClaim := { program := "ytjahkildlilabaa", sum := "98597f6a55d3838a6b15e72bfd16acec71f2f225f8e01f4f6015e157d2214eaf", func := "canter/canterlaw20.FqCredits", spec := "fqCredits", inPlace := ["math/bits.Add64"], unfollowed := true, recurses := true, apart := false }
def FqCreditsSaid : Prop := fqCreditsRow.holds Try.pinned (OpenSpec.ofChange fqCreditsSpec)

/-- ITS FALSE NEIGHBOUR: 'it returns false'. Refute it at one input. -/
def fqCreditsWrong : ChangeSpec := { name := "fqCredits", fn := fun _ => fun
  | [d1, d2] => { results := [.lit (.bool false)], args := [d1, d2] }
  | _ => none }
def FqCreditsWrongFalsely : Prop := fqCreditsRow.holds Try.pinned (OpenSpec.ofChange fqCreditsWrong)

/-- 'canterlaw20.FqWorks': WHATEVER THE INPUT: true; the input reads as it did. -/
def fqWorksSpec : ChangeSpec := { name := "fqWorks", fn := fun _ => fun
  | [d1, d2] => { results := [.lit (.bool true)], args := [d1, d2] }
  | _ => none }
def fqWorksRow : OpenClaim := { program := "ytjahkildlilabaa", sum := "98597f6a55d3838a6b15e72bfd16acec71f2f225f8e01f4f6015e157d2214eaf", func := "canter/canterlaw20.FqWorks", spec := "fqWorks", inPlace := ["math/bits.Add64"], unfollowed := true, recurses := true, apart := false }
def FqWorksSaid : Prop := fqWorksRow.holds Try.pinned (OpenSpec.ofChange fqWorksSpec)

/-- ITS FALSE NEIGHBOUR: 'it returns false'. Refute it at one input. -/
def fqWorksWrong : ChangeSpec := { name := "fqWorks", fn := fun _ => fun
  | [d1, d2] => { results := [.lit (.bool false)], args := [d1, d2] }
  | _ => none }
def FqWorksWrongFalsely : Prop := fqWorksRow.holds Try.pinned (OpenSpec.ofChange fqWorksWrong)

/-- 'canterlaw20.FqWaits': WHATEVER THE INPUT: true; the input reads as it did. -/
def fqWaitsSpec : ChangeSpec := { name := "fqWaits", fn := fun _ => fun
  | [d1, d2] => { results := [.lit (.bool true)], args := [d1, d2] }
  | _ => none }
def fqWaitsRow : OpenClaim := { program := "ytjahkildlilabaa", sum := "98597f6a55d3838a6b15e72bfd16acec71f2f225f8e01f4f6015e157d2214eaf", func := "canter/canterlaw20.FqWaits", spec := "fqWaits", inPlace := ["math/bits.Add64"], unfollowed := true, recurses := true, apart := false }
def FqWaitsSaid : Prop := fqWaitsRow.holds Try.pinned (OpenSpec.ofChange fqWaitsSpec)

/-- ITS FALSE NEIGHBOUR: 'it returns false'. Refute it at one input. -/
def fqWaitsWrong : ChangeSpec := { name := "fqWaits", fn := fun _ => fun
  | [d1, d2] => { results := [.lit (.bool false)], args := [d1, d2] }
  | _ => none }
def FqWaitsWrongFalsely : Prop := fqWaitsRow.holds Try.pinned (OpenSpec.ofChange fqWaitsWrong)

/-- 'canterlaw20.FqRates': WHATEVER THE INPUT: true; the input reads as it did. -/
def fqRatesSpec : ChangeSpec := { name := "fqRates", fn := fun _ => fun
  | [d1, d2, d3] => { results := [.lit (.bool true)], args := [d1, d2, d3] }
  | _ => none }
def fqRatesRow : OpenClaim := { program := "ytjahkildlilabaa", sum := "98597f6a55d3838a6b15e72bfd16acec71f2f225f8e01f4f6015e157d2214eaf", func := "canter/canterlaw20.FqRates", spec := "fqRates", inPlace := ["math/bits.Add64"], unfollowed := true, recurses := true, apart := false }
def FqRatesSaid : Prop := fqRatesRow.holds Try.pinned (OpenSpec.ofChange fqRatesSpec)

/-- ITS FALSE NEIGHBOUR: 'it returns false'. Refute it at one input. -/
def fqRatesWrong : ChangeSpec := { name := "fqRates", fn := fun _ => fun
  | [d1, d2, d3] => { results := [.lit (.bool false)], args := [d1, d2, d3] }
  | _ => none }
def FqRatesWrongFalsely : Prop := fqRatesRow.holds Try.pinned (OpenSpec.ofChange fqRatesWrong)

/-- 'canterlaw20.FqCloses': WHATEVER THE INPUT: true; the input reads as it did. -/
def fqClosesSpec : ChangeSpec := { name := "fqCloses", fn := fun _ => fun
  | [d1, d2] => { results := [.lit (.bool true)], args := [d1, d2] }
  | _ => none }
def fqClosesRow : OpenClaim := { program := "ytjahkildlilabaa", sum := "98597f6a55d3838a6b15e72bfd16acec71f2f225f8e01f4f6015e157d2214eaf", func := "canter/canterlaw20.FqCloses", spec := "fqCloses", inPlace := ["math/bits.Add64"], unfollowed := true, recurses := true, apart := false }
def FqClosesSaid : Prop := fqClosesRow.holds Try.pinned (OpenSpec.ofChange fqClosesSpec)

/-- ITS FALSE NEIGHBOUR: 'it returns false'. Refute it at one input. -/
def fqClosesWrong : ChangeSpec := { name := "fqCloses", fn := fun _ => fun
  | [d1, d2] => { results := [.lit (.bool false)], args := [d1, d2] }
  | _ => none }
def FqClosesWrongFalsely : Prop := fqClosesRow.holds Try.pinned (OpenSpec.ofChange fqClosesWrong)

/-- 'canterlaw20.FqNil': WHATEVER THE INPUT: true; the input reads as it did. -/
def fqNilSpec : ChangeSpec := { name := "fqNil", fn := fun _ => fun
  | [d1, d2] => { results := [.lit (.bool true)], args := [d1, d2] }
  | _ => none }
def fqNilRow : OpenClaim := { program := "ytjahkildlilabaa", sum := "98597f6a55d3838a6b15e72bfd16acec71f2f225f8e01f4f6015e157d2214eaf", func := "canter/canterlaw20.FqNil", spec := "fqNil", inPlace := ["math/bits.Add64"], unfollowed := true, recurses := true, apart := false }
def FqNilSaid : Prop := fqNilRow.holds Try.pinned (OpenSpec.ofChange fqNilSpec)

/-- ITS FALSE NEIGHBOUR: 'it returns false'. Refute it at one input. -/
def fqNilWrong : ChangeSpec := { name := "fqNil", fn := fun _ => fun
  | [d1, d2] => { results := [.lit (.bool false)], args := [d1, d2] }
  | _ => none }
def FqNilWrongFalsely : Prop := fqNilRow.holds Try.pinned (OpenSpec.ofChange fqNilWrong)

/- THE SECOND FORM. 'bulk': how many values and letters a reading holds, each counted each time it is reached (what is shared counts as often as it is met; a slice's spare places count too). A statement '..UptoSaid' is the law's where the arguments, and the package variables that the reading takes, are together of bulk at most 1048576: NARROWER than '..Said'. Prove '..Said' where nothing that the law and all that it calls make is longer than what came in: it says more and counts as full. Else prove '..UptoSaid'. A law counts once. -/
mutual
def uptoBulk {H : Type} : DataW H → Nat
  | .lit (.string bytes) => bytes.length + 1
  | .lit _ => 1
  | .nil => 1
  | .ptr d => uptoBulk d + 1
  | .slice elems spare => uptoBulkAll elems + uptoBulkAll spare + 1
  | .agg parts => uptoBulkAll parts + 1
  | .iface _ d => uptoBulk d + 1
  | .map entries => uptoBulkEntries entries + 1
  | .held _ => 1
def uptoBulkAll {H : Type} : List (DataW H) → Nat
  | [] => 0
  | d :: r => uptoBulk d + uptoBulkAll r
def uptoBulkEntries {H : Type} : List (Lit × DataW H) → Nat
  | [] => 0
  | x :: r => uptoBulkEntry x + uptoBulkEntries r
def uptoBulkEntry {H : Type} : Lit × DataW H → Nat
  | (.string bytes, d) => bytes.length + uptoBulk d + 1
  | (_, d) => uptoBulk d + 1
 end
def uptoSmall : (H : Type) → List (DataW H) → Bool := fun _ ds => decide (uptoBulkAll ds ≤ 1048576)
def OpenSpec.upto (s : _root_.Go.ChangeSpec) : _root_.Go.OpenSpec := { _root_.Go.OpenSpec.ofChange s with cond := some uptoSmall }

/-- 'canterlaw20.FqSets', WHERE WHAT IT READS IS OF BULK AT MOST 1048576: true; the input reads as it did. -/
def fqSetsUptoRow : OpenClaim := { program := "ytjahkildlilabaa", sum := "98597f6a55d3838a6b15e72bfd16acec71f2f225f8e01f4f6015e157d2214eaf", func := "canter/canterlaw20.FqSets", spec := "fqSets", inPlace := ["math/bits.Add64"], unfollowed := true, recurses := true, apart := false, narrowed := true }
def FqSetsUptoSaid : Prop := fqSetsUptoRow.holds Try.pinned (OpenSpec.upto fqSetsSpec)

/-- 'canterlaw20.FqPaces', WHERE WHAT IT READS IS OF BULK AT MOST 1048576: true; the input reads as it did. -/
def fqPacesUptoRow : OpenClaim := { program := "ytjahkildlilabaa", sum := "98597f6a55d3838a6b15e72bfd16acec71f2f225f8e01f4f6015e157d2214eaf", func := "canter/canterlaw20.FqPaces", spec := "fqPaces", inPlace := ["math/bits.Add64"], unfollowed := true, recurses := true, apart := false, narrowed := true }
def FqPacesUptoSaid : Prop := fqPacesUptoRow.holds Try.pinned (OpenSpec.upto fqPacesSpec)

/-- 'canterlaw20.FqFair', WHERE WHAT IT READS IS OF BULK AT MOST 1048576: true; the input reads as it did. -/
def fqFairUptoRow : OpenClaim := { program := "ytjahkildlilabaa", sum := "98597f6a55d3838a6b15e72bfd16acec71f2f225f8e01f4f6015e157d2214eaf", func := "canter/canterlaw20.FqFair", spec := "fqFair", inPlace := ["math/bits.Add64"], unfollowed := true, recurses := true, apart := false, narrowed := true }
def FqFairUptoSaid : Prop := fqFairUptoRow.holds Try.pinned (OpenSpec.upto fqFairSpec)

/-- 'canterlaw20.FqLimits', WHERE WHAT IT READS IS OF BULK AT MOST 1048576: true; the input reads as it did. -/
def fqLimitsUptoRow : OpenClaim := { program := "ytjahkildlilabaa", sum := "98597f6a55d3838a6b15e72bfd16acec71f2f225f8e01f4f6015e157d2214eaf", func := "canter/canterlaw20.FqLimits", spec := "fqLimits", inPlace := ["math/bits.Add64"], unfollowed := true, recurses := true, apart := false, narrowed := true }
def FqLimitsUptoSaid : Prop := fqLimitsUptoRow.holds Try.pinned (OpenSpec.upto fqLimitsSpec)

/-- 'canterlaw20.FqOrder', WHERE WHAT IT READS IS OF BULK AT MOST 1048576: true; the input reads as it did. -/
def fqOrderUptoRow : OpenClaim := { program := "ytjahkildlilabaa", sum := "98597f6a55d3838a6b15e72bfd16acec71f2f225f8e01f4f6015e157d2214eaf", func := "canter/canterlaw20.FqOrder", spec := "fqOrder", inPlace := ["math/bits.Add64"], unfollowed := true, recurses := true, apart := false, narrowed := true }
def FqOrderUptoSaid : Prop := fqOrderUptoRow.holds Try.pinned (OpenSpec.upto fqOrderSpec)

/-- 'canterlaw20.FqCredits', WHERE WHAT IT READS IS OF BULK AT MOST 1048576: true; the input reads as it did. -/
def fqCreditsUptoRow : OpenClaim := { program := "ytjahkildlilabaa", sum := "98597f6a55d3838a6b15e72bfd16acec71f2f225f8e01f4f6015e157d2214eaf", func := "canter/canterlaw20.FqCredits", spec := "fqCredits", inPlace := ["math/bits.Add64"], unfollowed := true, recurses := true, apart := false, narrowed := true }
def FqCreditsUptoSaid : Prop := fqCreditsUptoRow.holds Try.pinned (OpenSpec.upto fqCreditsSpec)

/-- 'canterlaw20.FqWorks', WHERE WHAT IT READS IS OF BULK AT MOST 1048576: true; the input reads as it did. -/
def fqWorksUptoRow : OpenClaim := { program := "ytjahkildlilabaa", sum := "98597f6a55d3838a6b15e72bfd16acec71f2f225f8e01f4f6015e157d2214eaf", func := "canter/canterlaw20.FqWorks", spec := "fqWorks", inPlace := ["math/bits.Add64"], unfollowed := true, recurses := true, apart := false, narrowed := true }
def FqWorksUptoSaid : Prop := fqWorksUptoRow.holds Try.pinned (OpenSpec.upto fqWorksSpec)

/-- 'canterlaw20.FqWaits', WHERE WHAT IT READS IS OF BULK AT MOST 1048576: true; the input reads as it did. -/
def fqWaitsUptoRow : OpenClaim := { program := "ytjahkildlilabaa", sum := "98597f6a55d3838a6b15e72bfd16acec71f2f225f8e01f4f6015e157d2214eaf", func := "canter/canterlaw20.FqWaits", spec := "fqWaits", inPlace := ["math/bits.Add64"], unfollowed := true, recurses := true, apart := false, narrowed := true }
def FqWaitsUptoSaid : Prop := fqWaitsUptoRow.holds Try.pinned (OpenSpec.upto fqWaitsSpec)

/-- 'canterlaw20.FqRates', WHERE WHAT IT READS IS OF BULK AT MOST 1048576: true; the input reads as it did. -/
def fqRatesUptoRow : OpenClaim := { program := "ytjahkildlilabaa", sum := "98597f6a55d3838a6b15e72bfd16acec71f2f225f8e01f4f6015e157d2214eaf", func := "canter/canterlaw20.FqRates", spec := "fqRates", inPlace := ["math/bits.Add64"], unfollowed := true, recurses := true, apart := false, narrowed := true }
def FqRatesUptoSaid : Prop := fqRatesUptoRow.holds Try.pinned (OpenSpec.upto fqRatesSpec)

/-- 'canterlaw20.FqCloses', WHERE WHAT IT READS IS OF BULK AT MOST 1048576: true; the input reads as it did. -/
def fqClosesUptoRow : OpenClaim := { program := "ytjahkildlilabaa", sum := "98597f6a55d3838a6b15e72bfd16acec71f2f225f8e01f4f6015e157d2214eaf", func := "canter/canterlaw20.FqCloses", spec := "fqCloses", inPlace := ["math/bits.Add64"], unfollowed := true, recurses := true, apart := false, narrowed := true }
def FqClosesUptoSaid : Prop := fqClosesUptoRow.holds Try.pinned (OpenSpec.upto fqClosesSpec)

/-- 'canterlaw20.FqNil', WHERE WHAT IT READS IS OF BULK AT MOST 1048576: true; the input reads as it did. -/
def fqNilUptoRow : OpenClaim := { program := "ytjahkildlilabaa", sum := "98597f6a55d3838a6b15e72bfd16acec71f2f225f8e01f4f6015e157d2214eaf", func := "canter/canterlaw20.FqNil", spec := "fqNil", inPlace := ["math/bits.Add64"], unfollowed := true, recurses := true, apart := false, narrowed := true }
def FqNilUptoSaid : Prop := fqNilUptoRow.holds Try.pinned (OpenSpec.upto fqNilSpec)

end Rows
end Go.Proofs.Ytjahkildlilabaa
