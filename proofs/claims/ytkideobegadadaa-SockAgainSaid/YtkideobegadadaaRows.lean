/-
  No cell of these rows narrows 'for every input' (looked for: loops, veiled, ifaces, maps, wideKeys, modest, calm, conditions, laid).
  DERIVED. THE GIVEN ROWS OF THIS SEAT. 3 by the template 'for every input the law returns true; each argument reads behind the call as it read before'; 0 by the template 'total and deterministic' (their statements: YtkideobegadadaaTotals.lean).
  GIVEN WITH THE SEED: the statements are not yours to turn. If you find one false, say at which input.
  Laid BY PROGRAM, IN A SANDBOX (cutbox-rows.mjs): the forced cells as the released guide's own fill.sh prints them over the translation 58351fd4770427ff… (all of the seat's roots in one cut). By AI agents, Wed Nov 11 2026. No macro, syntax, notation, axiom, sorry.
-/
import Derived.Test.YtkideobegadadaaChecked
import GoSem.Claim
import GoSem.ClaimJoined
import GoSem.ClaimMapViews
import Derived.JoinedTies
import Derived.KernelRfl
namespace Go.Proofs.Ytkideobegadadaa
/- THE CELL 'sum', in the pinned program and in every row, IS THE sha256 OF THE DUMP (.gsa) THAT YtkideobegadadaaProg.lean LOADS. Nothing in Lean hashes anything: it is a label: what it is worth is what the hold of that sum in a sandbox is worth. -/
noncomputable def Try.pinned : Pinned := { name := "ytkideobegadadaa", sum := "58351fd4770427ff5ef3ba2717a043227ae32774e987de79c9b8fd53e762f811", checked := Try.checked }
namespace Rows
def none {H : Type} : Left H := { results := [], args := [] }

/-- 'canterlaw25.SockDone': WHATEVER THE INPUT: true; the input reads as it did. -/
def sockDoneSpec : ChangeSpec := { name := "sockDone", fn := fun _ => fun
  | [d1, d2] => { results := [.lit (.bool true)], args := [d1, d2] }
  | _ => none }
def sockDoneRow : OpenClaim := { program := "ytkideobegadadaa", sum := "58351fd4770427ff5ef3ba2717a043227ae32774e987de79c9b8fd53e762f811", func := "canter/canterlaw25.SockDone", spec := "sockDone", inPlace := ["math/bits.Add64"], unfollowed := true, recurses := true, apart := false }
def SockDoneSaid : Prop := sockDoneRow.holds Try.pinned (OpenSpec.ofChange sockDoneSpec)

/-- ITS FALSE NEIGHBOUR: 'it returns false'. Refute it at one input. -/
def sockDoneWrong : ChangeSpec := { name := "sockDone", fn := fun _ => fun
  | [d1, d2] => { results := [.lit (.bool false)], args := [d1, d2] }
  | _ => none }
def SockDoneWrongFalsely : Prop := sockDoneRow.holds Try.pinned (OpenSpec.ofChange sockDoneWrong)

/-- 'canterlaw25.SockGates': WHATEVER THE INPUT: true; the input reads as it did. -/
def sockGatesSpec : ChangeSpec := { name := "sockGates", fn := fun _ => fun
  | [d] => { results := [.lit (.bool true)], args := [d] }
  | _ => none }
def sockGatesRow : OpenClaim := { program := "ytkideobegadadaa", sum := "58351fd4770427ff5ef3ba2717a043227ae32774e987de79c9b8fd53e762f811", func := "canter/canterlaw25.SockGates", spec := "sockGates", inPlace := ["math/bits.Add64"], unfollowed := true, recurses := true, apart := false }
def SockGatesSaid : Prop := sockGatesRow.holds Try.pinned (OpenSpec.ofChange sockGatesSpec)

/-- ITS FALSE NEIGHBOUR: 'it returns false'. Refute it at one input. -/
def sockGatesWrong : ChangeSpec := { name := "sockGates", fn := fun _ => fun
  | [d] => { results := [.lit (.bool false)], args := [d] }
  | _ => none }
def SockGatesWrongFalsely : Prop := sockGatesRow.holds Try.pinned (OpenSpec.ofChange sockGatesWrong)

/-- 'canterlaw25.SockAgain': WHATEVER THE INPUT: true; the input reads as it did. -/
def sockAgainSpec : ChangeSpec := { name := "sockAgain", fn := fun _ => fun
  | [d] => { results := [.lit (.bool true)], args := [d] }
  | _ => none }
def sockAgainRow : OpenClaim := { program := "ytkideobegadadaa", sum := "58351fd4770427ff5ef3ba2717a043227ae32774e987de79c9b8fd53e762f811", func := "canter/canterlaw25.SockAgain", spec := "sockAgain", inPlace := ["math/bits.Add64"], unfollowed := true, recurses := true, apart := false }
def SockAgainSaid : Prop := sockAgainRow.holds Try.pinned (OpenSpec.ofChange sockAgainSpec)

/-- ITS FALSE NEIGHBOUR: 'it returns false'. Refute it at one input. -/
def sockAgainWrong : ChangeSpec := { name := "sockAgain", fn := fun _ => fun
  | [d] => { results := [.lit (.bool false)], args := [d] }
  | _ => none }
def SockAgainWrongFalsely : Prop := sockAgainRow.holds Try.pinned (OpenSpec.ofChange sockAgainWrong)

/- THE SECOND FORM. 'bulk': how many values and letters a reading holds, each counted each time it is reached (what is shared counts as often as it is met; a slice's spare places count too). A statement '..UptoSaid' is the law's where the arguments, and the package variables that the reading takes, are together of bulk at most 1048576: NARROWER than '..Said'. Prove '..Said' where nothing that the law and all that it calls make is longer than what came in: it says more and counts as full. Else prove '..UptoSaid'. A law counts once. -/
mutual
def uptoBulk {H : Type} : DataW H → Nat
  | .lit (.string bytes) => bytes.length + 1
  | .lit _ => 1
  | .nil => 1
  | .ptr d => uptoBulk d + 1
  | .slice elems spare => uptoBulkAll elems + uptoBulkAll spare + 1
  | .agg parts => uptoBulkAll parts + 1
  | .iface _ d => uptoBulk d + 1
  | .map entries => uptoBulkEntries entries + 1
  | .held _ => 1
def uptoBulkAll {H : Type} : List (DataW H) → Nat
  | [] => 0
  | d :: r => uptoBulk d + uptoBulkAll r
def uptoBulkEntries {H : Type} : List (Lit × DataW H) → Nat
  | [] => 0
  | x :: r => uptoBulkEntry x + uptoBulkEntries r
def uptoBulkEntry {H : Type} : Lit × DataW H → Nat
  | (.string bytes, d) => bytes.length + uptoBulk d + 1
  | (_, d) => uptoBulk d + 1
 end
def uptoSmall : (H : Type) → List (DataW H) → Bool := fun _ ds => decide (uptoBulkAll ds ≤ 1048576)
def OpenSpec.upto (s : _root_.Go.ChangeSpec) : _root_.Go.OpenSpec := { _root_.Go.OpenSpec.ofChange s with cond := some uptoSmall }

/-- 'canterlaw25.SockDone', WHERE WHAT IT READS IS OF BULK AT MOST 1048576: true; the input reads as it did. -/
def sockDoneUptoRow : OpenClaim := { program := "ytkideobegadadaa", sum := "58351fd4770427ff5ef3ba2717a043227ae32774e987de79c9b8fd53e762f811", func := "canter/canterlaw25.SockDone", spec := "sockDone", inPlace := ["math/bits.Add64"], unfollowed := true, recurses := true, apart := false, narrowed := true }
def SockDoneUptoSaid : Prop := sockDoneUptoRow.holds Try.pinned (OpenSpec.upto sockDoneSpec)

/-- 'canterlaw25.SockGates', WHERE WHAT IT READS IS OF BULK AT MOST 1048576: true; the input reads as it did. -/
def sockGatesUptoRow : OpenClaim := { program := "ytkideobegadadaa", sum := "58351fd4770427ff5ef3ba2717a043227ae32774e987de79c9b8fd53e762f811", func := "canter/canterlaw25.SockGates", spec := "sockGates", inPlace := ["math/bits.Add64"], unfollowed := true, recurses := true, apart := false, narrowed := true }
def SockGatesUptoSaid : Prop := sockGatesUptoRow.holds Try.pinned (OpenSpec.upto sockGatesSpec)

/-- 'canterlaw25.SockAgain', WHERE WHAT IT READS IS OF BULK AT MOST 1048576: true; the input reads as it did. -/
def sockAgainUptoRow : OpenClaim := { program := "ytkideobegadadaa", sum := "58351fd4770427ff5ef3ba2717a043227ae32774e987de79c9b8fd53e762f811", func := "canter/canterlaw25.SockAgain", spec := "sockAgain", inPlace := ["math/bits.Add64"], unfollowed := true, recurses := true, apart := false, narrowed := true }
def SockAgainUptoSaid : Prop := sockAgainUptoRow.holds Try.pinned (OpenSpec.upto sockAgainSpec)

end Rows
end Go.Proofs.Ytkideobegadadaa
