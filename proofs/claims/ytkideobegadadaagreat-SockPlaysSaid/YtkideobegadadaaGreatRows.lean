/-
  No cell of these rows narrows 'for every input' (looked for: loops, veiled, ifaces, maps, wideKeys, modest, calm, conditions, laid).
  DERIVED. THE GIVEN ROWS OF THIS SEAT. 5 by the template 'for every input the law returns true; each argument reads behind the call as it read before'; 0 by the template 'total and deterministic' (their statements: YtkideobegadadaaGreatTotals.lean).
  GIVEN WITH THE SEED: the statements are not yours to turn. If you find one false, say at which input.
  Laid BY PROGRAM, IN A SANDBOX (cutbox-rows.mjs): the forced cells as the released guide's own fill.sh prints them over the translation 57d478d52712e557… (all of the seat's roots in one cut). By AI agents, Wed Nov 11 2026. No macro, syntax, notation, axiom, sorry.
-/
import Derived.Test.YtkideobegadadaaGreatChecked
import GoSem.Claim
import GoSem.ClaimJoined
import GoSem.ClaimMapViews
import Derived.JoinedTies
import Derived.KernelRfl
namespace Go.Proofs.YtkideobegadadaaGreat
/- THE CELL 'sum', in the pinned program and in every row, IS THE sha256 OF THE DUMP (.gsa) THAT YtkideobegadadaaGreatProg.lean LOADS. Nothing in Lean hashes anything: it is a label: what it is worth is what the hold of that sum in a sandbox is worth. -/
noncomputable def Tryz.pinned : Pinned := { name := "ytkideobegadadaagreat", sum := "57d478d52712e5577fc495b9d7e558cd25bc0c95c28128703e327ef7eacaad17", checked := Tryz.checked }
namespace Rows
def none {H : Type} : Left H := { results := [], args := [] }

/-- 'canterlaw25.SockTells': WHATEVER THE INPUT: true; the input reads as it did. -/
def sockTellsSpec : ChangeSpec := { name := "sockTells", fn := fun _ => fun
  | [d1, d2] => { results := [.lit (.bool true)], args := [d1, d2] }
  | _ => none }
def sockTellsRow : OpenClaim := { program := "ytkideobegadadaagreat", sum := "57d478d52712e5577fc495b9d7e558cd25bc0c95c28128703e327ef7eacaad17", func := "canter/canterlaw25.SockTells", spec := "sockTells", inPlace := ["math/bits.Add64"], unfollowed := true, recurses := true, apart := false }
def SockTellsSaid : Prop := sockTellsRow.holds Tryz.pinned (OpenSpec.ofChange sockTellsSpec)

/-- ITS FALSE NEIGHBOUR: 'it returns false'. Refute it at one input. -/
def sockTellsWrong : ChangeSpec := { name := "sockTells", fn := fun _ => fun
  | [d1, d2] => { results := [.lit (.bool false)], args := [d1, d2] }
  | _ => none }
def SockTellsWrongFalsely : Prop := sockTellsRow.holds Tryz.pinned (OpenSpec.ofChange sockTellsWrong)

/-- 'canterlaw25.SockOrder': WHATEVER THE INPUT: true; the input reads as it did. -/
def sockOrderSpec : ChangeSpec := { name := "sockOrder", fn := fun _ => fun
  | [d1, d2] => { results := [.lit (.bool true)], args := [d1, d2] }
  | _ => none }
def sockOrderRow : OpenClaim := { program := "ytkideobegadadaagreat", sum := "57d478d52712e5577fc495b9d7e558cd25bc0c95c28128703e327ef7eacaad17", func := "canter/canterlaw25.SockOrder", spec := "sockOrder", inPlace := ["math/bits.Add64"], unfollowed := true, recurses := true, apart := false }
def SockOrderSaid : Prop := sockOrderRow.holds Tryz.pinned (OpenSpec.ofChange sockOrderSpec)

/-- ITS FALSE NEIGHBOUR: 'it returns false'. Refute it at one input. -/
def sockOrderWrong : ChangeSpec := { name := "sockOrder", fn := fun _ => fun
  | [d1, d2] => { results := [.lit (.bool false)], args := [d1, d2] }
  | _ => none }
def SockOrderWrongFalsely : Prop := sockOrderRow.holds Tryz.pinned (OpenSpec.ofChange sockOrderWrong)

/-- 'canterlaw25.SockPlays': WHATEVER THE INPUT: true; the input reads as it did. -/
def sockPlaysSpec : ChangeSpec := { name := "sockPlays", fn := fun _ => fun
  | [d1, d2, d3, d4] => { results := [.lit (.bool true)], args := [d1, d2, d3, d4] }
  | _ => none }
def sockPlaysRow : OpenClaim := { program := "ytkideobegadadaagreat", sum := "57d478d52712e5577fc495b9d7e558cd25bc0c95c28128703e327ef7eacaad17", func := "canter/canterlaw25.SockPlays", spec := "sockPlays", inPlace := ["math/bits.Add64"], unfollowed := true, recurses := true, apart := false }
def SockPlaysSaid : Prop := sockPlaysRow.holds Tryz.pinned (OpenSpec.ofChange sockPlaysSpec)

/-- ITS FALSE NEIGHBOUR: 'it returns false'. Refute it at one input. -/
def sockPlaysWrong : ChangeSpec := { name := "sockPlays", fn := fun _ => fun
  | [d1, d2, d3, d4] => { results := [.lit (.bool false)], args := [d1, d2, d3, d4] }
  | _ => none }
def SockPlaysWrongFalsely : Prop := sockPlaysRow.holds Tryz.pinned (OpenSpec.ofChange sockPlaysWrong)

/-- 'canterlaw25.SockBounds': WHATEVER THE INPUT: true; the input reads as it did. -/
def sockBoundsSpec : ChangeSpec := { name := "sockBounds", fn := fun _ => fun
  | [d1, d2] => { results := [.lit (.bool true)], args := [d1, d2] }
  | _ => none }
def sockBoundsRow : OpenClaim := { program := "ytkideobegadadaagreat", sum := "57d478d52712e5577fc495b9d7e558cd25bc0c95c28128703e327ef7eacaad17", func := "canter/canterlaw25.SockBounds", spec := "sockBounds", inPlace := ["math/bits.Add64"], unfollowed := true, recurses := true, apart := false }
def SockBoundsSaid : Prop := sockBoundsRow.holds Tryz.pinned (OpenSpec.ofChange sockBoundsSpec)

/-- ITS FALSE NEIGHBOUR: 'it returns false'. Refute it at one input. -/
def sockBoundsWrong : ChangeSpec := { name := "sockBounds", fn := fun _ => fun
  | [d1, d2] => { results := [.lit (.bool false)], args := [d1, d2] }
  | _ => none }
def SockBoundsWrongFalsely : Prop := sockBoundsRow.holds Tryz.pinned (OpenSpec.ofChange sockBoundsWrong)

/-- 'canterlaw25.SockNil': WHATEVER THE INPUT: true; the input reads as it did. -/
def sockNilSpec : ChangeSpec := { name := "sockNil", fn := fun _ => fun
  | [d1, d2, d3] => { results := [.lit (.bool true)], args := [d1, d2, d3] }
  | _ => none }
def sockNilRow : OpenClaim := { program := "ytkideobegadadaagreat", sum := "57d478d52712e5577fc495b9d7e558cd25bc0c95c28128703e327ef7eacaad17", func := "canter/canterlaw25.SockNil", spec := "sockNil", inPlace := ["math/bits.Add64"], unfollowed := true, recurses := true, apart := false }
def SockNilSaid : Prop := sockNilRow.holds Tryz.pinned (OpenSpec.ofChange sockNilSpec)

/-- ITS FALSE NEIGHBOUR: 'it returns false'. Refute it at one input. -/
def sockNilWrong : ChangeSpec := { name := "sockNil", fn := fun _ => fun
  | [d1, d2, d3] => { results := [.lit (.bool false)], args := [d1, d2, d3] }
  | _ => none }
def SockNilWrongFalsely : Prop := sockNilRow.holds Tryz.pinned (OpenSpec.ofChange sockNilWrong)

/- THE SECOND FORM. 'bulk': how many values and letters a reading holds, each counted each time it is reached (what is shared counts as often as it is met; a slice's spare places count too). A statement '..UptoSaid' is the law's where the arguments, and the package variables that the reading takes, are together of bulk at most 1048576: NARROWER than '..Said'. Prove '..Said' where nothing that the law and all that it calls make is longer than what came in: it says more and counts as full. Else prove '..UptoSaid'. A law counts once. -/
mutual
def uptoBulk {H : Type} : DataW H → Nat
  | .lit (.string bytes) => bytes.length + 1
  | .lit _ => 1
  | .nil => 1
  | .ptr d => uptoBulk d + 1
  | .slice elems spare => uptoBulkAll elems + uptoBulkAll spare + 1
  | .agg parts => uptoBulkAll parts + 1
  | .iface _ d => uptoBulk d + 1
  | .map entries => uptoBulkEntries entries + 1
  | .held _ => 1
def uptoBulkAll {H : Type} : List (DataW H) → Nat
  | [] => 0
  | d :: r => uptoBulk d + uptoBulkAll r
def uptoBulkEntries {H : Type} : List (Lit × DataW H) → Nat
  | [] => 0
  | x :: r => uptoBulkEntry x + uptoBulkEntries r
def uptoBulkEntry {H : Type} : Lit × DataW H → Nat
  | (.string bytes, d) => bytes.length + uptoBulk d + 1
  | (_, d) => uptoBulk d + 1
 end
def uptoSmall : (H : Type) → List (DataW H) → Bool := fun _ ds => decide (uptoBulkAll ds ≤ 1048576)
def OpenSpec.upto (s : _root_.Go.ChangeSpec) : _root_.Go.OpenSpec := { _root_.Go.OpenSpec.ofChange s with cond := some uptoSmall }

/-- 'canterlaw25.SockTells', WHERE WHAT IT READS IS OF BULK AT MOST 1048576: true; the input reads as it did. -/
def sockTellsUptoRow : OpenClaim := { program := "ytkideobegadadaagreat", sum := "57d478d52712e5577fc495b9d7e558cd25bc0c95c28128703e327ef7eacaad17", func := "canter/canterlaw25.SockTells", spec := "sockTells", inPlace := ["math/bits.Add64"], unfollowed := true, recurses := true, apart := false, narrowed := true }
def SockTellsUptoSaid : Prop := sockTellsUptoRow.holds Tryz.pinned (OpenSpec.upto sockTellsSpec)

/-- 'canterlaw25.SockOrder', WHERE WHAT IT READS IS OF BULK AT MOST 1048576: true; the input reads as it did. -/
def sockOrderUptoRow : OpenClaim := { program := "ytkideobegadadaagreat", sum := "57d478d52712e5577fc495b9d7e558cd25bc0c95c28128703e327ef7eacaad17", func := "canter/canterlaw25.SockOrder", spec := "sockOrder", inPlace := ["math/bits.Add64"], unfollowed := true, recurses := true, apart := false, narrowed := true }
def SockOrderUptoSaid : Prop := sockOrderUptoRow.holds Tryz.pinned (OpenSpec.upto sockOrderSpec)

/-- 'canterlaw25.SockPlays', WHERE WHAT IT READS IS OF BULK AT MOST 1048576: true; the input reads as it did. -/
def sockPlaysUptoRow : OpenClaim := { program := "ytkideobegadadaagreat", sum := "57d478d52712e5577fc495b9d7e558cd25bc0c95c28128703e327ef7eacaad17", func := "canter/canterlaw25.SockPlays", spec := "sockPlays", inPlace := ["math/bits.Add64"], unfollowed := true, recurses := true, apart := false, narrowed := true }
def SockPlaysUptoSaid : Prop := sockPlaysUptoRow.holds Tryz.pinned (OpenSpec.upto sockPlaysSpec)

/-- 'canterlaw25.SockBounds', WHERE WHAT IT READS IS OF BULK AT MOST 1048576: true; the input reads as it did. -/
def sockBoundsUptoRow : OpenClaim := { program := "ytkideobegadadaagreat", sum := "57d478d52712e5577fc495b9d7e558cd25bc0c95c28128703e327ef7eacaad17", func := "canter/canterlaw25.SockBounds", spec := "sockBounds", inPlace := ["math/bits.Add64"], unfollowed := true, recurses := true, apart := false, narrowed := true }
def SockBoundsUptoSaid : Prop := sockBoundsUptoRow.holds Tryz.pinned (OpenSpec.upto sockBoundsSpec)

/-- 'canterlaw25.SockNil', WHERE WHAT IT READS IS OF BULK AT MOST 1048576: true; the input reads as it did. -/
def sockNilUptoRow : OpenClaim := { program := "ytkideobegadadaagreat", sum := "57d478d52712e5577fc495b9d7e558cd25bc0c95c28128703e327ef7eacaad17", func := "canter/canterlaw25.SockNil", spec := "sockNil", inPlace := ["math/bits.Add64"], unfollowed := true, recurses := true, apart := false, narrowed := true }
def SockNilUptoSaid : Prop := sockNilUptoRow.holds Tryz.pinned (OpenSpec.upto sockNilSpec)

end Rows
end Go.Proofs.YtkideobegadadaaGreat
