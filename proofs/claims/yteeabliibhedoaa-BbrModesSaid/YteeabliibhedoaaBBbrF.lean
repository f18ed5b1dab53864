/- Contracts and plain facts: BbrF. -/
import Derived.Test.YteeabliibhedoaaBArith
import Derived.Test.YteeabliibhedoaaBBbrM
import Derived.Test.YteeabliibhedoaaBBbrMm
import Derived.Test.YteeabliibhedoaaXw
import Derived.Test.YteeabliibhedoaaK
set_option linter.unusedVariables false
set_option linter.unusedSimpArgs false
set_option linter.unusedSectionVars false
namespace Go.X
namespace BbrF
open Arith BbrM BbrMm
theorem wf_u {n : Int} (h : (Lit.int .u64 n).wf = true) : U n := by
  have h : IntKind.u64.min ≤ n ∧ n ≤ IntKind.u64.max := by simpa [Lit.wf] using h
  have e1 : IntKind.u64.min = 0 := by decide
  have e2 : IntKind.u64.max = 18446744073709551615 := by decide
  unfold U
  omega
theorem okS_of {z : Sm} (h : ∀ k n, Lf.int k n ∈ Ks.mk [.int .u64, .int .u64, .int .u64, .int .u64, .int .u64, .int .u64, .int .u64, .int .u64, .bool] z → (Lit.int k n).wf = true) : OkS z := by
  refine ⟨wf_u (h .u64 _ ?_), wf_u (h .u64 _ ?_), wf_u (h .u64 _ ?_), wf_u (h .u64 _ ?_), wf_u (h .u64 _ ?_), wf_u (h .u64 _ ?_), wf_u (h .u64 _ ?_), wf_u (h .u64 _ ?_)⟩ <;> simp [Ks.mk, CK.mk]
/-- What does not turn. -/
structure Keeps (a b : Md) : Prop where
  mss : b.mss = a.mss
  rate : b.rate = a.rate
theorem Keeps.trans {a b c : Md} (h : Keeps a b) (g : Keeps b c) : Keeps a c := ⟨g.mss.trans h.mss, g.rate.trans h.rate⟩
end BbrF

end Go.X
