/- Contracts and plain facts: BbrF. -/
import Derived.Test.YteeabliibhedoaaBArith
import Derived.Test.YteeabliibhedoaaBBbrM
import Derived.Test.YteeabliibhedoaaBBbrMm
import Derived.Test.YteeabliibhedoaaXw
import Derived.Test.YteeabliibhedoaaK
set_option linter.unusedVariables false
set_option linter.unusedSimpArgs false
set_option linter.unusedSectionVars false
namespace Go.X
namespace BbrF
open Arith BbrM BbrMm
theorem wf_u {n : Int} (h : (Lit.int .u64 n).wf = true) : U n := by
  have h : IntKind.u64.min ≤ n ∧ n ≤ IntKind.u64.max := by simpa [Lit.wf] using h
  have e1 : IntKind.u64.min = 0 := by decide
  have e2 : IntKind.u64.max = 18446744073709551615 := by decide
  unfold U
  omega
theorem okS_of {z : Sm} (h : ∀ k n, Lf.int k n ∈ Ks.mk [.int .u64, .int .u64, .int .u64, .int .u64, .int .u64, .int .u64, .int .u64, .int .u64, .bool] z → (Lit.int k n).wf = true) : OkS z := by
  refine ⟨wf_u (h .u64 _ ?_), wf_u (h .u64 _ ?_), wf_u (h .u64 _ ?_), wf_u (h .u64 _ ?_), wf_u (h .u64 _ ?_), wf_u (h .u64 _ ?_), wf_u (h .u64 _ ?_), wf_u (h .u64 _ ?_)⟩ <;> simp [Ks.mk, CK.mk]
/-- What does not turn. -/
structure Keeps (a b : Md) : Prop where
  mss : b.mss = a.mss
  rate : b.rate = a.rate
theorem Keeps.trans {a b c : Md} (h : Keeps a b) (g : Keeps b c) : Keeps a c := ⟨g.mss.trans h.mss, g.rate.trans h.rate⟩
theorem k_meas (m : Md) (s : Sm) : Keeps m (mMeas m s) := by unfold mMeas; repeat' split
                                                             all_goals exact ⟨rfl, rfl⟩
theorem k_rec (m : Md) (s : Sm) (o : Bool) : Keeps m (mRecover m s o) := by unfold mRecover mOver; repeat' split
                                                                            all_goals exact ⟨rfl, rfl⟩
theorem k_w2 (m : Md) (s : Sm) (t : Int) : Keeps m (mW2 m s t) := by unfold mW2; repeat' split
                                                                     all_goals exact ⟨rfl, rfl⟩
theorem k_w4 (m : Md) : Keeps m (mW4 m) := by unfold mW4; split <;> exact ⟨rfl, rfl⟩
theorem k_window (m : Md) (s : Sm) (t : Int) : Keeps m (mWindow m s t) := by
  have a : Keeps m (mW1 m s) := ⟨rfl, rfl⟩
  have b : Keeps (mW2 (mW1 m s) s t) (mW3 (mW2 (mW1 m s) s t)) := ⟨rfl, rfl⟩
  exact (a.trans (k_w2 _ s t)).trans (b.trans (k_w4 _))
end BbrF

end Go.X
