/- Contracts and plain facts: BbrF. -/
import Derived.Test.YteeabliibhedoaaBArith
import Derived.Test.YteeabliibhedoaaBBbrM
import Derived.Test.YteeabliibhedoaaBBbrMm
import Derived.Test.YteeabliibhedoaaXw
import Derived.Test.YteeabliibhedoaaK
set_option linter.unusedVariables false
set_option linter.unusedSimpArgs false
set_option linter.unusedSectionVars false
namespace Go.X
namespace BbrF
open Arith BbrM BbrMm
theorem wf_u {n : Int} (h : (Lit.int .u64 n).wf = true) : U n := by
  have h : IntKind.u64.min ≤ n ∧ n ≤ IntKind.u64.max := by simpa [Lit.wf] using h
  have e1 : IntKind.u64.min = 0 := by decide
  have e2 : IntKind.u64.max = 18446744073709551615 := by decide
  unfold U
  omega
/-- What does not turn. -/
structure Keeps (a b : Md) : Prop where
  mss : b.mss = a.mss
  rate : b.rate = a.rate
theorem Keeps.trans {a b c : Md} (h : Keeps a b) (g : Keeps b c) : Keeps a c := ⟨g.mss.trans h.mss, g.rate.trans h.rate⟩
theorem k_meas (m : Md) (s : Sm) : Keeps m (mMeas m s) := by unfold mMeas; repeat' split
                                                             all_goals exact ⟨rfl, rfl⟩
theorem k_cyc (m : Md) (s : Sm) : Keeps m (mCyc m s) := by unfold mCyc; split <;> exact ⟨rfl, rfl⟩
theorem k_m1 (m : Md) : Keeps m (mM1 m) := by unfold mM1; split <;> exact ⟨rfl, rfl⟩
theorem k_m2 (m : Md) (s : Sm) : Keeps m (mM2 m s) := by unfold mM2; split <;> exact ⟨rfl, rfl⟩
theorem k_probed (m : Md) (r : Bool × Bool) (now : Int) : Keeps m (mProbed m r now) := by unfold mProbed; repeat' split
                                                                                          all_goals exact ⟨rfl, rfl⟩
theorem k_look (m : Md) (s : Sm) (o : Bool) : Keeps m (mLook m s o) := (⟨rfl, rfl⟩ : Keeps m { m with b := (mPr m s o).2 }).trans (k_probed _ _ _)
theorem k_rec (m : Md) (s : Sm) (o : Bool) : Keeps m (mRecover m s o) := by unfold mRecover mOver; repeat' split
                                                                            all_goals exact ⟨rfl, rfl⟩
theorem k_w2 (m : Md) (s : Sm) (t : Int) : Keeps m (mW2 m s t) := by unfold mW2; repeat' split
                                                                     all_goals exact ⟨rfl, rfl⟩
theorem k_w4 (m : Md) : Keeps m (mW4 m) := by unfold mW4; split <;> exact ⟨rfl, rfl⟩
theorem k_window (m : Md) (s : Sm) (t : Int) : Keeps m (mWindow m s t) := by
  have a : Keeps m (mW1 m s) := ⟨rfl, rfl⟩
  have b : Keeps (mW2 (mW1 m s) s t) (mW3 (mW2 (mW1 m s) s t)) := ⟨rfl, rfl⟩
  exact (a.trans (k_w2 _ s t)).trans (b.trans (k_w4 _))
theorem k_u2 (m : Md) (o : Bool) (s : Sm) : Keeps m (mU2 m o s) := by
  have a : Keeps (mCyc (mMeas m s) s) (mPipe (mCyc (mMeas m s) s) o s) := ⟨rfl, rfl⟩
  exact ((k_meas m s).trans (k_cyc _ s)).trans (a.trans (((k_m1 _).trans (k_m2 _ s)).trans (k_look _ s o)))
theorem pace_mss (m : Md) : (mPace m).mss = m.mss := by unfold mPace; repeat' split
                                                        all_goals rfl
theorem upd_mss (m : Md) (s : Sm) (t : Int) : (mUpd m s t).mss = m.mss := by
  unfold mUpd mU3
  rw [(k_window _ s t).mss, (k_rec _ s _).mss, pace_mss, (k_u2 _ _ s).mss]
end BbrF

end Go.X
