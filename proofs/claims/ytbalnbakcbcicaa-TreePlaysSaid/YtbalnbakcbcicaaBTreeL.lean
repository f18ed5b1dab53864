/- Contracts and plain facts: TreeL. -/
import Derived.Test.YtbalnbakcbcicaaBPlain
import Derived.Test.YtbalnbakcbcicaaBTreeM
import Derived.Test.YtbalnbakcbcicaaBTreeN
import Derived.Test.YtbalnbakcbcicaaBTreeA
import Derived.Test.YtbalnbakcbcicaaBTreeB
import Derived.Test.YtbalnbakcbcicaaBTreeC
import Derived.Test.YtbalnbakcbcicaaBTreeD
import Derived.Test.YtbalnbakcbcicaaBTreeE
import Derived.Test.YtbalnbakcbcicaaBKeys
import Derived.Test.YtbalnbakcbcicaaBTreeF
import Derived.Test.YtbalnbakcbcicaaXw
import Derived.Test.YtbalnbakcbcicaaK
import Derived.Test.YtbalnbakcbcicaaF0
set_option linter.unusedVariables false
set_option linter.unusedSimpArgs false
set_option linter.unusedSectionVars false
namespace Go.X
open Go.Proofs
namespace TreeL
open _root_.Go.X.Tree TreeA TreeB TreeC TreeD TreeE TreeF
theorem tree_srt {w0 w : World} {S0 R0 : Nat → Prop} {F G : SP} {rm : Int} {t : Nat} {ks : List Key} (h : Own w0 S0 R0 w F) [tk : TakeK (TreeC.tree rm) t F ks G] : Srt ks ∧ ks.length ≤ 4096 := by
  obtain ⟨l, T, us, fr, a, s, s1, s2, hg, h⟩ := h.tree rm t
  exact ⟨hg.srt, hg.small.2.2.2⟩
theorem less_tri (a b : Key) : Tri Try.prog N_canterref04_Less [.agg (Ks.mk [.int .u64, .int .u64] a), .agg (Ks.mk [.int .u64, .int .u64] b)] [.lf .bool] emp (fun r => pur (r = klt a b) emp) :=
  tri_0 (call_canterref04_Less a b) fun w0 S R h => by
    unfold W_canterref04_Less
    refine w_new h fun n1 w h => w_new h fun n2 w h => w_ld h rfl (w_ld h rfl (w_ite (fun c => ?_) fun c => ?_))
    · have c : a.1 < b.1 := of_decide_eq_true c
      exact Own.retP (by simp [klt, c]) h.emp'
    have c : ¬ a.1 < b.1 := of_decide_eq_false c
    refine w_ld h rfl (w_ld h rfl (w_ite (fun c2 => ?_) fun c2 => ?_))
    · have c2 : a.1 = b.1 := by simpa using c2
      refine w_ld h rfl (w_ld h rfl ?_)
      exact Own.retP (by simp [klt, c2]) h.emp'
    · have c2 : a.1 ≠ b.1 := by simpa using c2
      exact Own.retP (by simp [klt, c, c2]) h.emp'
/-! ### A nil tree -/
end TreeL

end Go.X
