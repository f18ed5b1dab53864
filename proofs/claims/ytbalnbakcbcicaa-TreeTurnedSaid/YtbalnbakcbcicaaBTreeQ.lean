/- Contracts and plain facts: TreeQ. -/
import Derived.Test.YtbalnbakcbcicaaBPlain
import Derived.Test.YtbalnbakcbcicaaBTreeM
import Derived.Test.YtbalnbakcbcicaaBTreeN
import Derived.Test.YtbalnbakcbcicaaBTreeA
import Derived.Test.YtbalnbakcbcicaaBTreeB
import Derived.Test.YtbalnbakcbcicaaBTreeC
import Derived.Test.YtbalnbakcbcicaaBTreeD
import Derived.Test.YtbalnbakcbcicaaBTreeE
import Derived.Test.YtbalnbakcbcicaaBKeys
import Derived.Test.YtbalnbakcbcicaaBTreeF
import Derived.Test.YtbalnbakcbcicaaBTreeL
import Derived.Test.YtbalnbakcbcicaaXw
import Derived.Test.YtbalnbakcbcicaaK
import Derived.Test.YtbalnbakcbcicaaF0
set_option linter.unusedVariables false
set_option linter.unusedSimpArgs false
set_option linter.unusedSectionVars false
namespace Go.X
open Go.Proofs
namespace TreeQ
open _root_.Go.X.Tree TreeA TreeB TreeC TreeD TreeE TreeF TreeL
theorem key_beq {x y : Key} : ((x.1 == y.1) && (x.2 == y.2)) = true ↔ x = y := by
  simp only [Bool.and_eq_true, beq_iff_eq]
  exact ⟨fun h => key_ext h.1 h.2, fun h => by rw [h]; exact ⟨rfl, rfl⟩⟩
theorem nodup_sub {a b : List Key} (ha : Srt a) (h : ∀ x ∈ a, x ∈ b) : a.length ≤ b.length := List.Nodup.length_le_of_subset ha.nodup h
end TreeQ

end Go.X
