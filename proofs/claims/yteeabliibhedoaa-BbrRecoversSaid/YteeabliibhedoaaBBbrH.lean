/- Contracts and plain facts: BbrH. -/
import Derived.Test.YteeabliibhedoaaBArith
import Derived.Test.YteeabliibhedoaaBBbrM
import Derived.Test.YteeabliibhedoaaBBbrMm
import Derived.Test.YteeabliibhedoaaBBbrF
import Derived.Test.YteeabliibhedoaaBBbrG
import Derived.Test.YteeabliibhedoaaXw
import Derived.Test.YteeabliibhedoaaK
set_option linter.unusedVariables false
set_option linter.unusedSimpArgs false
set_option linter.unusedSectionVars false
namespace Go.X
namespace BbrH
open Arith BbrM BbrMm BbrF BbrG
theorem le_add {t b : Int} (h : U t) (hb : U b) : t ≤ addI t b := by unfold U addI at *; split <;> omega
theorem sub_le {a b : Int} (h : U a) (hb : U b) : subI a b ≤ a := by unfold U subI at *; split <;> omega
end BbrH

end Go.X
