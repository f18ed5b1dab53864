/- Contracts and plain facts: FqN. -/
import Derived.Test.YtjahkildlilabaaBPlain
import Derived.Test.YtjahkildlilabaaBArith
import Derived.Test.YtjahkildlilabaaBArithC
import Derived.Test.YtjahkildlilabaaBLists
import Derived.Test.YtjahkildlilabaaBTreeM
import Derived.Test.YtjahkildlilabaaBTreeN
import Derived.Test.YtjahkildlilabaaBTreeA
import Derived.Test.YtjahkildlilabaaBTreeB
import Derived.Test.YtjahkildlilabaaBTreeC
import Derived.Test.YtjahkildlilabaaBTreeD
import Derived.Test.YtjahkildlilabaaBTreeE
import Derived.Test.YtjahkildlilabaaBTreeF
import Derived.Test.YtjahkildlilabaaBFqM
import Derived.Test.YtjahkildlilabaaBFqC
import Derived.Test.YtjahkildlilabaaBFqD
import Derived.Test.YtjahkildlilabaaBFqE
import Derived.Test.YtjahkildlilabaaBFqG
import Derived.Test.YtjahkildlilabaaBFqH
import Derived.Test.YtjahkildlilabaaBFqI
import Derived.Test.YtjahkildlilabaaBFqJ
import Derived.Test.YtjahkildlilabaaBFqK
import Derived.Test.YtjahkildlilabaaXw
import Derived.Test.YtjahkildlilabaaK
import Derived.Test.YtjahkildlilabaaF0
import Derived.Test.YtjahkildlilabaaF1
set_option linter.unusedVariables false
set_option linter.unusedSimpArgs false
set_option linter.unusedSectionVars false
namespace Go.X
open Go.Proofs
namespace FqN
open Arith ArithC Lists _root_.Go.X.Tree TreeC TreeD TreeE TreeF FqM FqC FqD FqE FqG FqH FqI FqJ FqK
theorem less_0 : lessI 18446744073709551615 0 = 18446744073709551615 := by decide
theorem delay_max (n : Int) : delayI n 18446744073709551615 = 0 := by unfold delayI; rw [if_pos (.inr rfl)]
theorem rate_none (i : Nat) : rateA [] i = 18446744073709551615 := by unfold rateA; simp
/-! ### Credits -/
abbrev l0 : LV := ([((0 : Nat) : Int)], [])
theorem nor : ∀ x ∈ ([] : List Int), U x := fun x h => by cases h
end FqN

end Go.X
