/- Contracts and plain facts: FqR. -/
import Derived.Test.YtjahkildlilabaaBPlain
import Derived.Test.YtjahkildlilabaaBArith
import Derived.Test.YtjahkildlilabaaBArithC
import Derived.Test.YtjahkildlilabaaBLists
import Derived.Test.YtjahkildlilabaaBTreeM
import Derived.Test.YtjahkildlilabaaBTreeN
import Derived.Test.YtjahkildlilabaaBTreeA
import Derived.Test.YtjahkildlilabaaBTreeB
import Derived.Test.YtjahkildlilabaaBTreeC
import Derived.Test.YtjahkildlilabaaBTreeD
import Derived.Test.YtjahkildlilabaaBTreeE
import Derived.Test.YtjahkildlilabaaBTreeF
import Derived.Test.YtjahkildlilabaaBFqM
import Derived.Test.YtjahkildlilabaaBFqC
import Derived.Test.YtjahkildlilabaaBFqD
import Derived.Test.YtjahkildlilabaaBFqE
import Derived.Test.YtjahkildlilabaaBFqG
import Derived.Test.YtjahkildlilabaaBFqH
import Derived.Test.YtjahkildlilabaaBFqI
import Derived.Test.YtjahkildlilabaaBFqJ
import Derived.Test.YtjahkildlilabaaBFqK
import Derived.Test.YtjahkildlilabaaBFqN
import Derived.Test.YtjahkildlilabaaBFqQ
import Derived.Test.YtjahkildlilabaaXw
import Derived.Test.YtjahkildlilabaaK
import Derived.Test.YtjahkildlilabaaF0
import Derived.Test.YtjahkildlilabaaF1
set_option linter.unusedVariables false
set_option linter.unusedSimpArgs false
set_option linter.unusedSectionVars false
namespace Go.X
open Go.Proofs
namespace FqR
open Arith ArithC Lists _root_.Go.X.Tree TreeC TreeD TreeE TreeF FqM FqC FqD FqE FqG FqH FqI FqJ FqK FqN FqQ
/-! ### Plays -/
abbrev KD : Ks := [.int .i64, .int .u64, .int .i64, .int .u64, .int .i64, .int .u64, .bool, .sl, .int .i64, .int .i64, .int .i64, .int .i64, .int .u64, .int .u64, .bool, .int .i64, .int .i64, .bool]
abbrev DD := Ks.T KD
abbrev dR (d : DD) : Sl := d.2.2.2.2.2.2.2.1
abbrev dC (d : DD) : Cf := (d.2.2.2.2.2.2.2.2.1, d.2.2.2.2.2.2.2.2.2.1, d.2.2.2.2.2.2.2.2.2.2.1, d.2.2.2.2.2.2.2.2.2.2.2.1, d.2.2.2.2.2.2.2.2.2.2.2.2.1, d.2.2.2.2.2.2.2.2.2.2.2.2.2.1, d.2.2.2.2.2.2.2.2.2.2.2.2.2.2.1, d.2.2.2.2.2.2.2.2.2.2.2.2.2.2.2.1, d.2.2.2.2.2.2.2.2.2.2.2.2.2.2.2.2.1)
theorem seen_none {v : Qm} {i : Nat} (s : Sl) (hf : v.fl i = none) : seenF v (i : Int) s = (noF, false) ∧ sgF v (i : Int) = [] := by
  have hh : hasF v (i : Int) = false := by unfold hasF; rw [Int.toNat_natCast, hf]; simp
  unfold seenF sgF
  rw [if_neg (by rw [hh]; simp), if_neg (by rw [hh]; simp)]
  exact ⟨rfl, rfl⟩
theorem seen_some {v : Qm} {i : Nat} {f : Fl} (s : Sl) (hi : i < 8) (hf : v.fl i = some f) : seenF v (i : Int) s = (((i : Int), f.cr, plc v i, f.nx, f.si, s), true) ∧ sgF v (i : Int) = f.sg := by
  have hh : hasF v (i : Int) = true := by
    unfold hasF
    rw [Int.toNat_natCast, hf, Bool.and_eq_true, decide_eq_true_eq]
    exact ⟨by omega, rfl⟩
  unfold seenF sgF
  rw [if_pos hh, if_pos hh, Int.toNat_natCast, hf]
  exact ⟨rfl, rfl⟩
end FqR

end Go.X
