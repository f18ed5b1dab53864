/- Contracts and plain facts: FqK. -/
import Derived.Test.YtjahkildlilabaaBPlain
import Derived.Test.YtjahkildlilabaaBArith
import Derived.Test.YtjahkildlilabaaBArithC
import Derived.Test.YtjahkildlilabaaBLists
import Derived.Test.YtjahkildlilabaaBTreeM
import Derived.Test.YtjahkildlilabaaBTreeN
import Derived.Test.YtjahkildlilabaaBTreeA
import Derived.Test.YtjahkildlilabaaBTreeB
import Derived.Test.YtjahkildlilabaaBTreeC
import Derived.Test.YtjahkildlilabaaBTreeD
import Derived.Test.YtjahkildlilabaaBTreeE
import Derived.Test.YtjahkildlilabaaBTreeF
import Derived.Test.YtjahkildlilabaaBFqM
import Derived.Test.YtjahkildlilabaaBFqC
import Derived.Test.YtjahkildlilabaaBFqD
import Derived.Test.YtjahkildlilabaaBFqE
import Derived.Test.YtjahkildlilabaaBFqG
import Derived.Test.YtjahkildlilabaaBFqH
import Derived.Test.YtjahkildlilabaaBFqI
import Derived.Test.YtjahkildlilabaaBFqJ
import Derived.Test.YtjahkildlilabaaXw
import Derived.Test.YtjahkildlilabaaK
import Derived.Test.YtjahkildlilabaaF0
import Derived.Test.YtjahkildlilabaaF1
set_option linter.unusedVariables false
set_option linter.unusedSimpArgs false
set_option linter.unusedSectionVars false
namespace Go.X
open Go.Proofs
namespace FqK
open Arith ArithC Lists _root_.Go.X.Tree TreeC TreeD TreeE TreeF FqM FqC FqD FqE FqG FqH FqI FqJ
/-! ### One flow alone -/
def one (c : Cf) (i : Nat) (f : Fl) (lv : LV) (ks : List Key) : Qm := ⟨c, upF (fun _ => none) i (some f), lv, ks, f.sg.length⟩
/-! ### What departs -/
theorem due_none {v : Qm} {now : Int} (h : ∀ k ∈ v.ks, ¬ k.1 ≤ now) : dueF v now = v := by
  have h1 : v.ks.takeWhile (fun k => decide (k.1 ≤ now)) = [] := by
    cases e : v.ks with
    | nil => rfl
    | cons k l => rw [List.takeWhile_cons, if_neg (by have := h k (by rw [e]; simp); simpa using this)]
  have h2 : v.ks.dropWhile (fun k => decide (k.1 ≤ now)) = v.ks := by
    cases e : v.ks with
    | nil => rfl
    | cons k l => rw [List.dropWhile_cons, if_neg (by have := h k (by rw [e]; simp); simpa using this)]
  show (⟨v.c, v.fl, (v.lv.1, v.lv.2 ++ (dueK v now).map Prod.snd), v.ks.dropWhile _, v.n⟩ : Qm) = v
  unfold dueK
  rw [h1, h2]
  simp
/-! ### One flow departs -/
end FqK

end Go.X
