/- Contracts and plain facts: FqN. -/
import Derived.Test.YtjahkildlilabaaBPlain
import Derived.Test.YtjahkildlilabaaBArith
import Derived.Test.YtjahkildlilabaaBArithC
import Derived.Test.YtjahkildlilabaaBLists
import Derived.Test.YtjahkildlilabaaBTreeM
import Derived.Test.YtjahkildlilabaaBTreeN
import Derived.Test.YtjahkildlilabaaBTreeA
import Derived.Test.YtjahkildlilabaaBTreeB
import Derived.Test.YtjahkildlilabaaBTreeC
import Derived.Test.YtjahkildlilabaaBTreeD
import Derived.Test.YtjahkildlilabaaBTreeE
import Derived.Test.YtjahkildlilabaaBTreeF
import Derived.Test.YtjahkildlilabaaBFqM
import Derived.Test.YtjahkildlilabaaBFqC
import Derived.Test.YtjahkildlilabaaBFqD
import Derived.Test.YtjahkildlilabaaBFqE
import Derived.Test.YtjahkildlilabaaBFqG
import Derived.Test.YtjahkildlilabaaBFqH
import Derived.Test.YtjahkildlilabaaBFqI
import Derived.Test.YtjahkildlilabaaBFqK
import Derived.Test.YtjahkildlilabaaXw
import Derived.Test.YtjahkildlilabaaK
import Derived.Test.YtjahkildlilabaaF0
import Derived.Test.YtjahkildlilabaaF1
set_option linter.unusedVariables false
set_option linter.unusedSimpArgs false
set_option linter.unusedSectionVars false
namespace Go.X
open Go.Proofs
namespace FqN
open Arith ArithC Lists _root_.Go.X.Tree TreeC TreeD TreeE TreeF FqM FqC FqD FqE FqG FqH FqI FqK
/-! ### Credits -/
theorem deq_ok {v : Qm} (hv : OkQ v) {now : Int} (hn : U now) {rates : List Int} (hr : ∀ x ∈ rates, U x) : OkQ (deqF v now rates).2 := by
  rw [deq_eq]
  unfold deqH
  suffices ∀ k u, OkQ u → OkQ (heads now rates k u).2 from this _ _ (hv.due now)
  intro k
  induction k with
  | zero => intro u hu; exact hu
  | succ k ih =>
    intro u hu
    cases hh : (headF u.lv).2.2 with
    | false => rw [heads_no hh]; exact hu
    | true =>
      have hmm := headF_mem hh
      have hx := hu.lv.2 _ hmm
      obtain ⟨i, hi⟩ : ∃ i : Nat, (headF u.lv).1 = (i : Int) := ⟨(headF u.lv).1.toNat, by omega⟩
      obtain ⟨f, hf⟩ := hu.th i (by rw [hi] at hmm; exact hmm)
      have hA : AtH u i f := ⟨hu, hi, hh, hf⟩
      rw [heads_at hA]
      by_cases c : f.cr ≤ 0
      · rw [if_pos c]
        exact ih _ (hA.credit c)
      · rw [if_neg c]
        cases hs : f.sg with
        | nil =>
          simp only
          split
          · exact ih _ hA.back
          · rw [← hs]
            exact ih _ (hA.nowhere hs hn)
        | cons s l =>
          simp only
          split
          · exact ih _ (hA.wait (by rw [hs]; simp)).1
          · have hF := (hu.fl i f hf).2
            exact hA.sent hs (by omega) hn (U_delay (by have := (hF.sg s (by rw [hs]; simp)).2.ln; omega) (U_less (U_rateA hr i) hu.cf.r))
end FqN

end Go.X
