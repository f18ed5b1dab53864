/- Contracts and plain facts: FqN FqQ. -/
import Derived.Test.YtjahkildlilabaaGreatBArith
import Derived.Test.YtjahkildlilabaaGreatBInts
import Derived.Test.YtjahkildlilabaaGreatBListsO
import Derived.Test.YtjahkildlilabaaGreatBTreeN
import Derived.Test.YtjahkildlilabaaGreatBTreeB
import Derived.Test.YtjahkildlilabaaGreatBTreeD
import Derived.Test.YtjahkildlilabaaGreatBTreeF
import Derived.Test.YtjahkildlilabaaGreatBFqC
import Derived.Test.YtjahkildlilabaaGreatBFqE
import Derived.Test.YtjahkildlilabaaGreatBFqH
import Derived.Test.YtjahkildlilabaaGreatBFqK
import Derived.Test.YtjahkildlilabaaGreatXw
import Derived.Test.YtjahkildlilabaaGreatK
import Derived.Test.YtjahkildlilabaaGreatF0
import Derived.Test.YtjahkildlilabaaGreatF1
set_option linter.unusedVariables false
set_option linter.unusedSimpArgs false
set_option linter.unusedSectionVars false
namespace Go.X
open Go.Proofs
namespace FqN
open Arith ArithC Lists _root_.Go.X.Tree TreeC TreeD TreeE TreeF FqM FqC FqD FqE FqG FqH FqI FqK
/-! ### Credits -/
theorem deq_ok {v : Qm} (hv : OkQ v) {now : Int} (hn : U now) {rates : List Int} (hr : ∀ x ∈ rates, U x) : OkQ (deqF v now rates).2 := by
  rw [deq_eq]
  unfold deqH
  suffices ∀ k u, OkQ u → OkQ (heads now rates k u).2 from this _ _ (hv.due now)
  intro k
  induction k with
  | zero => intro u hu; exact hu
  | succ k ih =>
    intro u hu
    cases hh : (headF u.lv).2.2 with
    | false => rw [heads_no hh]; exact hu
    | true =>
      have hmm := headF_mem hh
      have hx := hu.lv.2 _ hmm
      obtain ⟨i, hi⟩ : ∃ i : Nat, (headF u.lv).1 = (i : Int) := ⟨(headF u.lv).1.toNat, by omega⟩
      obtain ⟨f, hf⟩ := hu.th i (by rw [hi] at hmm; exact hmm)
      have hA : AtH u i f := ⟨hu, hi, hh, hf⟩
      rw [heads_at hA]
      by_cases c : f.cr ≤ 0
      · rw [if_pos c]
        exact ih _ (hA.credit c)
      · rw [if_neg c]
        cases hs : f.sg with
        | nil =>
          simp only
          split
          · exact ih _ hA.back
          · rw [← hs]
            exact ih _ (hA.nowhere hs hn)
        | cons s l =>
          simp only
          split
          · exact ih _ (hA.wait (by rw [hs]; simp)).1
          · have hF := (hu.fl i f hf).2
            exact hA.sent hs (by omega) hn (U_delay (by have := (hF.sg s (by rw [hs]; simp)).2.ln; omega) (U_less (U_rateA hr i) hu.cf.r))
end FqN

namespace FqQ
open Arith ArithC Lists _root_.Go.X.Tree TreeC TreeD TreeE TreeF FqM FqC FqD FqE FqG FqH FqI FqK FqN
/-! ### How a pull goes -/
/-- Flows have what they had: their times and their segments. -/
def Same (u v : Qm) : Prop := ∀ i, (v.fl i).map (fun f => (f.nx, f.sg)) = (u.fl i).map fun f => (f.nx, f.sg)
theorem Same.trans {a b c : Qm} (h : Same a b) (g : Same b c) : Same a c := fun i => (g i).trans (h i)
theorem Same.to {u v : Qm} (h : Same u v) {i : Nat} {f : Fl} (hf : u.fl i = some f) : ∃ g, v.fl i = some g ∧ g.nx = f.nx ∧ g.sg = f.sg ∧ timeF g = timeF f := by
  have := h i
  rw [hf] at this
  cases hg : v.fl i with
  | none => rw [hg] at this; cases this
  | some g =>
    rw [hg] at this
    simp only [Option.map_some, Option.some.injEq, Prod.mk.injEq] at this
    refine ⟨g, rfl, this.1, this.2, ?_⟩
    unfold timeF
    rw [this.1, this.2]
/-! ### The least time -/
end FqQ


end Go.X
