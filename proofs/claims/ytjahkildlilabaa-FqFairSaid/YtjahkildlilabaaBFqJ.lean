/- Contracts and plain facts: FqJ. -/
import Derived.Test.YtjahkildlilabaaBPlain
import Derived.Test.YtjahkildlilabaaBArith
import Derived.Test.YtjahkildlilabaaBArithC
import Derived.Test.YtjahkildlilabaaBLists
import Derived.Test.YtjahkildlilabaaBTreeM
import Derived.Test.YtjahkildlilabaaBTreeN
import Derived.Test.YtjahkildlilabaaBTreeA
import Derived.Test.YtjahkildlilabaaBTreeB
import Derived.Test.YtjahkildlilabaaBTreeC
import Derived.Test.YtjahkildlilabaaBTreeD
import Derived.Test.YtjahkildlilabaaBTreeE
import Derived.Test.YtjahkildlilabaaBTreeF
import Derived.Test.YtjahkildlilabaaBFqM
import Derived.Test.YtjahkildlilabaaBFqC
import Derived.Test.YtjahkildlilabaaBFqD
import Derived.Test.YtjahkildlilabaaBFqE
import Derived.Test.YtjahkildlilabaaBFqG
import Derived.Test.YtjahkildlilabaaBFqH
import Derived.Test.YtjahkildlilabaaBFqI
import Derived.Test.YtjahkildlilabaaXw
import Derived.Test.YtjahkildlilabaaK
import Derived.Test.YtjahkildlilabaaF0
import Derived.Test.YtjahkildlilabaaF1
set_option linter.unusedVariables false
set_option linter.unusedSimpArgs false
set_option linter.unusedSectionVars false
namespace Go.X
open Go.Proofs
namespace FqJ
open Arith ArithC Lists _root_.Go.X.Tree TreeC TreeD TreeE TreeF FqM FqC FqD FqE FqG FqH FqI
theorem no_idle {v : Qm} (hv : OkQ v) (i : Nat) {long now : Int} (h : now < long) (hl : long ≤ 18446744073709551615) : idle v i long now = false := by
  unfold idle
  split
  · rfl
  · rename_i f hf
    have hs := (hv.fl i f hf).2.si
    unfold U at hs
    rw [Bool.and_eq_false_iff]
    right
    rw [decide_eq_false_iff_not]
    unfold addI
    split <;> omega
theorem coll_same {v : Qm} (hv : OkQ v) {now : Int} (h : now < 3000000000) : collectF v now = v := by
  have e : (collectF v now).fl = v.fl := funext fun i => by
    show (if _ then _ else _) = _
    rw [no_idle hv i h (by decide)]; rfl
  show (⟨v.c, (collectF v now).fl, v.lv, v.ks, v.n⟩ : Qm) = v
  rw [e]
def fate4 (v : Qm) (s : Sg) (now : Int) : Int := if v.n ≥ cL v.c then 2 else if cnt (v.fl (sK s).toNat) ≥ cW v.c then 3 else if sSt s > addI now (cH v.c) ∧ cD v.c = true then 4 else 0
theorem fate_eq {v : Qm} (hv : OkQ v) (s : Sg) (now : Int) : fateF v s now = fate4 v s now := by
  have hw := hv.cf.w
  have e : (∃ f, v.fl (sK s).toNat = some f ∧ (f.sg.length : Int) ≥ cW v.c) ↔ cnt (v.fl (sK s).toNat) ≥ cW v.c := by
    cases hf : v.fl (sK s).toNat with
    | none => exact ⟨fun ⟨_, e, _⟩ => (by cases e), fun h => (by have h : (0 : Int) ≥ cW v.c := h; omega)⟩
    | some f => exact ⟨fun ⟨g, e, h⟩ => (by cases e; exact h), fun h => ⟨f, rfl, h⟩⟩
  unfold fateF fate4
  simp only [e]
end FqJ

end Go.X
