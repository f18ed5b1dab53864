/- Contracts and plain facts: FqH. -/
import Derived.Test.YtjahkildlilabaaBPlain
import Derived.Test.YtjahkildlilabaaBArith
import Derived.Test.YtjahkildlilabaaBArithC
import Derived.Test.YtjahkildlilabaaBLists
import Derived.Test.YtjahkildlilabaaBTreeM
import Derived.Test.YtjahkildlilabaaBTreeN
import Derived.Test.YtjahkildlilabaaBTreeA
import Derived.Test.YtjahkildlilabaaBTreeB
import Derived.Test.YtjahkildlilabaaBTreeC
import Derived.Test.YtjahkildlilabaaBTreeD
import Derived.Test.YtjahkildlilabaaBTreeE
import Derived.Test.YtjahkildlilabaaBTreeF
import Derived.Test.YtjahkildlilabaaBFqM
import Derived.Test.YtjahkildlilabaaBFqC
import Derived.Test.YtjahkildlilabaaBFqD
import Derived.Test.YtjahkildlilabaaBFqE
import Derived.Test.YtjahkildlilabaaBFqG
import Derived.Test.YtjahkildlilabaaXw
import Derived.Test.YtjahkildlilabaaK
import Derived.Test.YtjahkildlilabaaF0
import Derived.Test.YtjahkildlilabaaF1
set_option linter.unusedVariables false
set_option linter.unusedSimpArgs false
set_option linter.unusedSectionVars false
namespace Go.X
open Go.Proofs
namespace FqH
open Arith ArithC Lists _root_.Go.X.Tree TreeC TreeD TreeE TreeF FqM FqC FqD FqE FqG
abbrev plainC : Cf := (3000, 15000, 100, 50, 10000000000, 0, false, 100000, 1000)
theorem plain_tri : Tri Try.prog N_canterref20_Plain [] [.agg KC] emp (fun r => pur (r = plainC) emp) :=
  tri_0 call_canterref20_Plain fun w0 S R h => by
    unfold W_canterref20_Plain
    refine w_new h fun n1 w h => w_setAll h (by rfl) fun w h => w_ldAll (b := n1) (x := plainC) h rfl ?_
    exact Own.retP rfl h.emp'
theorem u0 : U 0 := U_lit 0
theorem u5 : U 5 := U_lit 5
theorem plain_may : may plainC = true := by decide
theorem plain_ok : OkC plainC := may_ok plain_may (by decide) u0
theorem awake_plain : (enqF (newF plainC) (1, 0, 100, 0, false) 5).1 = (0, 0) ∧ ((deqF (enqF (newF plainC) (1, 0, 100, 0, false) 5).2 5 []).1 = some (1, 0, 100, 0, false)) ∧ (deqF (enqF (newF plainC) (1, 0, 100, 0, false) 5).2 5 []).2.n = 0 := by decide +kernel
theorem awake_tri : Tri Try.prog N_canterlaw20_awake [] [.lf .bool] emp (fun r => pur (r = true) emp) :=
  tri_0 call_canterlaw20_awake fun w0 S R h => by
    unfold W_canterlaw20_awake
    obtain ⟨h1, h2, h3⟩ := awake_plain
    refine w_call plain_tri (h.le (star_emp _)) fun r w h => ?_
    obtain ⟨hr, h⟩ := h.purP; rw [hr]
    refine w_call (new_tri plainC) h fun r w h => ?_
    obtain ⟨b, h⟩ := h.exP
    obtain ⟨hr, h⟩ := h.purP
    rw [if_pos plain_may] at hr h
    rw [hr]
    have hok := OkQ.new plain_ok
    refine w_ite (fun c => (by simp at c)) fun _ => ?_
    refine w_call (enq_tri b (newF plainC) hok (1, 0, 100, 0, false) 5 ⟨u0, u0⟩ u5) h fun r w h => ?_
    obtain ⟨hr, h⟩ := h.purP; rw [hr, h1]
    have hok2 := hok.enq (s := (1, 0, 100, 0, false)) (now := 5) ⟨u0, u0⟩ u5
    have h := h.nil KU
    refine w_callL (deq_tri b _ hok2 5 u5 ⟨none, 0, 0⟩ [] (fun x hx => by cases hx)) h fun r w h => ?_
    obtain ⟨hr, h⟩ := h.purP; rw [hr, h2]
    refine w_new h fun n w h => w_setAll h (by rfl) fun w h => w_ite (fun _ => ?_) fun c => (by simp [outS] at c)
    refine w_ld h rfl (w_ite (fun _ => ?_) fun c => (by cases c))
    refine w_call (len_tri b (deqF (enqF (newF plainC) (1, 0, 100, 0, false) 5).2 5 []).2) h fun r w h => ?_
    obtain ⟨hr, h⟩ := h.purP; rw [hr, h3]
    exact Own.retP rfl h.emp'
/-! ### No queue -/
end FqH

end Go.X
