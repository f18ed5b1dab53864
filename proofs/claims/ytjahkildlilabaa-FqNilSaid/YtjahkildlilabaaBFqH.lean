/- Contracts and plain facts: FqH. -/
import Derived.Test.YtjahkildlilabaaBPlain
import Derived.Test.YtjahkildlilabaaBArith
import Derived.Test.YtjahkildlilabaaBArithC
import Derived.Test.YtjahkildlilabaaBLists
import Derived.Test.YtjahkildlilabaaBTreeM
import Derived.Test.YtjahkildlilabaaBTreeN
import Derived.Test.YtjahkildlilabaaBTreeA
import Derived.Test.YtjahkildlilabaaBTreeB
import Derived.Test.YtjahkildlilabaaBTreeC
import Derived.Test.YtjahkildlilabaaBTreeD
import Derived.Test.YtjahkildlilabaaBTreeE
import Derived.Test.YtjahkildlilabaaBTreeF
import Derived.Test.YtjahkildlilabaaBFqM
import Derived.Test.YtjahkildlilabaaBFqC
import Derived.Test.YtjahkildlilabaaBFqD
import Derived.Test.YtjahkildlilabaaBFqE
import Derived.Test.YtjahkildlilabaaBFqG
import Derived.Test.YtjahkildlilabaaXw
import Derived.Test.YtjahkildlilabaaK
import Derived.Test.YtjahkildlilabaaF0
import Derived.Test.YtjahkildlilabaaF1
set_option linter.unusedVariables false
set_option linter.unusedSimpArgs false
set_option linter.unusedSectionVars false
namespace Go.X
open Go.Proofs
namespace FqH
open Arith ArithC Lists _root_.Go.X.Tree TreeC TreeD TreeE TreeF FqM FqC FqD FqE FqG
abbrev plainC : Cf := (3000, 15000, 100, 50, 10000000000, 0, false, 100000, 1000)
theorem plain_tri : Tri Try.prog N_canterref20_Plain [] [.agg KC] emp (fun r => pur (r = plainC) emp) :=
  tri_0 call_canterref20_Plain fun w0 S R h => by
    unfold W_canterref20_Plain
    refine w_new h fun n1 w h => w_setAll h (by rfl) fun w h => w_ldAll (b := n1) (x := plainC) h rfl ?_
    exact Own.retP rfl h.emp'
theorem u0 : U 0 := U_lit 0
theorem u5 : U 5 := U_lit 5
theorem plain_may : may plainC = true := by decide
theorem plain_ok : OkC plainC := may_ok plain_may (by decide) u0
theorem awake_plain : (enqF (newF plainC) (1, 0, 100, 0, false) 5).1 = (0, 0) ∧ ((deqF (enqF (newF plainC) (1, 0, 100, 0, false) 5).2 5 []).1 = some (1, 0, 100, 0, false)) ∧ (deqF (enqF (newF plainC) (1, 0, 100, 0, false) 5).2 5 []).2.n = 0 := by decide +kernel
theorem awake_tri : Tri Try.prog N_canterlaw20_awake [] [.lf .bool] emp (fun r => pur (r = true) emp) :=
  tri_0 call_canterlaw20_awake fun w0 S R h => by
    unfold W_canterlaw20_awake
    obtain ⟨h1, h2, h3⟩ := awake_plain
    refine w_call plain_tri (h.le (star_emp _)) fun r w h => ?_
    obtain ⟨hr, h⟩ := h.purP; rw [hr]
    refine w_call (new_tri plainC) h fun r w h => ?_
    obtain ⟨b, h⟩ := h.exP
    obtain ⟨hr, h⟩ := h.purP
    rw [if_pos plain_may] at hr h
    rw [hr]
    have hok := OkQ.new plain_ok
    refine w_ite (fun c => (by simp at c)) fun _ => ?_
    refine w_call (enq_tri b (newF plainC) hok (1, 0, 100, 0, false) 5 ⟨u0, u0⟩ u5) h fun r w h => ?_
    obtain ⟨hr, h⟩ := h.purP; rw [hr, h1]
    have hok2 := hok.enq (s := (1, 0, 100, 0, false)) (now := 5) ⟨u0, u0⟩ u5
    have h := h.nil KU
    refine w_callL (deq_tri b _ hok2 5 u5 ⟨none, 0, 0⟩ [] (fun x hx => by cases hx)) h fun r w h => ?_
    obtain ⟨hr, h⟩ := h.purP; rw [hr, h2]
    refine w_new h fun n w h => w_setAll h (by rfl) fun w h => w_ite (fun _ => ?_) fun c => (by simp [outS] at c)
    refine w_ld h rfl (w_ite (fun _ => ?_) fun c => (by cases c))
    refine w_call (len_tri b (deqF (enqF (newF plainC) (1, 0, 100, 0, false) 5).2 5 []).2) h fun r w h => ?_
    obtain ⟨hr, h⟩ := h.purP; rw [hr, h3]
    exact Own.retP rfl h.emp'
/-! ### No queue -/
theorem enqnil_tri (s : Sg) (now : Int) : Tri Try.prog N_fq_Queue_Enqueue [.lf (.ptr none), .agg (Ks.mk KS s), .lf (.int .u64 now)] [.lf (.int .i64), .lf (.int .i64)] emp (fun r => pur (r = (0, 2)) emp) :=
  tri_0 (call_fq_Queue_Enqueue none s now) fun w0 S R h => by
    unfold W_fq_Queue_Enqueue
    refine w_new h fun n w h => w_ite (fun _ => ?_) fun c => (by simp at c)
    exact Own.retP rfl h.emp'
theorem deqnil_tri (now : Int) (s : Sl) : Tri Try.prog N_fq_Queue_Dequeue [.lf (.ptr none), .lf (.int .u64 now), .lf (.sl s)] [.agg KS, .lf .bool] emp (fun r => pur (r = (noS, false)) emp) :=
  tri_0 (call_fq_Queue_Dequeue none now s) fun w0 S R h => by
    unfold W_fq_Queue_Dequeue
    refine w_new h fun n w h => w_ite (fun _ => ?_) fun c => (by simp at c)
    refine w_setAll h (by rfl) fun w h => w_ldAll (b := n) (x := noS) h rfl ?_
    exact Own.retP rfl h.emp'
theorem dognil_tri : Tri Try.prog N_fq_Queue_Watchdog [.lf (.ptr none)] [.lf (.int .u64), .lf .bool] emp (fun r => pur (r = (0, false)) emp) :=
  tri_0 (call_fq_Queue_Watchdog none) fun w0 S R h => by
    unfold W_fq_Queue_Watchdog
    refine w_ite (fun _ => ?_) fun c => (by simp at c)
    exact Own.retP rfl h.emp'
theorem lennil_tri : Tri Try.prog N_fq_Queue_Len [.lf (.ptr none)] [.lf (.int .i64)] emp (fun r => pur (r = 0) emp) :=
  tri_0 (call_fq_Queue_Len none) fun w0 S R h => by
    unfold W_fq_Queue_Len
    refine w_ite (fun _ => ?_) fun c => (by simp at c)
    exact Own.retP rfl h.emp'
theorem setnil_tri (c : Cf) : Tri Try.prog N_fq_Queue_Set [.lf (.ptr none), .agg (Ks.mk KC c)] [.lf (.int .i64)] emp (fun r => pur (r = 2) emp) :=
  tri_0 (call_fq_Queue_Set none c) fun w0 S R h => by
    unfold W_fq_Queue_Set
    refine w_new h fun n w h => w_ite (fun _ => ?_) fun c => (by simp at c)
    exact Own.retP rfl h.emp'
theorem hasnil_tri (i : Int) : Tri Try.prog N_fq_Queue_has [.lf (.ptr none), .lf (.int .i64 i)] [.lf .bool] emp (fun r => pur (r = false) emp) :=
  tri_0 (call_fq_Queue_has none i) fun w0 S R h => by
    unfold W_fq_Queue_has
    refine w_ite (fun c => (by simp at c)) fun _ => ?_
    exact Own.retP rfl h.emp'
theorem closenil_tri (i : Int) : Tri Try.prog N_fq_Queue_Close [.lf (.ptr none), .lf (.int .i64 i)] [.lf .sl] emp (fun r => pur (r = ⟨none, 0, 0⟩) emp) :=
  tri_0 (call_fq_Queue_Close none i) fun w0 S R h => by
    unfold W_fq_Queue_Close
    refine w_call (hasnil_tri i) h fun r w h => ?_
    obtain ⟨hr, h⟩ := h.purP; rw [hr]
    refine w_ite (fun _ => ?_) fun c => (by simp at c)
    exact Own.retP rfl h.emp'
theorem flownil_tri (i : Int) : Tri Try.prog N_fq_Queue_Flow [.lf (.ptr none), .lf (.int .i64 i)] [.agg KF, .lf .bool] emp (fun r => pur (r = (noF, false)) emp) :=
  tri_0 (call_fq_Queue_Flow none i) fun w0 S R h => by
    unfold W_fq_Queue_Flow
    refine w_new h fun n w h => w_call (hasnil_tri i) h fun r w h => ?_
    obtain ⟨hr, h⟩ := h.purP; rw [hr]
    refine w_ite (fun _ => ?_) fun c => (by simp at c)
    refine w_setAll h (by rfl) fun w h => w_ldAll (b := n) (x := noF) h rfl ?_
    exact Own.retP rfl h.emp'
abbrev zeroC : Cf := (0, 0, 0, 0, 0, 0, false, 0, 0)
theorem zero_may : may zeroC = false := by decide
theorem nil_tri (s : Sg) (now : Int) : Tri Try.prog N_canterlaw20_FqNil [.agg (Ks.mk KS s), .lf (.int .u64 now)] [.lf .bool] emp (fun r => pur (r = true) emp) :=
  tri_0 (call_canterlaw20_FqNil s now) fun w0 S R h => by
    unfold W_canterlaw20_FqNil
    refine w_new h fun n1 w h => w_ldAll (b := n1) (x := s) h rfl ?_
    refine w_call (enqnil_tri s now) h fun r w h => ?_
    obtain ⟨hr, h⟩ := h.purP; rw [hr]
    refine w_call (deqnil_tri now ⟨none, 0, 0⟩) h fun r w h => ?_
    obtain ⟨hr, h⟩ := h.purP; rw [hr]
    refine w_new h fun n5 w h => w_setAll h (by rfl) fun w h => w_call dognil_tri h fun r w h => ?_
    obtain ⟨hr, h⟩ := h.purP; rw [hr]
    refine w_call (flownil_tri 0) h fun r w h => ?_
    obtain ⟨hr, h⟩ := h.purP; rw [hr]
    refine w_new h fun n8 w h => w_setAll h (by rfl) fun w h => w_call (new_tri zeroC) h fun r w h => ?_
    obtain ⟨b, h⟩ := h.exP
    obtain ⟨hr, h⟩ := h.purP
    rw [if_neg (by rw [zero_may]; simp)] at hr h
    rw [hr]
    refine w_call awake_tri h fun r w h => ?_
    obtain ⟨hr, h⟩ := h.purP; rw [hr]
    refine w_ite (fun _ => ?_) fun c => (by simp at c)
    refine w_call plain_tri h fun r w h => ?_
    obtain ⟨hr, h⟩ := h.purP; rw [hr]
    refine w_call (setnil_tri plainC) h fun r w h => ?_
    obtain ⟨hr, h⟩ := h.purP; rw [hr]
    refine w_ite (fun _ => ?_) fun c => (by simp at c)
    refine w_call (closenil_tri 0) h fun r w h => ?_
    obtain ⟨hr, h⟩ := h.purP; rw [hr]
    refine w_ite (fun _ => ?_) fun c => (by simp at c)
    refine w_call lennil_tri h fun r w h => ?_
    obtain ⟨hr, h⟩ := h.purP; rw [hr]
    refine w_ite (fun _ => ?_) fun c => (by simp at c)
    refine w_call (may_tri zeroC) h fun r w h => ?_
    obtain ⟨hr, h⟩ := h.purP; rw [hr]
    refine w_ite (fun _ => ?_) fun c => (by simp [zero_may] at c)
    refine w_call plain_tri h fun r w h => ?_
    obtain ⟨hr, h⟩ := h.purP; rw [hr]
    refine w_call (may_tri plainC) h fun r w h => ?_
    obtain ⟨hr, h⟩ := h.purP; rw [hr]
    exact Own.retP plain_may h.emp'
end FqH

end Go.X
