/- Contracts and plain facts: FqO. -/
import Derived.Test.YtjahkildlilabaaBPlain
import Derived.Test.YtjahkildlilabaaBArith
import Derived.Test.YtjahkildlilabaaBArithC
import Derived.Test.YtjahkildlilabaaBLists
import Derived.Test.YtjahkildlilabaaBTreeM
import Derived.Test.YtjahkildlilabaaBTreeN
import Derived.Test.YtjahkildlilabaaBTreeA
import Derived.Test.YtjahkildlilabaaBTreeB
import Derived.Test.YtjahkildlilabaaBTreeC
import Derived.Test.YtjahkildlilabaaBTreeD
import Derived.Test.YtjahkildlilabaaBTreeE
import Derived.Test.YtjahkildlilabaaBTreeF
import Derived.Test.YtjahkildlilabaaBFqM
import Derived.Test.YtjahkildlilabaaBFqC
import Derived.Test.YtjahkildlilabaaBFqD
import Derived.Test.YtjahkildlilabaaBFqE
import Derived.Test.YtjahkildlilabaaBFqG
import Derived.Test.YtjahkildlilabaaBFqH
import Derived.Test.YtjahkildlilabaaBFqJ
import Derived.Test.YtjahkildlilabaaBFqK
import Derived.Test.YtjahkildlilabaaBFqN
import Derived.Test.YtjahkildlilabaaXw
import Derived.Test.YtjahkildlilabaaK
import Derived.Test.YtjahkildlilabaaF0
import Derived.Test.YtjahkildlilabaaF1
set_option linter.unusedVariables false
set_option linter.unusedSimpArgs false
set_option linter.unusedSectionVars false
namespace Go.X
open Go.Proofs
namespace FqO
open Arith ArithC Lists _root_.Go.X.Tree TreeC TreeD TreeE TreeF FqM FqC FqD FqE FqG FqH FqJ FqK FqN
/-! ### Waits -/
abbrev sgA (a : Int) : Sg := (3, 0, 7, a, false)
abbrev l3 : LV := ([((3 : Nat) : Int)], [])
abbrev fa (a : Int) : Fl := ⟨15000, 0, 0, [sgA a]⟩
def wv1 (a : Int) : Qm := one plainC 3 (fa a) l3 []
def wv2 (a : Int) : Qm := one plainC 3 (fa a) ([], []) [(a, ((3 : Nat) : Int))]
theorem wv1_eq {a : Int} (h : 1 ≤ a ∧ a ≤ 10000000000) : enqF (newF plainC) (sgA a) 0 = ((0, 0), wv1 a) := by
  rw [enq_new plain_ok (s := sgA a) (now := 0) (show (0:Int) ≤ 3 ∧ (3:Int) ≤ 7 by decide) (show (1:Int) ≤ 7 ∧ (7:Int) ≤ 65536 by decide) (by decide) (fun x => by cases x.2)]
  have ed : drawn (newF plainC) (sgA a) 0 = sgA a := by
    show ((3 : Int), (0 : Int), (7 : Int), (if addI 0 10000000000 < a then addI 0 10000000000 else a), false) = _
    rw [if_neg (by have : addI 0 10000000000 = 10000000000 := by decide
                   omega)]
  rw [ed]
  rfl
theorem ua {a : Int} (h : 1 ≤ a ∧ a ≤ 10000000000) : U a := by unfold U; omega
theorem wv1_ok {a : Int} (h : 1 ≤ a ∧ a ≤ 10000000000) : OkQ (wv1 a) := by
  have := ok0.enq (s := sgA a) (now := 0) ⟨u0, ua h⟩ u0
  rwa [wv1_eq h] at this
theorem time_a {a : Int} (h : 1 ≤ a) : timeF (fa a) = a := by
  show (if a > 0 then a else 0) = a
  rw [if_pos (by omega)]
theorem wv2_eq {a t : Int} (h : 1 ≤ a ∧ a ≤ 10000000000) (ht : 0 ≤ t ∧ t < a) : deqF (wv1 a) t [] = (none, wv2 a) := by
  rw [deq_eq]
  have hv := wv1_ok h
  unfold wv1 at hv ⊢
  rw [due_nil, one_wait hv (.inl rfl) (by unfold U; omega) nor (by show (15000 : Int) > 0; decide) (by show [sgA a] ≠ []; simp) (by rw [time_a h.1]; omega), time_a h.1]
  rfl
theorem wv2_ok {a t : Int} (h : 1 ≤ a ∧ a ≤ 10000000000) (ht : 0 ≤ t ∧ t < a) : OkQ (wv2 a) := by
  have := deq_ok (wv1_ok h) (now := t) (by unfold U; omega) nor
  rwa [wv2_eq h ht] at this
theorem wv3_eq {a : Int} (h : 1 ≤ a ∧ a ≤ 10000000000) : ∃ g : Fl, deqF (wv2 a) a [] = (some (sgA a), one plainC 3 g ([], [((3 : Nat) : Int)]) []) := by
  have hok := wv2_ok h (t := 0) (by omega)
  have hd := hok.due a
  rw [deq_eq]
  unfold wv2 at hd ⊢
  rw [due_one (Int.le_refl a)] at hd ⊢
  exact ⟨_, one_send hd (.inr rfl) (by show (15000 : Int) > 0; decide) (s := sgA a) (l := []) rfl (by rw [time_a h.1]; omega)⟩
theorem waits_tri (d o : Int) (hd0 : 0 ≤ d) (ho : 0 ≤ o) : Tri Try.prog N_canterlaw20_FqWaits [.lf (.int .u64 d), .lf (.int .u64 o)] [.lf .bool] emp (fun r => pur (r = true) emp) :=
  tri_0 (call_canterlaw20_FqWaits d o) fun w0 S R h => by
    unfold W_canterlaw20_FqWaits
    refine w_call plain_tri (h.le (star_emp _)) fun r w h => ?_
    obtain ⟨hr, h⟩ := h.purP; rw [hr]
    refine w_new h fun n2 w h => w_setAll h (by rfl) fun w h => w_ld h rfl ?_
    have hd : 0 ≤ d.tmod 10000000000 ∧ d.tmod 10000000000 < 10000000000 := ⟨Int.tmod_nonneg _ hd0, Int.tmod_lt_of_pos _ (by decide)⟩
    have ea : IntKind.u64.wrap (1 + d.tmod plainC.2.2.2.2.1) = 1 + d.tmod 10000000000 := wu (by show 0 ≤ 1 + d.tmod 10000000000; omega) (by show 1 + d.tmod 10000000000 < _; omega)
    rw [ea]
    obtain ⟨a, hae⟩ : ∃ a, a = 1 + d.tmod 10000000000 := ⟨_, rfl⟩
    rw [← hae]
    have ha : 1 ≤ a ∧ a ≤ 10000000000 := by omega
    have ht : 0 ≤ o.tmod a ∧ o.tmod a < a := ⟨Int.tmod_nonneg _ ho, Int.tmod_lt_of_pos _ (by omega)⟩
    obtain ⟨t, hte⟩ : ∃ t, t = o.tmod a := ⟨_, rfl⟩
    rw [← hte] at ht ⊢
    clear hae hte ea hd
    have uT : U t := by unfold U; omega
    refine ⟨by show (10000000000 : Int) ≠ 0; decide, by omega, ?_⟩
    refine w_ldAll (b := n2) (x := plainC) h rfl (w_call (new_tri plainC) h fun r w h => ?_)
    obtain ⟨b, h⟩ := h.exP
    obtain ⟨hr, h⟩ := h.purP
    rw [if_pos plain_may] at hr h
    rw [hr]
    refine w_call awake_tri h fun r w h => ?_
    obtain ⟨hr, h⟩ := h.purP; rw [hr]
    refine w_ite (fun c => (by simp at c)) fun _ => ?_
    refine w_call (enq_tri b (newF plainC) ok0 (sgA a) 0 ⟨u0, ua ha⟩ u0) h fun r w h => ?_
    obtain ⟨_, h⟩ := h.purP
    rw [wv1_eq ha] at h
    have h := h.nil KU
    refine w_callL (deq_tri b (wv1 a) (wv1_ok ha) t uT ⟨none, 0, 0⟩ [] nor) h fun r w h => ?_
    obtain ⟨hr, h⟩ := h.purP; rw [hr]
    rw [wv2_eq ha ht] at h ⊢
    refine w_new h fun n9 w h => w_setAll h (by rfl) fun w h => w_call (min_tri b (wv2 a)) h fun r w h => ?_
    obtain ⟨hr, h⟩ := h.purP; rw [hr]
    refine w_call (flow_tri b (wv2 a) (wv2_ok ha ht) 3) h fun r w h => ?_
    obtain ⟨s1, h⟩ := h.exP
    obtain ⟨hr, h⟩ := h.purP; rw [hr]
    have q1 : seenF (wv2 a) 3 s1 = _ := (seen_one plainC 3 (fa a) ([], []) [(a, ((3 : Nat) : Int))] s1 (by decide)).1
    rw [q1]
    refine w_new h fun n12 w h => w_setAll h (by rfl) fun w h => ?_
    refine w_callL (deq_tri b (wv2 a) (wv2_ok ha ht) a (ua ha) ⟨none, 0, 0⟩ [] nor) h fun r w h => ?_
    obtain ⟨hr, h⟩ := h.purP; rw [hr]
    obtain ⟨g, hg⟩ := wv3_eq ha
    rw [hg] at h ⊢
    refine w_new h fun n14 w h => w_setAll h (by rfl) fun w h => w_call (min_tri b (one plainC 3 g ([], [((3 : Nat) : Int)]) [])) h fun r w h => ?_
    obtain ⟨hr, h⟩ := h.purP; rw [hr]
    have hm : minF (wv2 a).ks = ((a, ((3 : Nat) : Int)), true) := rfl
    rw [hm]
    refine w_ite (fun _ => ?_) fun c => (by simp [outS] at c)
    refine w_ld h rfl (w_ite (fun _ => ?_) fun c => ?_)
    · refine w_ld h rfl ?_
      refine Own.retP ?_ h.emp'
      show ((a == a) && !(minF (one plainC 3 g ([], [((3 : Nat) : Int)]) []).ks).2) = true
      have : minF (one plainC 3 g ([], [((3 : Nat) : Int)]) []).ks = minF [] := rfl
      rw [this]
      simp [minF]
    · exfalso
      have e : plc (one plainC 3 (fa a) ([], []) [(a, ((3 : Nat) : Int))]) 3 = 3 := by
        rw [plc_one]
        have : placeF ([], []) ((3 : Nat) : Int) = 0 := by decide
        rw [this]
        show (if (0 : Int) ≠ 0 then (0 : Int) else if [sgA a] = [] then 0 else 3) = 3
        rw [if_neg (by simp), if_neg (by simp)]
      rw [e] at c
      simp [outS] at c
/-! ### Rates -/
abbrev rc (q : Int) : Cf := (3000, 15000, 100, 50, 10000000000, q, false, 100000, 1000)
end FqO

end Go.X
