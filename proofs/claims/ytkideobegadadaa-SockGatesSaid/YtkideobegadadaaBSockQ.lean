/- Contracts and plain facts: SockP SockQ. -/
import Derived.Test.YtkideobegadadaaBArith
import Derived.Test.YtkideobegadadaaBDelays
import Derived.Test.YtkideobegadadaaBTarget
import Derived.Test.YtkideobegadadaaBBbrMm
import Derived.Test.YtkideobegadadaaBBbrQ
import Derived.Test.YtkideobegadadaaBSockA
import Derived.Test.YtkideobegadadaaBSockM
import Derived.Test.YtkideobegadadaaBSockD
import Derived.Test.YtkideobegadadaaBSockF
import Derived.Test.YtkideobegadadaaBSockH
import Derived.Test.YtkideobegadadaaBSockK
import Derived.Test.YtkideobegadadaaBSockO
import Derived.Test.YtkideobegadadaaXw
import Derived.Test.YtkideobegadadaaK
import Derived.Test.YtkideobegadadaaF0
set_option linter.unusedVariables false
set_option linter.unusedSimpArgs false
set_option linter.unusedSectionVars false
namespace Go.X
open Go.Proofs
namespace SockP
open Arith ArithC Delays Board BbrM BbrMm SockA SockB SockM SockC SockD SockE SockF SockG SockH SockJ SockK SockL SockO
/-! ### Awake, and a nil socket -/
abbrev plainC : Ks.T KCf := (3000, 15000, 100, 50, 10000000000, 0, false, 100000, 1000)
theorem plain_tri : Tri Try.prog N_canterref20_Plain [] [.agg KCf] emp (fun r => pur (r = plainC) emp) :=
  tri_0 call_canterref20_Plain fun w0 S R h => by
    unfold W_canterref20_Plain
    refine w_new h fun n1 w h => w_setAll h (by rfl) fun w h => w_ldAll (b := n1) (x := plainC) h rfl ?_
    exact Own.retP rfl h.emp'
abbrev aw0 : Sk := newS 1 1000 100000
abbrev aw1 : Sk := (writeS aw0 100).2
theorem awake_eq : (writeS aw0 100).1 = 0 ∧ (emitS aw1 5).1 = ((1, 0, 100, 5, false), 0) ∧ (emitS aw1 5).2.out = 100 ∧ skFl (emitS aw1 5).2 = 100 := by decide +kernel
theorem cap_plain : (0:Int) ≤ 100000 ∧ (100000:Int) ≤ 1073741824 := by decide
theorem aw0_inv : IvS 0 aw0 := new_inv 1 1000 100000 cap_plain
theorem aw1_inv : IvS 1 aw1 := aw0_inv.write (by decide) 100
theorem awake_tri : Tri Try.prog N_canterlaw25_awake [] [.lf .bool] emp (fun r => pur (r = true) emp) :=
  tri_0 call_canterlaw25_awake fun w0 S R h => by
    unfold W_canterlaw25_awake
    obtain ⟨h1, h2, h3, h4⟩ := awake_eq
    refine w_call plain_tri (h.le (star_emp _)) fun r w h => ?_
    obtain ⟨hr, h⟩ := h.purP; rw [hr]
    refine w_call (snew_tri 1 plainC) h fun r w h => ?_
    obtain ⟨p, h⟩ := h.exP
    obtain ⟨hr, h⟩ := h.purP; rw [hr]
    have h : Own w0 S R w (sck p aw0 ^ emp) := h.fin
    refine w_join h (fun _ => sck p aw1) (fun _ => True) (fun _ w _ h => ?_) ?_
    · refine w_call (emit_tri p aw1 aw1_inv.ok (pcs_lost aw1_inv.pc) 5 (U_lit 5)) h fun r w h => ?_
      obtain ⟨hr, h⟩ := h.purP; rw [hr, h2]
      refine w_new h fun n w h => w_setAll h (by rfl) fun w h => w_ite (fun _ => ?_) fun c => (by cases c)
      refine w_ldAll (b := n) (x := ((1, 0, 100, 5, false) : Sg)) h rfl (w_ite (fun _ => ?_) fun c => (by cases c))
      refine w_call (out_tri p (emitS aw1 5).2) h fun r w h => ?_
      obtain ⟨hr, h⟩ := h.purP; rw [hr, h3]
      refine w_ite (fun _ => ?_) fun c => (by cases c)
      refine w_call (SockC.flight_tri p (emitS aw1 5).2 (aw1_inv.emit (U_lit 5)).bl) h fun r w h => ?_
      obtain ⟨hr, h⟩ := h.purP; rw [hr, h4]
      exact Own.retP rfl h.emp'
    · refine w_ite (fun c => (by simp at c)) fun _ => ?_
      refine w_call (write_tri p aw0 aw0_inv.ok.bf 100 (by decide)) h fun r w h => ?_
      obtain ⟨hr, h⟩ := h.purP; rw [hr, h1]
      refine w_ite (fun c => (by cases c)) fun _ => ?_
      exact ⟨trivial, h.fin⟩
end SockP

namespace SockQ
open Arith ArithC Delays Board BbrM BbrMm SockA SockB SockM SockC SockD SockE SockF SockG SockH SockJ SockL SockO
/-! ### What is under way, and what an emission does -/
theorem fI_some {α : Type} {f : α → Bool} {xs : List α} (h : ¬ fI f xs < 0) : ∃ x, xs[(fI f xs).toNat]? = some x ∧ f x = true := by
  unfold fI at h ⊢
  split at h
  · rename_i i hi
    obtain ⟨hl, hp, _⟩ := List.findIdx?_eq_some_iff_getElem.1 hi
    exact ⟨xs[i], by simp [List.getElem?_eq_getElem hl], hp⟩
  · exact absurd (by decide : (-1 : Int) < 0) h
structure SameB (v' v : Sk) : Prop where
  id : v'.id = v.id
  mss : v'.mss = v.mss
  cap : v'.cap = v.cap
  bf : v'.bf = v.bf
  bd : v'.bd = v.bd
  md : v'.md = v.md
  out : v'.out = v.out
  nx : v'.nx = v.nx
theorem may_same (v : Sk) : SameB (mayS v).2 v := by
  unfold mayS
  split
  · dsimp only; split <;> exact ⟨rfl, rfl, rfl, rfl, rfl, rfl, rfl, rfl⟩
  · split
    · exact ⟨rfl, rfl, rfl, rfl, rfl, rfl, rfl, rfl⟩
    · split <;> exact ⟨rfl, rfl, rfl, rfl, rfl, rfl, rfl, rfl⟩
theorem emit_no {v : Sk} {now : Int} (h : (emitS v now).1.2 ≠ 0) : (emitS v now).1.1 = noS ∧ SameB (emitS v now).2 v ∧ (emitS v now).1.2 = (mayS v).1 := by
  by_cases hm : (mayS v).1 = 0
  · exfalso; apply h; unfold emitS; rw [if_neg (fun c => c hm)]
  · unfold emitS; rw [if_pos hm]; exact ⟨rfl, may_same v, rfl⟩
/-- The segments' lengths and places. -/
abbrev gN (g : Sg) : Int := g.2.2.1
end SockQ


end Go.X
