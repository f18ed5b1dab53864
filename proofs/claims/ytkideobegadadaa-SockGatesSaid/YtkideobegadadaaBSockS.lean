/- Contracts and plain facts: SockS. -/
import Derived.Test.YtkideobegadadaaBArith
import Derived.Test.YtkideobegadadaaBDelays
import Derived.Test.YtkideobegadadaaBTarget
import Derived.Test.YtkideobegadadaaBBbrMm
import Derived.Test.YtkideobegadadaaBBbrQ
import Derived.Test.YtkideobegadadaaBSockA
import Derived.Test.YtkideobegadadaaBSockM
import Derived.Test.YtkideobegadadaaBSockD
import Derived.Test.YtkideobegadadaaBSockF
import Derived.Test.YtkideobegadadaaBSockH
import Derived.Test.YtkideobegadadaaBSockK
import Derived.Test.YtkideobegadadaaBSockO
import Derived.Test.YtkideobegadadaaBSockQ
import Derived.Test.YtkideobegadadaaXw
import Derived.Test.YtkideobegadadaaK
import Derived.Test.YtkideobegadadaaF0
set_option linter.unusedVariables false
set_option linter.unusedSimpArgs false
set_option linter.unusedSectionVars false
namespace Go.X
open Go.Proofs
namespace SockS
open Arith ArithC Delays Board BbrM BbrMm SockA SockB SockM SockC SockD SockE SockF SockG SockH SockJ SockK SockL SockO SockP SockQ
/-! ### Gates -/
abbrev gA0 : Sk := newS 4 1000 100000
abbrev gA1 : Sk := (writeS (emitS gA0 0).2 100000).2
abbrev gL : Int := gN (emitS gA1 0).1.1
abbrev gA2 : Sk := (doneS (emitS gA1 0).2 gL).2
abbrev gA3 : Sk := (emitS gA2 0).2
theorem gates_eq : (emitS gA0 0).1.2 = 7 ∧ (emitS gA1 0).1.2 = 0 ∧ (emitS gA2 0).1.2 = 5 ∧ (mayS gA3).1 = 5 ∧ skFl gA3 = gL ∧ gA3.md.win ≤ gL ∧ bW gA3.bf - bN gA3.bf = 100000 - gL ∧ 1 ≤ gL ∧ gL ≤ 65536 := by decide +kernel
theorem emit_shut {v : Sk} {now : Int} (h : (mayS v).1 = 5) : (emitS v now).1.2 = 5 ∧ SameB (emitS v now).2 v := by
  have e : (emitS v now).1.2 ≠ 0 := by
    unfold emitS; rw [if_pos (by rw [h]; decide)]; show (mayS v).1 ≠ 0; rw [h]; decide
  obtain ⟨_, h2, h3⟩ := emit_no e
  exact ⟨by rw [h3, h], h2⟩
theorem gates_tri (n : Int) : Tri Try.prog N_canterlaw25_SockGates [.lf (.int .i64 n)] [.lf .bool] emp (fun r => pur (r = true) emp) :=
  tri_0 (call_canterlaw25_SockGates n) fun w0 S R h => by
    unfold W_canterlaw25_SockGates
    have u0 : U 0 := U_lit 0
    have i0 : IvS 0 gA0 := new_inv 4 1000 100000 cap_plain
    have i1 : IvS 1 gA1 := (i0.emit u0).write (by decide) 100000
    obtain ⟨v1, hv1⟩ : ∃ v1, v1 = gA1 := ⟨_, rfl⟩
    obtain ⟨L, hL⟩ : ∃ L, L = gN (emitS v1 0).1.1 := ⟨_, rfl⟩
    obtain ⟨v2, hv2⟩ : ∃ v2, v2 = (doneS (emitS v1 0).2 L).2 := ⟨_, rfl⟩
    have hg : (emitS v1 0).1.2 = 0 ∧ (emitS v2 0).1.2 = 5 ∧ (mayS (emitS v2 0).2).1 = 5 ∧ skFl (emitS v2 0).2 = L ∧ (emitS v2 0).2.md.win ≤ L ∧ bW (emitS v2 0).2.bf - bN (emitS v2 0).2.bf = 100000 - L ∧ 1 ≤ L ∧ L ≤ 65536 := by
      rw [hv2, hL, hv1]; exact gates_eq.2
    have g0 := gates_eq.1
    rw [← hv1] at i1
    have ie := (i1.emit u0).ok.out
    have i2 : IvS 1 v2 := by rw [hv2]; exact (i1.emit u0).done L
    have i3 := i2.emit u0
    have iw := (i0.emit u0).ok.bf
    obtain ⟨g2, g3, g4, g5, g6, g7, g8, g9⟩ := hg
    have hum : U ((IntKind.u64.wrap n).tmod 1000) := by
      have := wu_range n
      have h2 := Int.tmod_nonneg 1000 this.1
      have h3 := Int.tmod_lt_of_pos (IntKind.u64.wrap n) (show (0:Int) < 1000 by decide)
      unfold U; omega
    refine w_call plain_tri (h.le (star_emp _)) fun r w h => ?_
    obtain ⟨hr, h⟩ := h.purP; rw [hr]
    refine w_call (snew_tri 4 plainC) h fun r w h => ?_
    obtain ⟨p, h⟩ := h.exP
    obtain ⟨hr, h⟩ := h.purP; rw [hr]
    have h : Own w0 S R w (sck p gA0 ^ emp) := h.fin
    refine w_call awake_tri h fun r w h => ?_
    obtain ⟨hr, h⟩ := h.purP; rw [hr]
    refine w_ite (fun c => (by cases c)) fun _ => ?_
    refine w_call (emit_tri p gA0 i0.ok (pcs_lost i0.pc) 0 u0) h fun r w h => ?_
    have h : Own w0 S R w (pur (r = (emitS gA0 0).1) (sck p (emitS gA0 0).2) ^ emp) := h.fin
    obtain ⟨hr, h⟩ := h.purP; rw [hr]
    refine w_new h fun n5 w h => w_setAll h (by rfl) fun w h => ?_
    refine w_call (write_tri p (emitS gA0 0).2 iw 100000 (by decide)) h fun r w h => ?_
    obtain ⟨_, h⟩ := h.purP
    have h : Own w0 S R w (sck p gA1 ^ emp) := h.fin
    rw [← hv1] at h
    rw [g0]
    refine w_join h (fun _ => sck p (emitS v2 0).2) (fun y : Int => y = L) (fun (y : Int) w hy h => ?_) ?_
    · rw [hy]
      refine w_call (emit_tri p _ i3.ok (pcs_lost i3.pc) _ hum) h fun r w h => ?_
      obtain ⟨hr, h⟩ := h.purP; rw [hr]
      obtain ⟨e1, e2⟩ := emit_shut (now := (IntKind.u64.wrap n).tmod 1000) g4
      have i4 := i3.emit hum
      refine w_new h fun m6 w h => w_setAll h (by rfl) fun w h => ?_
      rw [e1]
      refine w_ite (fun _ => ?_) fun c => (by cases c)
      obtain ⟨v4, hv4⟩ : ∃ v4, v4 = (emitS (emitS v2 0).2 ((IntKind.u64.wrap n).tmod 1000)).2 := ⟨_, rfl⟩
      rw [← hv4] at h i4 e2
      refine w_call (SockC.flight_tri p v4 i4.bl) h fun r w h => ?_
      obtain ⟨hr, h⟩ := h.purP; rw [hr]
      rw [show skFl v4 = L by unfold skFl at g5 ⊢; rw [e2.bd]; exact g5]
      refine w_ite (fun _ => ?_) fun c => (by simp at c)
      refine w_call (model_tri p v4) h fun r w h => ?_
      obtain ⟨hr, h⟩ := h.purP; rw [hr]
      refine w_ite (fun _ => ?_) fun c => ?_
      · refine w_call (unsent_tri p v4 i4.ok.bf) h fun r w h => ?_
        obtain ⟨hr, h⟩ := h.purP; rw [hr, e2.bf, g7, wu (n := 100000 - L) (by omega) (by omega)]
        exact Own.retP (by simp) h.emp'
      · have c : ¬ L ≥ v4.md.win := of_decide_eq_false c
        rw [e2.md] at c
        exact absurd g6 c
    · have h : Own w0 S R w (sck p v1 ^ emp) := h
      refine w_loopE (fun (_ : Int × Int) (v : Sk) => sck p v ^ emp) (fun (y : Int × Int) v => (y.2 = 0 ∧ y.1 = 0 ∧ v = v1) ∨ (y.2 = 1 ∧ y.1 = L ∧ v = v2)) (fun (y : Int × Int) _ => (2 - y.2).toNat) v1 h (.inl ⟨rfl, rfl, rfl⟩) ?_
      rintro K (y : Int × Int) v w hy h k
      obtain ⟨y1, y2⟩ := y
      dsimp only at hy ⊢
      rcases hy with ⟨h2, h1, hv⟩ | ⟨h2, h1, hv⟩
      · rw [h2, h1]; rw [hv] at h
        refine w_ite (fun _ => ?_) fun c => (by cases c)
        refine w_call (emit_tri p v1 i1.ok (pcs_lost i1.pc) 0 u0) h fun r w h => ?_
        obtain ⟨hr, h⟩ := h.purP; rw [hr]
        refine w_new h fun n w h => w_setAll h (by rfl) fun w h => ?_
        rw [g2]
        refine w_ite (fun c => (by cases c)) fun _ => ?_
        refine w_ld (x := gN (emitS v1 0).1.1) h rfl (w_ld (x := gN (emitS v1 0).1.1) h rfl ?_)
        rw [← hL]
        refine w_call (SockC.done_tri p (emitS v1 0).2 ie L (by omega)) h fun r w h => ?_
        obtain ⟨_, h⟩ := h.purP
        rw [← hv2] at h
        have ew : IntKind.u64.wrap (0 + IntKind.u64.wrap L) = L := by rw [wu (n := L) (by omega) (by omega)]; rw [Int.zero_add]; exact wu (by omega) (by omega)
        rw [ew]
        exact k (L, 1) v2 w (.inr ⟨rfl, rfl, rfl⟩) h.fin (by show (2 - (1:Int)).toNat < (2 - y2).toNat; rw [h2]; decide)
      · rw [h2, h1]; rw [hv] at h
        refine w_ite (fun _ => ?_) fun c => (by cases c)
        refine w_call (emit_tri p v2 i2.ok (pcs_lost i2.pc) 0 u0) h fun r w h => ?_
        obtain ⟨hr, h⟩ := h.purP; rw [hr]
        refine w_new h fun n w h => w_setAll h (by rfl) fun w h => ?_
        rw [g3]
        refine w_ite (fun _ => ?_) fun c => (by cases c)
        exact ⟨rfl, h.fin⟩
end SockS


end Go.X
