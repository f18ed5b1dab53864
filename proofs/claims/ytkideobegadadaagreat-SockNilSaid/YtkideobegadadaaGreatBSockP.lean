/- Contracts and plain facts: SockP. -/
import Derived.Test.YtkideobegadadaaGreatBArith
import Derived.Test.YtkideobegadadaaGreatBDelays
import Derived.Test.YtkideobegadadaaGreatBTarget
import Derived.Test.YtkideobegadadaaGreatBBbrMm
import Derived.Test.YtkideobegadadaaGreatBBbrQ
import Derived.Test.YtkideobegadadaaGreatBSockA
import Derived.Test.YtkideobegadadaaGreatBSockM
import Derived.Test.YtkideobegadadaaGreatBSockD
import Derived.Test.YtkideobegadadaaGreatBSockF
import Derived.Test.YtkideobegadadaaGreatBSockH
import Derived.Test.YtkideobegadadaaGreatBSockK
import Derived.Test.YtkideobegadadaaGreatBSockO
import Derived.Test.YtkideobegadadaaGreatXw
import Derived.Test.YtkideobegadadaaGreatK
import Derived.Test.YtkideobegadadaaGreatF0
set_option linter.unusedVariables false
set_option linter.unusedSimpArgs false
set_option linter.unusedSectionVars false
namespace Go.X
open Go.Proofs
namespace SockP
open Arith ArithC Delays Board BbrM BbrMm SockA SockB SockM SockC SockD SockE SockF SockG SockH SockJ SockK SockL SockO
/-! ### Awake, and a nil socket -/
abbrev plainC : Ks.T KCf := (3000, 15000, 100, 50, 10000000000, 0, false, 100000, 1000)
theorem plain_tri : Tri Tryz.prog N_canterref20_Plain [] [.agg KCf] emp (fun r => pur (r = plainC) emp) :=
  tri_0 call_canterref20_Plain fun w0 S R h => by
    unfold W_canterref20_Plain
    refine w_new h fun n1 w h => w_setAll h (by rfl) fun w h => w_ldAll (b := n1) (x := plainC) h rfl ?_
    exact Own.retP rfl h.emp'
abbrev aw0 : Sk := newS 1 1000 100000
abbrev aw1 : Sk := (writeS aw0 100).2
theorem awake_eq : (writeS aw0 100).1 = 0 ∧ (emitS aw1 5).1 = ((1, 0, 100, 5, false), 0) ∧ (emitS aw1 5).2.out = 100 ∧ skFl (emitS aw1 5).2 = 100 := by decide +kernel
theorem cap_plain : (0:Int) ≤ 100000 ∧ (100000:Int) ≤ 1073741824 := by decide
theorem aw0_inv : IvS 0 aw0 := new_inv 1 1000 100000 cap_plain
theorem aw1_inv : IvS 1 aw1 := aw0_inv.write (by decide) 100
theorem awake_tri : Tri Tryz.prog N_canterlaw25_awake [] [.lf .bool] emp (fun r => pur (r = true) emp) :=
  tri_0 call_canterlaw25_awake fun w0 S R h => by
    unfold W_canterlaw25_awake
    obtain ⟨h1, h2, h3, h4⟩ := awake_eq
    refine w_call plain_tri (h.le (star_emp _)) fun r w h => ?_
    obtain ⟨hr, h⟩ := h.purP; rw [hr]
    refine w_call (snew_tri 1 plainC) h fun r w h => ?_
    obtain ⟨p, h⟩ := h.exP
    obtain ⟨hr, h⟩ := h.purP; rw [hr]
    have h : Own w0 S R w (sck p aw0 ^ emp) := h.fin
    refine w_join h (fun _ => sck p aw1) (fun _ => True) (fun _ w _ h => ?_) ?_
    · refine w_call (emit_tri p aw1 aw1_inv.ok (pcs_lost aw1_inv.pc) 5 (U_lit 5)) h fun r w h => ?_
      obtain ⟨hr, h⟩ := h.purP; rw [hr, h2]
      refine w_new h fun n w h => w_setAll h (by rfl) fun w h => w_ite (fun _ => ?_) fun c => (by cases c)
      refine w_ldAll (b := n) (x := ((1, 0, 100, 5, false) : Sg)) h rfl (w_ite (fun _ => ?_) fun c => (by cases c))
      refine w_call (out_tri p (emitS aw1 5).2) h fun r w h => ?_
      obtain ⟨hr, h⟩ := h.purP; rw [hr, h3]
      refine w_ite (fun _ => ?_) fun c => (by cases c)
      refine w_call (SockC.flight_tri p (emitS aw1 5).2 (aw1_inv.emit (U_lit 5)).bl) h fun r w h => ?_
      obtain ⟨hr, h⟩ := h.purP; rw [hr, h4]
      exact Own.retP rfl h.emp'
    · refine w_ite (fun c => (by simp at c)) fun _ => ?_
      refine w_call (write_tri p aw0 aw0_inv.ok.bf 100 (by decide)) h fun r w h => ?_
      obtain ⟨hr, h⟩ := h.purP; rw [hr, h1]
      refine w_ite (fun c => (by cases c)) fun _ => ?_
      exact ⟨trivial, h.fin⟩
theorem emitnil_tri (now : Int) : Tri Tryz.prog N_sock_Sock_Emit [.lf (.ptr none), .lf (.int .u64 now)] [.agg KS, .lf (.int .i64)] emp (fun r => pur (r = (noS, 2)) emp) :=
  tri_0 (call_sock_Sock_Emit none now) fun w0 S R h => by
    unfold W_sock_Sock_Emit
    refine w_new h fun n w h => w_ite (fun _ => ?_) fun c => (by simp at c)
    refine w_setAll h (by rfl) fun w h => w_ldAll (b := n) (x := noS) h rfl ?_
    exact Own.retP rfl h.emp'
theorem writenil_tri (n : Int) : Tri Tryz.prog N_sock_Sock_Write [.lf (.ptr none), .lf (.int .i64 n)] [.lf (.int .i64)] emp (fun r => pur (r = 2) emp) :=
  tri_0 (call_sock_Sock_Write none n) fun w0 S R h => by
    unfold W_sock_Sock_Write
    exact w_ite (fun _ => Own.retP rfl h.emp') fun c => (by simp at c)
theorem acknil_tri (now upto : Int) (a : Sl) : Tri Tryz.prog N_sock_Sock_Ack [.lf (.ptr none), .lf (.int .u64 now), .lf (.int .u64 upto), .lf (.sl a)] [.lf (.int .i64)] emp (fun r => pur (r = 2) emp) :=
  tri_0 (call_sock_Sock_Ack none now upto a) fun w0 S R h => by
    unfold W_sock_Sock_Ack
    exact w_ite (fun _ => Own.retP rfl h.emp') fun c => (by simp at c)
theorem losenil_tri (now : Int) : Tri Tryz.prog N_sock_Sock_Lose [.lf (.ptr none), .lf (.int .u64 now)] [.lf (.int .i64)] emp (fun r => pur (r = 2) emp) :=
  tri_0 (call_sock_Sock_Lose none now) fun w0 S R h => by
    unfold W_sock_Sock_Lose
    exact w_ite (fun _ => Own.retP rfl h.emp') fun c => (by simp at c)
theorem donenil_tri (n : Int) : Tri Tryz.prog N_sock_Sock_Done [.lf (.ptr none), .lf (.int .i64 n)] [.lf (.int .i64)] emp (fun r => pur (r = 2) emp) :=
  tri_0 (call_sock_Sock_Done none n) fun w0 S R h => by
    unfold W_sock_Sock_Done
    refine w_join h (fun _ => emp) (fun _ => False) (fun _ w c h => c.elim) ?_
    exact w_ite (fun _ => Own.retP rfl h.emp') fun c => (by simp at c)
theorem modelnil_tri : Tri Tryz.prog N_sock_Sock_Model [.lf (.ptr none)] [.agg K_i2u6b2] emp (fun r => pur (r = (0, 0, 0, 0, 0, 0, 0, 0, false, false)) emp) :=
  tri_0 (call_sock_Sock_Model none) fun w0 S R h => by
    unfold W_sock_Sock_Model
    refine w_new h fun n w h => w_ite (fun _ => ?_) fun c => (by simp at c)
    refine w_setAll h (by rfl) fun w h => w_ldAll (b := n) (x := ((0, 0, 0, 0, 0, 0, 0, 0, false, false) : BbrMm.St)) h rfl ?_
    exact Own.retP rfl h.emp'
theorem outnil_tri : Tri Tryz.prog N_sock_Sock_Out [.lf (.ptr none)] [.lf (.int .u64)] emp (fun r => pur (r = 0) emp) :=
  tri_0 (call_sock_Sock_Out none) fun w0 S R h => by
    unfold W_sock_Sock_Out
    exact w_ite (fun _ => Own.retP rfl h.emp') fun c => (by simp at c)
theorem flightnil_tri : Tri Tryz.prog N_sock_Sock_Flight [.lf (.ptr none)] [.lf (.int .u64)] emp (fun r => pur (r = 0) emp) :=
  tri_0 (call_sock_Sock_Flight none) fun w0 S R h => by
    unfold W_sock_Sock_Flight
    exact w_ite (fun _ => Own.retP rfl h.emp') fun c => (by simp at c)
theorem tsonil_tri : Tri Tryz.prog N_sock_Sock_Tso [.lf (.ptr none)] [.lf (.int .i64)] emp (fun r => pur (r = 0) emp) :=
  tri_0 (call_sock_Sock_Tso none) fun w0 S R h => by
    unfold W_sock_Sock_Tso
    exact w_ite (fun _ => Own.retP rfl h.emp') fun c => (by simp at c)
theorem unsentnil_tri : Tri Tryz.prog N_sock_Sock_Unsent [.lf (.ptr none)] [.lf (.int .u64)] emp (fun r => pur (r = 0) emp) :=
  tri_0 (call_sock_Sock_Unsent none) fun w0 S R h => by
    unfold W_sock_Sock_Unsent
    exact w_ite (fun _ => Own.retP rfl h.emp') fun c => (by simp at c)
theorem nil_tri (now upto n : Int) : Tri Tryz.prog N_canterlaw25_SockNil [.lf (.int .u64 now), .lf (.int .u64 upto), .lf (.int .i64 n)] [.lf .bool] emp (fun r => pur (r = true) emp) :=
  tri_0 (call_canterlaw25_SockNil now upto n) fun w0 S R h => by
    unfold W_canterlaw25_SockNil
    refine w_call (emitnil_tri now) (h.le (star_emp _)) fun r w h => ?_
    obtain ⟨hr, h⟩ := h.purP; rw [hr]
    refine w_new h fun m w h => w_setAll h (by rfl) fun w h => w_call awake_tri h fun r w h => ?_
    obtain ⟨hr, h⟩ := h.purP; rw [hr]
    refine w_ite (fun _ => ?_) fun c => (by cases c)
    refine w_call (writenil_tri n) h fun r w h => ?_
    obtain ⟨hr, h⟩ := h.purP; rw [hr]
    refine w_ite (fun _ => ?_) fun c => (by cases c)
    refine w_ldAll (b := m) (x := noS) h rfl (w_ite (fun _ => ?_) fun c => (by cases c))
    refine w_call (acknil_tri now upto _) h fun r w h => ?_
    obtain ⟨hr, h⟩ := h.purP; rw [hr]
    refine w_ite (fun _ => ?_) fun c => (by cases c)
    refine w_call (losenil_tri now) h fun r w h => ?_
    obtain ⟨hr, h⟩ := h.purP; rw [hr]
    refine w_ite (fun _ => ?_) fun c => (by cases c)
    refine w_call (donenil_tri n) h fun r w h => ?_
    obtain ⟨hr, h⟩ := h.purP; rw [hr]
    refine w_ite (fun _ => ?_) fun c => (by cases c)
    refine w_call modelnil_tri h fun r w h => ?_
    obtain ⟨hr, h⟩ := h.purP; rw [hr]
    refine w_ite (fun _ => ?_) fun c => (by cases c)
    refine w_call outnil_tri h fun r w h => ?_
    obtain ⟨hr, h⟩ := h.purP; rw [hr]
    refine w_ite (fun _ => ?_) fun c => (by cases c)
    refine w_call flightnil_tri h fun r w h => ?_
    obtain ⟨hr, h⟩ := h.purP; rw [hr]
    refine w_ite (fun _ => ?_) fun c => (by cases c)
    refine w_call tsonil_tri h fun r w h => ?_
    obtain ⟨hr, h⟩ := h.purP; rw [hr]
    refine w_ite (fun _ => ?_) fun c => (by cases c)
    refine w_call unsentnil_tri h fun r w h => ?_
    obtain ⟨hr, h⟩ := h.purP; rw [hr]
    exact Own.retP rfl h.emp'
end SockP


end Go.X
