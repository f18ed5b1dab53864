/- Contracts and plain facts: BbrP BbrQ. -/
import Derived.Test.YtkideobegadadaaBArith
import Derived.Test.YtkideobegadadaaBDelays
import Derived.Test.YtkideobegadadaaBTarget
import Derived.Test.YtkideobegadadaaBBbrMm
import Derived.Test.YtkideobegadadaaXw
import Derived.Test.YtkideobegadadaaK
import Derived.Test.YtkideobegadadaaF0
set_option linter.unusedVariables false
set_option linter.unusedSimpArgs false
set_option linter.unusedSectionVars false
namespace Go.X
open Go.Proofs
namespace BbrP
open Arith ArithC _root_.Go.X.Target BbrM
theorem wnew_tri (w : Int) : Tri Try.prog N_winmax_New [.lf (.int .u64 w)] [.lf .ptr] emp (fun r => ex fun n : Nat => pur (r = some ⟨n, 0⟩) (blk n [.int .u64 (Wn.mk w 0 0 0 0 0 0 0).w, .int .u64 (Wn.mk w 0 0 0 0 0 0 0).t0, .int .u64 (Wn.mk w 0 0 0 0 0 0 0).v0, .int .u64 (Wn.mk w 0 0 0 0 0 0 0).t1, .int .u64 (Wn.mk w 0 0 0 0 0 0 0).v1, .int .u64 (Wn.mk w 0 0 0 0 0 0 0).t2, .int .u64 (Wn.mk w 0 0 0 0 0 0 0).v2, .int .u64 (Wn.mk w 0 0 0 0 0 0 0).la])) :=
  tri_0 (call_winmax_New w) fun w0 S R h => by
    unfold W_winmax_New
    refine w_new h fun n w h => ?_
    exact Own.retE n (Own.retP rfl h.fin)
theorem best_tri (b : Nat) (v : Wn) : Tri Try.prog N_winmax_Max_Best [.lf (.ptr (some ⟨b, 0⟩))] [.lf (.int .u64)] (blk b [.int .u64 v.w, .int .u64 v.t0, .int .u64 v.v0, .int .u64 v.t1, .int .u64 v.v1, .int .u64 v.t2, .int .u64 v.v2, .int .u64 v.la]) (fun r => pur (r = v.v0) (blk b [.int .u64 v.w, .int .u64 v.t0, .int .u64 v.v0, .int .u64 v.t1, .int .u64 v.v1, .int .u64 v.t2, .int .u64 v.v2, .int .u64 v.la])) :=
  tri_0 (call_winmax_Max_Best _) fun w0 S R h => by
    unfold W_winmax_Max_Best
    refine w_ite (fun c => (by cases c)) fun _ => ?_
    refine w_deref ⟨by decide, w_ld h rfl ?_⟩
    exact Own.retP rfl h.fin
def stA (v : Wn) (f t x : Int) (i : Int) : Wn := { v with
  t0 := if f = 0 ∧ 0 < i then t else v.t0, v0 := if f = 0 ∧ 0 < i then x else v.v0
  t1 := if f ≤ 1 ∧ 1 < f + i then t else v.t1, v1 := if f ≤ 1 ∧ 1 < f + i then x else v.v1
  t2 := if 2 < f + i then t else v.t2, v2 := if 2 < f + i then x else v.v2 }
theorem all_tri (b : Nat) (v : Wn) (f t x : Int) (hf : f = 0 ∨ f = 1 ∨ f = 2) : Tri Try.prog N_winmax_Max_all [.lf (.ptr (some ⟨b, 0⟩)), .lf (.int .i64 f), .agg (Ks.mk KP (t, x))] [] (blk b [.int .u64 v.w, .int .u64 v.t0, .int .u64 v.v0, .int .u64 v.t1, .int .u64 v.v1, .int .u64 v.t2, .int .u64 v.v2, .int .u64 v.la])
    (fun _ => blk b [.int .u64 (if f = 0 then v.all t x else if f = 1 then v.s12 t x else v.s2 t x).w, .int .u64 (if f = 0 then v.all t x else if f = 1 then v.s12 t x else v.s2 t x).t0, .int .u64 (if f = 0 then v.all t x else if f = 1 then v.s12 t x else v.s2 t x).v0, .int .u64 (if f = 0 then v.all t x else if f = 1 then v.s12 t x else v.s2 t x).t1, .int .u64 (if f = 0 then v.all t x else if f = 1 then v.s12 t x else v.s2 t x).v1, .int .u64 (if f = 0 then v.all t x else if f = 1 then v.s12 t x else v.s2 t x).t2, .int .u64 (if f = 0 then v.all t x else if f = 1 then v.s12 t x else v.s2 t x).v2, .int .u64 (if f = 0 then v.all t x else if f = 1 then v.s12 t x else v.s2 t x).la]) :=
  tri_0 (call_winmax_Max_all _ f (t, x)) fun w0 S R h => by
    unfold W_winmax_Max_all
    refine w_new h fun n w h => ?_
    refine w_deref ?_
    refine ⟨⟨rfl, fun _ => by simp⟩, f.toNat, 3, 3, ?_, rfl, rfl, ⟨by omega, Nat.le_refl _, Nat.le_refl _⟩, ?_⟩
    · show f = f.toNat; omega
    have h : Own w0 S R w (blk b [.int .u64 (stA v f t x 0).w, .int .u64 (stA v f t x 0).t0, .int .u64 (stA v f t x 0).v0, .int .u64 (stA v f t x 0).t1, .int .u64 (stA v f t x 0).v1, .int .u64 (stA v f t x 0).t2, .int .u64 (stA v f t x 0).v2, .int .u64 (stA v f t x 0).la] ^ blk n (Ks.mk KP (t, x)) ^ emp) := by
      have h := h.blkEq (b := b) (L' := [.int .u64 (stA v f t x 0).w, .int .u64 (stA v f t x 0).t0, .int .u64 (stA v f t x 0).v0, .int .u64 (stA v f t x 0).t1, .int .u64 (stA v f t x 0).v1, .int .u64 (stA v f t x 0).t2, .int .u64 (stA v f t x 0).v2, .int .u64 (stA v f t x 0).la]) (by rcases hf with rfl | rfl | rfl <;> simp [stA])
      exact h
    have hlen : ((Sl.sub ⟨some ⟨b, 0 + 1⟩, 3, 3⟩ f.toNat 3 3 2).len : Int) = 3 - f := by
      show ((3 - f.toNat : Nat) : Int) = _; omega
    refine w_loop (fun i : Int => blk b [.int .u64 (stA v f t x i).w, .int .u64 (stA v f t x i).t0, .int .u64 (stA v f t x i).v0, .int .u64 (stA v f t x i).t1, .int .u64 (stA v f t x i).v1, .int .u64 (stA v f t x i).t2, .int .u64 (stA v f t x i).v2, .int .u64 (stA v f t x i).la] ^ blk n (Ks.mk KP (t, x)) ^ emp) (fun i : Int => 0 ≤ i ∧ i ≤ 3 - f) (fun i : Int => 3 - i.toNat) h ⟨Int.le_refl _, by omega⟩ ?_
    rintro (i : Int) w ⟨h0, h1⟩ h
    rw [hlen]
    refine w_ite (fun c => ?_) fun c => ?_
    · have c : i < 3 - f := by simpa using c
      refine w_drw h fun w h => w_ldAll h rfl (w_deref ?_)
      rw [wi (n := f + i) (by omega) (by omega), wi (n := i + 1) (by omega) (by omega)]
      refine ⟨by omega, ?_⟩
      have hi : (f = 0 ∧ i = 0) ∨ (f = 0 ∧ i = 1) ∨ (f = 0 ∧ i = 2) ∨ (f = 1 ∧ i = 0) ∨ (f = 1 ∧ i = 1) ∨ (f = 2 ∧ i = 0) := by omega
      refine w_setTo h b [.int .u64 (stA v f t x (i + 1)).w, .int .u64 (stA v f t x (i + 1)).t0, .int .u64 (stA v f t x (i + 1)).v0, .int .u64 (stA v f t x (i + 1)).t1, .int .u64 (stA v f t x (i + 1)).v1, .int .u64 (stA v f t x (i + 1)).t2, .int .u64 (stA v f t x (i + 1)).v2, .int .u64 (stA v f t x (i + 1)).la] rfl ?_ ?_ fun w h => ?_
      · rcases hi with ⟨rfl, rfl⟩ | ⟨rfl, rfl⟩ | ⟨rfl, rfl⟩ | ⟨rfl, rfl⟩ | ⟨rfl, rfl⟩ | ⟨rfl, rfl⟩ <;> rfl
      · rcases hi with ⟨rfl, rfl⟩ | ⟨rfl, rfl⟩ | ⟨rfl, rfl⟩ | ⟨rfl, rfl⟩ | ⟨rfl, rfl⟩ | ⟨rfl, rfl⟩ <;> rfl
      · exact ⟨⟨⟨by show 0 ≤ i + 1; omega, by show i + 1 ≤ _; omega⟩, h⟩, by show 3 - (i + 1).toNat < 3 - i.toNat; omega⟩
    · have c : i = 3 - f := by have : ¬ i < 3 - f := by simpa using c
                               omega
      subst c
      refine Own.keep (A := blk b [.int .u64 (if f = 0 then v.all t x else if f = 1 then v.s12 t x else v.s2 t x).w, .int .u64 (if f = 0 then v.all t x else if f = 1 then v.s12 t x else v.s2 t x).t0, .int .u64 (if f = 0 then v.all t x else if f = 1 then v.s12 t x else v.s2 t x).v0, .int .u64 (if f = 0 then v.all t x else if f = 1 then v.s12 t x else v.s2 t x).t1, .int .u64 (if f = 0 then v.all t x else if f = 1 then v.s12 t x else v.s2 t x).v1, .int .u64 (if f = 0 then v.all t x else if f = 1 then v.s12 t x else v.s2 t x).t2, .int .u64 (if f = 0 then v.all t x else if f = 1 then v.s12 t x else v.s2 t x).v2, .int .u64 (if f = 0 then v.all t x else if f = 1 then v.s12 t x else v.s2 t x).la]) (h.blkEq (b := b) ?_)
      rcases hf with rfl | rfl | rfl <;> simp [stA, Wn.all, Wn.s12, Wn.s2]
end BbrP

namespace BbrQ
open Arith ArithC _root_.Go.X.Target BbrM
theorem rnew_tri : Tri Try.prog N_rounds_New [] [.lf .ptr] emp (fun r => ex fun n : Nat => pur (r = some ⟨n, 0⟩) (blk n [.int .u64 (Rnd.mk 0 0).n, .int .u64 (Rnd.mk 0 0).nx])) :=
  tri_0 call_rounds_New fun w0 S R h => by
    unfold W_rounds_New
    refine w_new h fun n w h => ?_
    exact Own.retE n (Own.retP rfl h.fin)
theorem pnew_tri : Tri Try.prog N_pipe_New [] [.lf .ptr] emp (fun r => ex fun n : Nat => pur (r = some ⟨n, 0⟩) (blk n [.int .u64 (Pp.mk 0 0 false).best, .int .i64 (Pp.mk 0 0 false).n, .bool (Pp.mk 0 0 false).full])) :=
  tri_0 call_pipe_New fun w0 S R h => by
    unfold W_pipe_New
    refine w_new h fun n w h => ?_
    exact Own.retE n (Own.retP rfl h.fin)
theorem cnew_tri : Tri Try.prog N_cycle_New [] [.lf .ptr] emp (fun r => ex fun n : Nat => pur (r = some ⟨n, 0⟩) (blk n [.int .i64 (Cy.mk 0 0).ph, .int .u64 (Cy.mk 0 0).at'])) :=
  tri_0 call_cycle_New fun w0 S R h => by
    unfold W_cycle_New
    refine w_new h fun n w h => ?_
    exact Own.retE n (Own.retP rfl h.fin)
theorem bnew_tri : Tri Try.prog N_probe_New [] [.lf .ptr] emp (fun r => ex fun n : Nat => pur (r = some ⟨n, 0⟩) (blk n [.int .u64 (Pb.mk 0 0 false 0 false).best, .int .u64 (Pb.mk 0 0 false 0 false).at', .bool (Pb.mk 0 0 false 0 false).on, .int .u64 (Pb.mk 0 0 false 0 false).til, .bool (Pb.mk 0 0 false 0 false).rd])) :=
  tri_0 call_probe_New fun w0 S R h => by
    unfold W_probe_New
    refine w_new h fun n w h => ?_
    exact Own.retE n (Own.retP rfl h.fin)
theorem lnew_tri : Tri Try.prog N_policer_New [] [.lf .ptr] emp (fun r => ex fun n : Nat => pur (r = some ⟨n, 0⟩) (blk n [.bool (Pl.mk false false 0 0 0 0 0 0).use, .bool (Pl.mk false false 0 0 0 0 0 0).mea, .int .u64 (Pl.mk false false 0 0 0 0 0 0).bw, .int .i64 (Pl.mk false false 0 0 0 0 0 0).n, .int .u64 (Pl.mk false false 0 0 0 0 0 0).lost, .int .u64 (Pl.mk false false 0 0 0 0 0 0).t0, .int .u64 (Pl.mk false false 0 0 0 0 0 0).d0, .int .u64 (Pl.mk false false 0 0 0 0 0 0).l0])) :=
  tri_0 call_policer_New fun w0 S R h => by
    unfold W_policer_New
    refine w_new h fun n w h => ?_
    exact Own.retE n (Own.retP rfl h.fin)
theorem count_tri (b : Nat) (r : Rnd) : Tri Try.prog N_rounds_Rounds_Count [.lf (.ptr (some ⟨b, 0⟩))] [.lf (.int .u64)] (blk b [.int .u64 r.n, .int .u64 r.nx]) (fun x => pur (x = r.n) (blk b [.int .u64 r.n, .int .u64 r.nx])) :=
  tri_0 (call_rounds_Rounds_Count _) fun w0 S R h => by
    unfold W_rounds_Rounds_Count
    refine w_ite (fun c => (by cases c)) fun _ => w_deref (w_ld h rfl ?_)
    exact Own.retP rfl h.fin
theorem phase_tri (b : Nat) (c : Cy) : Tri Try.prog N_cycle_Cycle_Phase [.lf (.ptr (some ⟨b, 0⟩))] [.lf (.int .i64)] (blk b [.int .i64 c.ph, .int .u64 c.at']) (fun x => pur (x = c.ph) (blk b [.int .i64 c.ph, .int .u64 c.at'])) :=
  tri_0 (call_cycle_Cycle_Phase _) fun w0 S R h => by
    unfold W_cycle_Cycle_Phase
    refine w_ite (fun c => (by cases c)) fun _ => w_deref (w_ld h rfl ?_)
    exact Own.retP rfl h.fin
theorem full_tri (b : Nat) (p : Pp) : Tri Try.prog N_pipe_Pipe_Full [.lf (.ptr (some ⟨b, 0⟩))] [.lf .bool] (blk b [.int .u64 p.best, .int .i64 p.n, .bool p.full]) (fun x => pur (x = p.full) (blk b [.int .u64 p.best, .int .i64 p.n, .bool p.full])) :=
  tri_0 (call_pipe_Pipe_Full _) fun w0 S R h => by
    unfold W_pipe_Pipe_Full
    refine w_ite (fun _ => w_deref (w_ld h rfl ?_)) fun c => (by cases c)
    exact Own.retP rfl h.fin
theorem bbest_tri (b : Nat) (v : Pb) : Tri Try.prog N_probe_Probe_Best [.lf (.ptr (some ⟨b, 0⟩))] [.lf (.int .u64)] (blk b [.int .u64 v.best, .int .u64 v.at', .bool v.on, .int .u64 v.til, .bool v.rd]) (fun x => pur (x = v.best) (blk b [.int .u64 v.best, .int .u64 v.at', .bool v.on, .int .u64 v.til, .bool v.rd])) :=
  tri_0 (call_probe_Probe_Best _) fun w0 S R h => by
    unfold W_probe_Probe_Best
    refine w_ite (fun c => (by cases c)) fun _ => w_deref (w_ld h rfl ?_)
    exact Own.retP rfl h.fin
theorem gain_tri (b : Nat) (c : Cy) : Tri Try.prog N_cycle_Cycle_Gain [.lf (.ptr (some ⟨b, 0⟩))] [.lf (.int .u64)] (blk b [.int .i64 c.ph, .int .u64 c.at']) (fun x => pur (x = cG c) (blk b [.int .i64 c.ph, .int .u64 c.at'])) :=
  tri_0 (call_cycle_Cycle_Gain _) fun w0 S R h => by
    unfold W_cycle_Cycle_Gain
    refine w_ite (fun _ => w_deref (w_ld h rfl ?_)) fun c => (by cases c)
    refine w_ite (fun c1 => ?_) fun c1 => ?_
    · exact Own.retP (by unfold cG; rw [if_pos (by simpa using c1)]) h.fin
    refine w_ite (fun c2 => ?_) fun c2 => ?_
    · exact Own.retP (by unfold cG; rw [if_neg (by simpa using c1), if_pos (by simpa using c2)]) h.fin
    · exact Own.retP (by unfold cG; rw [if_neg (by simpa using c1), if_neg (by simpa using c2)]) h.fin
theorem luse_tri (b : Nat) (q : Pl) : Tri Try.prog N_policer_Policer_Use [.lf (.ptr (some ⟨b, 0⟩))] [.lf (.int .u64), .lf .bool] (blk b [.bool q.use, .bool q.mea, .int .u64 q.bw, .int .i64 q.n, .int .u64 q.lost, .int .u64 q.t0, .int .u64 q.d0, .int .u64 q.l0]) (fun x => pur (x = (if q.use then q.bw else 0, q.use)) (blk b [.bool q.use, .bool q.mea, .int .u64 q.bw, .int .i64 q.n, .int .u64 q.lost, .int .u64 q.t0, .int .u64 q.d0, .int .u64 q.l0])) :=
  tri_0 (call_policer_Policer_Use _) fun w0 S R h => by
    unfold W_policer_Policer_Use
    refine w_join h (fun _ => blk b [.bool q.use, .bool q.mea, .int .u64 q.bw, .int .i64 q.n, .int .u64 q.lost, .int .u64 q.t0, .int .u64 q.d0, .int .u64 q.l0]) (fun _ => q.use = true) (fun _ w hu h => ?_) ?_
    · refine w_deref (w_ld h rfl ?_)
      exact Own.retP (by rw [hu]; rfl) h
    · refine w_ite (fun c => (by cases c)) fun _ => w_deref (w_ld h rfl ?_)
      refine w_ite (fun c => ?_) fun c => ?_
      · have c : q.use = false := by simpa using c
        exact Own.retP (by rw [c]; rfl) h
      · exact ⟨by simpa using c, h⟩
end BbrQ


end Go.X
