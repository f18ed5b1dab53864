/- Contracts and plain facts: BbrQ. -/
import Derived.Test.YteeabliibhedoaaBPlain
import Derived.Test.YteeabliibhedoaaBArith
import Derived.Test.YteeabliibhedoaaBArithC
import Derived.Test.YteeabliibhedoaaBTarget
import Derived.Test.YteeabliibhedoaaBBbrM
import Derived.Test.YteeabliibhedoaaBBbrP
import Derived.Test.YteeabliibhedoaaXw
import Derived.Test.YteeabliibhedoaaK
import Derived.Test.YteeabliibhedoaaF0
import Derived.Test.YteeabliibhedoaaF1
set_option linter.unusedVariables false
set_option linter.unusedSimpArgs false
set_option linter.unusedSectionVars false
namespace Go.X
open Go.Proofs
namespace BbrQ
open Arith ArithC _root_.Go.X.Target BbrM
theorem rnew_tri : Tri Try.prog N_rounds_New [] [.lf .ptr] emp (fun r => ex fun n : Nat => pur (r = some ⟨n, 0⟩) (blk n [.int .u64 (Rnd.mk 0 0).n, .int .u64 (Rnd.mk 0 0).nx])) :=
  tri_0 call_rounds_New fun w0 S R h => by
    unfold W_rounds_New
    refine w_new h fun n w h => ?_
    exact Own.retE n (Own.retP rfl h.fin)
theorem pnew_tri : Tri Try.prog N_pipe_New [] [.lf .ptr] emp (fun r => ex fun n : Nat => pur (r = some ⟨n, 0⟩) (blk n [.int .u64 (Pp.mk 0 0 false).best, .int .i64 (Pp.mk 0 0 false).n, .bool (Pp.mk 0 0 false).full])) :=
  tri_0 call_pipe_New fun w0 S R h => by
    unfold W_pipe_New
    refine w_new h fun n w h => ?_
    exact Own.retE n (Own.retP rfl h.fin)
theorem cnew_tri : Tri Try.prog N_cycle_New [] [.lf .ptr] emp (fun r => ex fun n : Nat => pur (r = some ⟨n, 0⟩) (blk n [.int .i64 (Cy.mk 0 0).ph, .int .u64 (Cy.mk 0 0).at'])) :=
  tri_0 call_cycle_New fun w0 S R h => by
    unfold W_cycle_New
    refine w_new h fun n w h => ?_
    exact Own.retE n (Own.retP rfl h.fin)
theorem bnew_tri : Tri Try.prog N_probe_New [] [.lf .ptr] emp (fun r => ex fun n : Nat => pur (r = some ⟨n, 0⟩) (blk n [.int .u64 (Pb.mk 0 0 false 0 false).best, .int .u64 (Pb.mk 0 0 false 0 false).at', .bool (Pb.mk 0 0 false 0 false).on, .int .u64 (Pb.mk 0 0 false 0 false).til, .bool (Pb.mk 0 0 false 0 false).rd])) :=
  tri_0 call_probe_New fun w0 S R h => by
    unfold W_probe_New
    refine w_new h fun n w h => ?_
    exact Own.retE n (Own.retP rfl h.fin)
theorem lnew_tri : Tri Try.prog N_policer_New [] [.lf .ptr] emp (fun r => ex fun n : Nat => pur (r = some ⟨n, 0⟩) (blk n [.bool (Pl.mk false false 0 0 0 0 0 0).use, .bool (Pl.mk false false 0 0 0 0 0 0).mea, .int .u64 (Pl.mk false false 0 0 0 0 0 0).bw, .int .i64 (Pl.mk false false 0 0 0 0 0 0).n, .int .u64 (Pl.mk false false 0 0 0 0 0 0).lost, .int .u64 (Pl.mk false false 0 0 0 0 0 0).t0, .int .u64 (Pl.mk false false 0 0 0 0 0 0).d0, .int .u64 (Pl.mk false false 0 0 0 0 0 0).l0])) :=
  tri_0 call_policer_New fun w0 S R h => by
    unfold W_policer_New
    refine w_new h fun n w h => ?_
    exact Own.retE n (Own.retP rfl h.fin)
theorem count_tri (b : Nat) (r : Rnd) : Tri Try.prog N_rounds_Rounds_Count [.lf (.ptr (some ⟨b, 0⟩))] [.lf (.int .u64)] (blk b [.int .u64 r.n, .int .u64 r.nx]) (fun x => pur (x = r.n) (blk b [.int .u64 r.n, .int .u64 r.nx])) :=
  tri_0 (call_rounds_Rounds_Count _) fun w0 S R h => by
    unfold W_rounds_Rounds_Count
    refine w_ite (fun c => (by cases c)) fun _ => w_deref (w_ld h rfl ?_)
    exact Own.retP rfl h.fin
theorem phase_tri (b : Nat) (c : Cy) : Tri Try.prog N_cycle_Cycle_Phase [.lf (.ptr (some ⟨b, 0⟩))] [.lf (.int .i64)] (blk b [.int .i64 c.ph, .int .u64 c.at']) (fun x => pur (x = c.ph) (blk b [.int .i64 c.ph, .int .u64 c.at'])) :=
  tri_0 (call_cycle_Cycle_Phase _) fun w0 S R h => by
    unfold W_cycle_Cycle_Phase
    refine w_ite (fun c => (by cases c)) fun _ => w_deref (w_ld h rfl ?_)
    exact Own.retP rfl h.fin
theorem full_tri (b : Nat) (p : Pp) : Tri Try.prog N_pipe_Pipe_Full [.lf (.ptr (some ⟨b, 0⟩))] [.lf .bool] (blk b [.int .u64 p.best, .int .i64 p.n, .bool p.full]) (fun x => pur (x = p.full) (blk b [.int .u64 p.best, .int .i64 p.n, .bool p.full])) :=
  tri_0 (call_pipe_Pipe_Full _) fun w0 S R h => by
    unfold W_pipe_Pipe_Full
    refine w_ite (fun _ => w_deref (w_ld h rfl ?_)) fun c => (by cases c)
    exact Own.retP rfl h.fin
theorem bbest_tri (b : Nat) (v : Pb) : Tri Try.prog N_probe_Probe_Best [.lf (.ptr (some ⟨b, 0⟩))] [.lf (.int .u64)] (blk b [.int .u64 v.best, .int .u64 v.at', .bool v.on, .int .u64 v.til, .bool v.rd]) (fun x => pur (x = v.best) (blk b [.int .u64 v.best, .int .u64 v.at', .bool v.on, .int .u64 v.til, .bool v.rd])) :=
  tri_0 (call_probe_Probe_Best _) fun w0 S R h => by
    unfold W_probe_Probe_Best
    refine w_ite (fun c => (by cases c)) fun _ => w_deref (w_ld h rfl ?_)
    exact Own.retP rfl h.fin
theorem gain_tri (b : Nat) (c : Cy) : Tri Try.prog N_cycle_Cycle_Gain [.lf (.ptr (some ⟨b, 0⟩))] [.lf (.int .u64)] (blk b [.int .i64 c.ph, .int .u64 c.at']) (fun x => pur (x = cG c) (blk b [.int .i64 c.ph, .int .u64 c.at'])) :=
  tri_0 (call_cycle_Cycle_Gain _) fun w0 S R h => by
    unfold W_cycle_Cycle_Gain
    refine w_ite (fun _ => w_deref (w_ld h rfl ?_)) fun c => (by cases c)
    refine w_ite (fun c1 => ?_) fun c1 => ?_
    · exact Own.retP (by unfold cG; rw [if_pos (by simpa using c1)]) h.fin
    refine w_ite (fun c2 => ?_) fun c2 => ?_
    · exact Own.retP (by unfold cG; rw [if_neg (by simpa using c1), if_pos (by simpa using c2)]) h.fin
    · exact Own.retP (by unfold cG; rw [if_neg (by simpa using c1), if_neg (by simpa using c2)]) h.fin
theorem luse_tri (b : Nat) (q : Pl) : Tri Try.prog N_policer_Policer_Use [.lf (.ptr (some ⟨b, 0⟩))] [.lf (.int .u64), .lf .bool] (blk b [.bool q.use, .bool q.mea, .int .u64 q.bw, .int .i64 q.n, .int .u64 q.lost, .int .u64 q.t0, .int .u64 q.d0, .int .u64 q.l0]) (fun x => pur (x = (if q.use then q.bw else 0, q.use)) (blk b [.bool q.use, .bool q.mea, .int .u64 q.bw, .int .i64 q.n, .int .u64 q.lost, .int .u64 q.t0, .int .u64 q.d0, .int .u64 q.l0])) :=
  tri_0 (call_policer_Policer_Use _) fun w0 S R h => by
    unfold W_policer_Policer_Use
    refine w_join h (fun _ => blk b [.bool q.use, .bool q.mea, .int .u64 q.bw, .int .i64 q.n, .int .u64 q.lost, .int .u64 q.t0, .int .u64 q.d0, .int .u64 q.l0]) (fun _ => q.use = true) (fun _ w hu h => ?_) ?_
    · refine w_deref (w_ld h rfl ?_)
      exact Own.retP (by rw [hu]; rfl) h
    · refine w_ite (fun c => (by cases c)) fun _ => w_deref (w_ld h rfl ?_)
      refine w_ite (fun c => ?_) fun c => ?_
      · have c : q.use = false := by simpa using c
        exact Own.retP (by rw [c]; rfl) h
      · exact ⟨by simpa using c, h⟩
theorem rupd_tri (b : Nat) (r : Rnd) (s : Sm) : Tri Try.prog N_rounds_Rounds_Update [.lf (.ptr (some ⟨b, 0⟩)), .agg (Ks.mk K_u8b s)] [.lf .bool] (blk b [.int .u64 r.n, .int .u64 r.nx]) (fun x => pur (x = rB r s) (blk b [.int .u64 (rU r s).n, .int .u64 (rU r s).nx])) :=
  tri_0 (call_rounds_Rounds_Update _ _) fun w0 S R h => by
    unfold W_rounds_Rounds_Update
    refine w_new h fun n w h => ?_
    refine w_loop (fun _ : Bool => blk n (Ks.mk K_u8b s) ^ blk b [.int .u64 r.n, .int .u64 r.nx]) (fun y : Bool => y = false) (fun _ => 0) h rfl ?_
    rintro (y : Bool) w hy h
    rw [hy]
    refine w_join h (fun _ => blk n (Ks.mk K_u8b s) ^ blk b [.int .u64 r.n, .int .u64 r.nx]) (fun _ => sAck s > 0) (fun _ w c1 h => ?_) ?_
    · refine w_drw h fun w h => w_ld h rfl (w_deref (w_ld h rfl ?_))
      refine w_ite (fun c2 => ?_) fun c2 => ?_
      · have e : rB r s = false := by unfold rB; simp at c2 ⊢; intro _; exact c2
        have e2 : rU r s = r := by unfold rU; rw [e]; rfl
        rw [e2]
        exact Own.retP e.symm h.fin
      · have e : rB r s = true := by unfold rB; simp at c2 ⊢; exact ⟨c1, c2⟩
        have e2 : rU r s = ⟨IntKind.u64.wrap (r.n + 1), sDel s⟩ := by unfold rU; rw [e]; rfl
        rw [e2]
        refine w_ld h rfl (w_deref ?_)
        refine w_setTo h b [.int .u64 r.n, .int .u64 (sDel s)] rfl rfl rfl fun w h => ?_
        refine w_deref (w_ld h rfl (w_deref ?_))
        refine w_setTo h b [.int .u64 (IntKind.u64.wrap (r.n + 1)), .int .u64 (sDel s)] rfl rfl rfl fun w h => ?_
        exact Own.retP e.symm h.fin
    · refine w_ite (fun _ => w_ld h rfl ?_) fun c => (by cases c)
      refine w_ite (fun c => ?_) fun c => ?_
      · exact ⟨by simpa using c, h⟩
      · have e : rB r s = false := by unfold rB; rw [show decide (sAck s > 0) = false from c]; rfl
        have e2 : rU r s = r := by unfold rU; rw [e]; rfl
        rw [e2]
        exact Own.retP e.symm h.fin
theorem pupd_tri (b : Nat) (p : Pp) (hp : OkP p) (a l : Bool) (bw : Int) (hb : U bw) : Tri Try.prog N_pipe_Pipe_Update [.lf (.ptr (some ⟨b, 0⟩)), .lf (.bool a), .lf (.bool l), .lf (.int .u64 bw)] [.lf .bool] (blk b [.int .u64 p.best, .int .i64 p.n, .bool p.full]) (fun x => pur (x = (pU p a l bw).full) (blk b [.int .u64 (pU p a l bw).best, .int .i64 (pU p a l bw).n, .bool (pU p a l bw).full])) :=
  tri_0 (call_pipe_Pipe_Update _ _ _ _) fun w0 S R h => by
    unfold W_pipe_Pipe_Update
    refine w_join h (fun _ => blk b [.int .u64 (pU p a l bw).best, .int .i64 (pU p a l bw).n, .bool (pU p a l bw).full]) (fun _ => True) (fun _ w _ h => ?_) ?_
    · refine w_call (full_tri b (pU p a l bw)) h fun r w h => ?_
      obtain ⟨hr, h⟩ := h.purP
      exact Own.retP hr h.fin
    refine w_loop (fun _ : Unit => blk b [.int .u64 p.best, .int .i64 p.n, .bool p.full]) (fun _ : Unit => True) (fun _ => 0) h trivial ?_
    rintro _ w _ h
    refine w_join h (fun _ => blk b [.int .u64 p.best, .int .i64 p.n, .bool p.full]) (fun _ => (!p.full && a && !l) = true) (fun _ w c h => ?_) ?_
    · refine w_deref (w_ld h rfl ?_)
      refine w_call (md_tri p.best 320 256 hp.best (U_lit _) (U_lit _)) h fun r w h => ?_
      obtain ⟨hr, h⟩ := h.purP
      rw [hr]
      refine w_ite (fun c2 => ?_) fun c2 => ?_
      · have c2 : bw ≥ mdI p.best 320 256 := by simpa using c2
        have e : pU p a l bw = ⟨bw, 0, p.full⟩ := by unfold pU; rw [if_pos c, if_pos c2]
        rw [e]
        refine w_deref (w_setTo h b [.int .u64 bw, .int .i64 p.n, .bool p.full] rfl rfl rfl fun w h => ?_)
        refine w_deref (w_setTo h b [.int .u64 bw, .int .i64 0, .bool p.full] rfl rfl rfl fun w h => ?_)
        exact ⟨trivial, h.fin⟩
      · have c2 : ¬ bw ≥ mdI p.best 320 256 := by simpa using c2
        have e : pU p a l bw = ⟨p.best, p.n + 1, decide (p.n + 1 = 3)⟩ := by unfold pU; rw [if_pos c, if_neg c2]
        rw [e]
        have hn := hp.n
        refine w_deref (w_ld h rfl (w_deref ?_))
        rw [wi (n := p.n + 1) (by omega) (by omega)]
        refine w_setTo h b [.int .u64 p.best, .int .i64 (p.n + 1), .bool p.full] rfl rfl rfl fun w h => ?_
        refine w_deref (w_ld h rfl (w_deref ?_))
        refine w_setTo h b [.int .u64 p.best, .int .i64 (p.n + 1), .bool (decide (p.n + 1 = 3))] rfl rfl rfl fun w h => ?_
        exact ⟨trivial, h.fin⟩
    · refine w_ite (fun _ => w_deref (w_ld h rfl ?_)) fun c => (by cases c)
      refine w_ite (fun c => ?_) fun c => ?_
      · exact ⟨c, h⟩
      · have e : pU p a l bw = p := by unfold pU; rw [if_neg (by rw [c]; simp)]
        rw [e]
        exact ⟨trivial, h⟩
theorem ph8 {ph : Int} (h0 : 0 ≤ ph) (h1 : ph ≤ 1000) : (IntKind.i64.wrap (ph.tmod 8 + 8)).tmod 8 = ph % 8 := by
  rw [Int.tmod_eq_emod_of_nonneg h0, wi (by omega) (by omega), Int.tmod_eq_emod_of_nonneg (by omega)]; omega
theorem cst_tri (b : Nat) (c : Cy) (now ph : Int) (h0 : 0 ≤ ph) (h1 : ph ≤ 1000) : Tri Try.prog N_cycle_Cycle_Start [.lf (.ptr (some ⟨b, 0⟩)), .lf (.int .u64 now), .lf (.int .i64 ph)] [] (blk b [.int .i64 c.ph, .int .u64 c.at']) (fun _ => blk b [.int .i64 (cSt now ph).ph, .int .u64 (cSt now ph).at']) :=
  tri_0 (call_cycle_Cycle_Start _ _ _) fun w0 S R h => by
    unfold W_cycle_Cycle_Start
    refine w_ite (fun _ => ?_) fun c => (by cases c)
    rw [ph8 h0 h1]
    refine w_deref (w_setTo h b [.int .i64 (ph % 8), .int .u64 c.at'] rfl rfl rfl fun w h => ?_)
    refine w_deref (w_setTo h b [.int .i64 (ph % 8), .int .u64 now] rfl rfl rfl fun w h => ?_)
    exact Own.keep (A := blk b [.int .i64 (cSt now ph).ph, .int .u64 (cSt now ph).at']) h
def cE (c : Cy) (over : Bool) (lost fl up one : Int) : Bool := if c.ph = 0 then over && (decide (lost > 0) || decide (fl ≥ up)) else if c.ph = 1 then over || decide (fl ≤ one) else over
theorem cE_B (c : Cy) (now rtt lost fl up one : Int) : cE c (decide (subI now c.at' > rtt)) lost fl up one = cB c now rtt lost fl up one := rfl
theorem cends_tri (b : Nat) (c : Cy) (over : Bool) (lost fl up one : Int) : Tri Try.prog N_cycle_Cycle_ends [.lf (.ptr (some ⟨b, 0⟩)), .lf (.bool over), .lf (.int .u64 lost), .lf (.int .u64 fl), .lf (.int .u64 up), .lf (.int .u64 one)] [.lf .bool] (blk b [.int .i64 c.ph, .int .u64 c.at']) (fun x => pur (x = cE c over lost fl up one) (blk b [.int .i64 c.ph, .int .u64 c.at'])) :=
  tri_0 (call_cycle_Cycle_ends _ _ _ _ _ _) fun w0 S R h => by
    unfold W_cycle_Cycle_ends
    refine w_deref (w_ld h rfl ?_)
    refine w_ite (fun c1 => ?_) fun c1 => ?_
    · exact Own.retP (by unfold cE; rw [if_pos (by simpa using c1)]) h.fin
    refine w_ite (fun c2 => ?_) fun c2 => ?_
    · exact Own.retP (by unfold cE; rw [if_neg (by simpa using c1), if_pos (by simpa using c2)]) h.fin
    · exact Own.retP (by unfold cE; rw [if_neg (by simpa using c1), if_neg (by simpa using c2)]) h.fin
theorem cupd_tri (b : Nat) (c : Cy) (hc : OkC c) (now rtt lost fl up one : Int) (hn : U now) : Tri Try.prog N_cycle_Cycle_Update [.lf (.ptr (some ⟨b, 0⟩)), .lf (.int .u64 now), .lf (.int .u64 rtt), .lf (.int .u64 lost), .lf (.int .u64 fl), .lf (.int .u64 up), .lf (.int .u64 one)] [.lf .bool] (blk b [.int .i64 c.ph, .int .u64 c.at']) (fun x => blk b [.int .i64 (cU c now rtt lost fl up one).ph, .int .u64 (cU c now rtt lost fl up one).at']) :=
  tri_0 (call_cycle_Cycle_Update _ _ _ _ _ _ _) fun w0 S R h => by
    unfold W_cycle_Cycle_Update
    refine w_loop (fun _ : Bool => blk b [.int .i64 c.ph, .int .u64 c.at']) (fun _ : Bool => True) (fun _ => 0) h trivial ?_
    rintro _ w _ h
    refine w_join h (fun _ => blk b [.int .i64 c.ph, .int .u64 c.at']) (fun _ => cB c now rtt lost fl up one = true) (fun _ w c1 h => ?_) ?_
    · have hp := hc.ph
      refine w_deref (w_ld h rfl ?_)
      rw [wi (n := c.ph + 1) (by omega) (by omega)]
      refine w_call (cst_tri b c now (c.ph + 1) (by omega) (by omega)) (h.le (star_emp _)) fun r w h => ?_
      have e : cU c now rtt lost fl up one = cSt now (c.ph + 1) := by unfold cU; rw [if_pos c1]
      rw [e]
      exact h.keep
    · refine w_ite (fun _ => w_deref (w_ld h rfl ?_)) fun c => (by cases c)
      refine w_call (satsub_tri now c.at' hn hc.at') h fun r w h => ?_
      obtain ⟨hr, h⟩ := h.purP
      rw [hr]
      refine w_call (cends_tri b c _ lost fl up one) h fun r w h => ?_
      obtain ⟨hr, h⟩ := h.purP
      rw [hr, cE_B]
      refine w_ite (fun c1 => ?_) fun c1 => ?_
      · exact ⟨c1, h.fin⟩
      · have e : cU c now rtt lost fl up one = c := by unfold cU; rw [c1]; rfl
        rw [e]
        exact h.fin
end BbrQ

end Go.X
