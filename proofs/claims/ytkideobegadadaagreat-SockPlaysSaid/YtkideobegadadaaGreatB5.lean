/- Contracts and plain facts: BbrQ BbrN BbrO BbrU SockA. -/
import Derived.Test.YtkideobegadadaaGreatB0
import Derived.Test.YtkideobegadadaaGreatB1
import Derived.Test.YtkideobegadadaaGreatB2
import Derived.Test.YtkideobegadadaaGreatK
import Derived.Test.YtkideobegadadaaGreatF0
import Derived.Test.YtkideobegadadaaGreatF1
import Derived.Test.YtkideobegadadaaGreatF2
set_option linter.unusedVariables false
set_option linter.unusedSimpArgs false
set_option linter.unusedSectionVars false
namespace Go.X
open Go.Proofs
namespace BbrQ
open Arith ArithC _root_.Go.X.Target BbrM
theorem rnew_tri:Tri Tryz.prog N_rounds_New [] [.lf .ptr] emp (fun r=>ex fun n:Nat=>pur (r=some ⟨n,0⟩) (blk n (BbrLs.lsR ((Rnd.mk 0 0))))) :=
 tri_0 call_rounds_New fun w0 S R h=>by
  unfold W_rounds_New
  refine w_new h fun n w h=>?_
  exact Own.retE n (Own.retP rfl h.fin)
theorem pnew_tri:Tri Tryz.prog N_pipe_New [] [.lf .ptr] emp (fun r=>ex fun n:Nat=>pur (r=some ⟨n,0⟩) (blk n (BbrLs.lsP ((Pp.mk 0 0 false))))) :=
 tri_0 call_pipe_New fun w0 S R h=>by
  unfold W_pipe_New
  refine w_new h fun n w h=>?_
  exact Own.retE n (Own.retP rfl h.fin)
theorem cnew_tri:Tri Tryz.prog N_cycle_New [] [.lf .ptr] emp (fun r=>ex fun n:Nat=>pur (r=some ⟨n,0⟩) (blk n (BbrLs.lsC ((Cy.mk 0 0))))) :=
 tri_0 call_cycle_New fun w0 S R h=>by
  unfold W_cycle_New
  refine w_new h fun n w h=>?_
  exact Own.retE n (Own.retP rfl h.fin)
theorem bnew_tri:Tri Tryz.prog N_probe_New [] [.lf .ptr] emp (fun r=>ex fun n:Nat=>pur (r=some ⟨n,0⟩) (blk n (BbrLs.lsB ((Pb.mk 0 0 false 0 false))))) :=
 tri_0 call_probe_New fun w0 S R h=>by
  unfold W_probe_New
  refine w_new h fun n w h=>?_
  exact Own.retE n (Own.retP rfl h.fin)
theorem lnew_tri:Tri Tryz.prog N_policer_New [] [.lf .ptr] emp (fun r=>ex fun n:Nat=>pur (r=some ⟨n,0⟩) (blk n (BbrLs.lsL ((Pl.mk false false 0 0 0 0 0 0))))) :=
 tri_0 call_policer_New fun w0 S R h=>by
  unfold W_policer_New
  refine w_new h fun n w h=>?_
  exact Own.retE n (Own.retP rfl h.fin)
theorem count_tri (b:Nat) (r:Rnd):Tri Tryz.prog N_rounds_Rounds_Count [.lf (.ptr (some ⟨b,0⟩))] [.lf (.int .u64)] (blk b (BbrLs.lsR r)) (fun x=>pur (x=r.n) (blk b (BbrLs.lsR r))) :=
 tri_0 (call_rounds_Rounds_Count _) fun w0 S R h=>by
  unfold W_rounds_Rounds_Count
  refine w_ite (fun c=>(by cases c)) fun _=>w_deref (w_ld h rfl ?_)
  exact Own.retP rfl h.fin
theorem phase_tri (b:Nat) (c:Cy):Tri Tryz.prog N_cycle_Cycle_Phase [.lf (.ptr (some ⟨b,0⟩))] [.lf (.int .i64)] (blk b (BbrLs.lsC c)) (fun x=>pur (x=c.ph) (blk b (BbrLs.lsC c))) :=
 tri_0 (call_cycle_Cycle_Phase _) fun w0 S R h=>by
  unfold W_cycle_Cycle_Phase
  refine w_ite (fun c=>(by cases c)) fun _=>w_deref (w_ld h rfl ?_)
  exact Own.retP rfl h.fin
theorem full_tri (b:Nat) (p:Pp):Tri Tryz.prog N_pipe_Pipe_Full [.lf (.ptr (some ⟨b,0⟩))] [.lf .bool] (blk b (BbrLs.lsP p)) (fun x=>pur (x=p.full) (blk b (BbrLs.lsP p))) :=
 tri_0 (call_pipe_Pipe_Full _) fun w0 S R h=>by
  unfold W_pipe_Pipe_Full
  refine w_ite (fun _=>w_deref (w_ld h rfl ?_)) fun c=>(by cases c)
  exact Own.retP rfl h.fin
theorem bbest_tri (b:Nat) (v:Pb):Tri Tryz.prog N_probe_Probe_Best [.lf (.ptr (some ⟨b,0⟩))] [.lf (.int .u64)] (blk b (BbrLs.lsB v)) (fun x=>pur (x=v.best) (blk b (BbrLs.lsB v))) :=
 tri_0 (call_probe_Probe_Best _) fun w0 S R h=>by
  unfold W_probe_Probe_Best
  refine w_ite (fun c=>(by cases c)) fun _=>w_deref (w_ld h rfl ?_)
  exact Own.retP rfl h.fin
theorem gain_tri (b:Nat) (c:Cy):Tri Tryz.prog N_cycle_Cycle_Gain [.lf (.ptr (some ⟨b,0⟩))] [.lf (.int .u64)] (blk b (BbrLs.lsC c)) (fun x=>pur (x=cG c) (blk b (BbrLs.lsC c))) :=
 tri_0 (call_cycle_Cycle_Gain _) fun w0 S R h=>by
  unfold W_cycle_Cycle_Gain
  refine w_ite (fun _=>w_deref (w_ld h rfl ?_)) fun c=>(by cases c)
  refine w_ite (fun c1=>?_) fun c1=>?_
  ·exact Own.retP (by unfold cG;rw [if_pos (by simpa using c1)]) h.fin
  refine w_ite (fun c2=>?_) fun c2=>?_
  ·exact Own.retP (by unfold cG;rw [if_neg (by simpa using c1),if_pos (by simpa using c2)]) h.fin
  ·exact Own.retP (by unfold cG;rw [if_neg (by simpa using c1),if_neg (by simpa using c2)]) h.fin
theorem luse_tri (b:Nat) (q:Pl):Tri Tryz.prog N_policer_Policer_Use [.lf (.ptr (some ⟨b,0⟩))] [.lf (.int .u64),.lf .bool] (blk b (BbrLs.lsL q)) (fun x=>pur (x=(if q.use then q.bw else 0,q.use)) (blk b (BbrLs.lsL q))) :=
 tri_0 (call_policer_Policer_Use _) fun w0 S R h=>by
  unfold W_policer_Policer_Use
  refine w_join h (fun _=>blk b (BbrLs.lsL q)) (fun _=>q.use=true) (fun _ w hu h=>?_) ?_
  ·refine w_deref (w_ld h rfl ?_)
   exact Own.retP (by rw [hu];rfl) h
  ·refine w_ite (fun c=>(by cases c)) fun _=>w_deref (w_ld h rfl ?_)
   refine w_ite (fun c=>?_) fun c=>?_
   ·have c:q.use=false:=by simpa using c
    exact Own.retP (by rw [c];rfl) h
   ·exact ⟨by simpa using c,h⟩
theorem rupd_tri (b:Nat) (r:Rnd) (s:Sm):Tri Tryz.prog N_rounds_Rounds_Update [.lf (.ptr (some ⟨b,0⟩)),.agg (Ks.mk K_u8b s)] [.lf .bool] (blk b (BbrLs.lsR r)) (fun x=>pur (x=rB r s) (blk b (BbrLs.lsR ((rU r s))))) :=
 tri_0 (call_rounds_Rounds_Update _ _) fun w0 S R h=>by
  unfold W_rounds_Rounds_Update
  refine w_new h fun n w h=>?_
  refine w_loop (fun _:Bool=>blk n (Ks.mk K_u8b s)^blk b (BbrLs.lsR r)) (fun y:Bool=>y=false) (fun _=>0) h rfl ?_
  rintro (y:Bool) w hy h
  rw [hy]
  refine w_join h (fun _=>blk n (Ks.mk K_u8b s)^blk b (BbrLs.lsR r)) (fun _=>sAck s > 0) (fun _ w c1 h=>?_) ?_
  ·refine w_drw h fun w h=>w_ld h rfl (w_deref (w_ld h rfl ?_))
   refine w_ite (fun c2=>?_) fun c2=>?_
   ·have e:rB r s=false:=by unfold rB;simp at c2 ⊢;intro _;exact c2
    have e2:rU r s=r:=by unfold rU;rw [e];rfl
    rw [e2]
    exact Own.retP e.symm h.fin
   ·have e:rB r s=true:=by unfold rB;simp at c2 ⊢;exact ⟨c1,c2⟩
    have e2:rU r s=⟨IntKind.u64.wrap (r.n+1),sDel s⟩:=by unfold rU;rw [e];rfl
    rw [e2]
    refine w_ld h rfl (w_deref ?_)
    refine w_setTo h b [.int .u64 r.n,.int .u64 (sDel s)] rfl rfl rfl fun w h=>?_
    refine w_deref (w_ld h rfl (w_deref ?_))
    refine w_setTo h b [.int .u64 (IntKind.u64.wrap (r.n+1)),.int .u64 (sDel s)] rfl rfl rfl fun w h=>?_
    exact Own.retP e.symm h.fin
  ·refine w_ite (fun _=>w_ld h rfl ?_) fun c=>(by cases c)
   refine w_ite (fun c=>?_) fun c=>?_
   ·exact ⟨by simpa using c,h⟩
   ·have e:rB r s=false:=by unfold rB;rw [show decide (sAck s > 0)=false from c];rfl
    have e2:rU r s=r:=by unfold rU;rw [e];rfl
    rw [e2]
    exact Own.retP e.symm h.fin
theorem pupd_tri (b:Nat) (p:Pp) (hp:OkP p) (a l:Bool) (bw:Int) (hb:U bw):Tri Tryz.prog N_pipe_Pipe_Update [.lf (.ptr (some ⟨b,0⟩)),.lf (.bool a),.lf (.bool l),.lf (.int .u64 bw)] [.lf .bool] (blk b (BbrLs.lsP p)) (fun x=>pur (x=(pU p a l bw).full) (blk b (BbrLs.lsP ((pU p a l bw))))) :=
 tri_0 (call_pipe_Pipe_Update _ _ _ _) fun w0 S R h=>by
  unfold W_pipe_Pipe_Update
  refine w_join h (fun _=>blk b (BbrLs.lsP ((pU p a l bw)))) (fun _=>True) (fun _ w _ h=>?_) ?_
  ·refine w_call (full_tri b (pU p a l bw)) h fun r w h=>?_
   obtain ⟨hr,h⟩:=h.purP
   exact Own.retP hr h.fin
  refine w_loop (fun _:Unit=>blk b (BbrLs.lsP p)) (fun _:Unit=>True) (fun _=>0) h trivial ?_
  rintro _ w _ h
  refine w_join h (fun _=>blk b (BbrLs.lsP p)) (fun _=>(!p.full && a && !l)=true) (fun _ w c h=>?_) ?_
  ·refine w_deref (w_ld h rfl ?_)
   refine w_call (md_tri p.best 320 256 hp.best (U_lit _) (U_lit _)) h fun r w h=>?_
   obtain ⟨hr,h⟩:=h.purP
   rw [hr]
   refine w_ite (fun c2=>?_) fun c2=>?_
   ·have c2:bw ≥ mdI p.best 320 256:=by simpa using c2
    have e:pU p a l bw=⟨bw,0,p.full⟩:=by unfold pU;rw [if_pos c,if_pos c2]
    rw [e]
    refine w_deref (w_setTo h b [.int .u64 bw,.int .i64 p.n,.bool p.full] rfl rfl rfl fun w h=>?_)
    refine w_deref (w_setTo h b [.int .u64 bw,.int .i64 0,.bool p.full] rfl rfl rfl fun w h=>?_)
    exact ⟨trivial,h.fin⟩
   ·have c2:¬ bw ≥ mdI p.best 320 256:=by simpa using c2
    have e:pU p a l bw=⟨p.best,p.n+1,decide (p.n+1=3)⟩:=by unfold pU;rw [if_pos c,if_neg c2]
    rw [e]
    have hn:=hp.n
    refine w_deref (w_ld h rfl (w_deref ?_))
    rw [wi (n:=p.n+1) (by omega) (by omega)]
    refine w_setTo h b [.int .u64 p.best,.int .i64 (p.n+1),.bool p.full] rfl rfl rfl fun w h=>?_
    refine w_deref (w_ld h rfl (w_deref ?_))
    refine w_setTo h b [.int .u64 p.best,.int .i64 (p.n+1),.bool (decide (p.n+1=3))] rfl rfl rfl fun w h=>?_
    exact ⟨trivial,h.fin⟩
  ·refine w_ite (fun _=>w_deref (w_ld h rfl ?_)) fun c=>(by cases c)
   refine w_ite (fun c=>?_) fun c=>?_
   ·exact ⟨c,h⟩
   ·have e:pU p a l bw=p:=by unfold pU;rw [if_neg (by rw [c];simp)]
    rw [e]
    exact ⟨trivial,h⟩
theorem ph8 {ph:Int} (h0:0≤ph) (h1:ph≤1000):(IntKind.i64.wrap (ph.tmod 8+8)).tmod 8=ph % 8:=by
 rw [Int.tmod_eq_emod_of_nonneg h0,wi (by omega) (by omega),Int.tmod_eq_emod_of_nonneg (by omega)];omega
theorem cst_tri (b:Nat) (c:Cy) (now ph:Int) (h0:0≤ph) (h1:ph≤1000):Tri Tryz.prog N_cycle_Cycle_Start [.lf (.ptr (some ⟨b,0⟩)),.lf (.int .u64 now),.lf (.int .i64 ph)] [] (blk b (BbrLs.lsC c)) (fun _=>blk b (BbrLs.lsC ((cSt now ph)))) :=
 tri_0 (call_cycle_Cycle_Start _ _ _) fun w0 S R h=>by
  unfold W_cycle_Cycle_Start
  refine w_ite (fun _=>?_) fun c=>(by cases c)
  rw [ph8 h0 h1]
  refine w_deref (w_setTo h b [.int .i64 (ph % 8),.int .u64 c.at'] rfl rfl rfl fun w h=>?_)
  refine w_deref (w_setTo h b [.int .i64 (ph % 8),.int .u64 now] rfl rfl rfl fun w h=>?_)
  exact Own.keep (A:=blk b (BbrLs.lsC ((cSt now ph)))) h
def cE (c:Cy) (over:Bool) (lost fl up one:Int):Bool:=if c.ph=0 then over && (decide (lost > 0) || decide (fl ≥ up)) else if c.ph=1 then over || decide (fl≤one) else over
theorem cE_B (c:Cy) (now rtt lost fl up one:Int):cE c (decide (subI now c.at' > rtt)) lost fl up one=cB c now rtt lost fl up one:=rfl
theorem cends_tri (b:Nat) (c:Cy) (over:Bool) (lost fl up one:Int):Tri Tryz.prog N_cycle_Cycle_ends [.lf (.ptr (some ⟨b,0⟩)),.lf (.bool over),.lf (.int .u64 lost),.lf (.int .u64 fl),.lf (.int .u64 up),.lf (.int .u64 one)] [.lf .bool] (blk b (BbrLs.lsC c)) (fun x=>pur (x=cE c over lost fl up one) (blk b (BbrLs.lsC c))) :=
 tri_0 (call_cycle_Cycle_ends _ _ _ _ _ _) fun w0 S R h=>by
  unfold W_cycle_Cycle_ends
  refine w_deref (w_ld h rfl ?_)
  refine w_ite (fun c1=>?_) fun c1=>?_
  ·exact Own.retP (by unfold cE;rw [if_pos (by simpa using c1)]) h.fin
  refine w_ite (fun c2=>?_) fun c2=>?_
  ·exact Own.retP (by unfold cE;rw [if_neg (by simpa using c1),if_pos (by simpa using c2)]) h.fin
  ·exact Own.retP (by unfold cE;rw [if_neg (by simpa using c1),if_neg (by simpa using c2)]) h.fin
theorem cupd_tri (b:Nat) (c:Cy) (hc:OkC c) (now rtt lost fl up one:Int) (hn:U now):Tri Tryz.prog N_cycle_Cycle_Update [.lf (.ptr (some ⟨b,0⟩)),.lf (.int .u64 now),.lf (.int .u64 rtt),.lf (.int .u64 lost),.lf (.int .u64 fl),.lf (.int .u64 up),.lf (.int .u64 one)] [.lf .bool] (blk b (BbrLs.lsC c)) (fun x=>blk b (BbrLs.lsC ((cU c now rtt lost fl up one)))) :=
 tri_0 (call_cycle_Cycle_Update _ _ _ _ _ _ _) fun w0 S R h=>by
  unfold W_cycle_Cycle_Update
  refine w_loop (fun _:Bool=>blk b (BbrLs.lsC c)) (fun _:Bool=>True) (fun _=>0) h trivial ?_
  rintro _ w _ h
  refine w_join h (fun _=>blk b (BbrLs.lsC c)) (fun _=>cB c now rtt lost fl up one=true) (fun _ w c1 h=>?_) ?_
  ·have hp:=hc.ph
   refine w_deref (w_ld h rfl ?_)
   rw [wi (n:=c.ph+1) (by omega) (by omega)]
   refine w_call (cst_tri b c now (c.ph+1) (by omega) (by omega)) (h.le (star_emp _)) fun r w h=>?_
   have e:cU c now rtt lost fl up one=cSt now (c.ph+1):=by unfold cU;rw [if_pos c1]
   rw [e]
   exact h.keep
  ·refine w_ite (fun _=>w_deref (w_ld h rfl ?_)) fun c=>(by cases c)
   refine w_call (satsub_tri now c.at' hn hc.at') h fun r w h=>?_
   obtain ⟨hr,h⟩:=h.purP
   rw [hr]
   refine w_call (cends_tri b c _ lost fl up one) h fun r w h=>?_
   obtain ⟨hr,h⟩:=h.purP
   rw [hr,cE_B]
   refine w_ite (fun c1=>?_) fun c1=>?_
   ·exact ⟨c1,h.fin⟩
   ·have e:cU c now rtt lost fl up one=c:=by unfold cU;rw [c1];rfl
    rw [e]
    exact h.fin
end BbrQ

namespace BbrN
open Arith ArithC _root_.Go.X.Target BbrM BbrMm BbrP BbrW BbrQ BbrL
theorem new_tri (n:Int):Tri Tryz.prog N_bbr_New [.lf (.int .u64 n)] [.lf .ptr] emp (fun r=>ex fun x:Nat × Nat × Nat × Nat × Nat × Nat × Nat=>match x with | (b,n1,n2,n3,n4,n5,n6)=>pur (r=some ⟨b,0⟩) (blk b (BbrLs.lsM n1 n2 n3 n4 n5 n6 ((mNew n)))^blk n1 (BbrLs.lsW ((mNew n).w))^blk n2 (BbrLs.lsR ((mNew n).r))^blk n3 (BbrLs.lsP ((mNew n).p))^blk n4 (BbrLs.lsC ((mNew n).c))^blk n5 (BbrLs.lsB ((mNew n).b))^blk n6 (BbrLs.lsL ((mNew n).q)))) :=
 tri_0 (call_bbr_New _) fun w0 S R h=>by
  unfold W_bbr_New
  refine w_call (wnew_tri 10) h fun r w h=>?_
  obtain ⟨n1,h⟩:=h.exP;obtain ⟨hr,h⟩:=h.purP;rw [hr]
  refine w_call rnew_tri h fun r w h=>?_
  obtain ⟨n2,h⟩:=h.exP;obtain ⟨hr,h⟩:=h.purP;rw [hr]
  refine w_call pnew_tri h fun r w h=>?_
  obtain ⟨n3,h⟩:=h.exP;obtain ⟨hr,h⟩:=h.purP;rw [hr]
  refine w_call cnew_tri h fun r w h=>?_
  obtain ⟨n4,h⟩:=h.exP;obtain ⟨hr,h⟩:=h.purP;rw [hr]
  refine w_call bnew_tri h fun r w h=>?_
  obtain ⟨n5,h⟩:=h.exP;obtain ⟨hr,h⟩:=h.purP;rw [hr]
  refine w_call lnew_tri h fun r w h=>?_
  obtain ⟨n6,h⟩:=h.exP;obtain ⟨hr,h⟩:=h.purP;rw [hr]
  have hm:=mss_r n
  refine w_new h fun b w h=>?_
  change Own w0 S R w (blk b [.ptr (some ⟨n1,0⟩),.ptr (some ⟨n2,0⟩),.ptr (some ⟨n3,0⟩),.ptr (some ⟨n4,0⟩),.ptr (some ⟨n5,0⟩),.ptr (some ⟨n6,0⟩),.int .u64 (mMss n),.int .i64 0,.int .u64 0,.int .u64 0,.int .u64 0,.bool false,.bool false,.int .u64 0]^_) at h
  change deref _ (fun q8=>st _ [.int .u64 (IntKind.u64.wrap (10 * mMss n))] _) w
  rw [wu (n:=10 * mMss n) (by omega) (by omega)]
  refine w_deref (w_setTo h b [.ptr (some ⟨n1,0⟩),.ptr (some ⟨n2,0⟩),.ptr (some ⟨n3,0⟩),.ptr (some ⟨n4,0⟩),.ptr (some ⟨n5,0⟩),.ptr (some ⟨n6,0⟩),.int .u64 (mMss n),.int .i64 0,.int .u64 0,.int .u64 (10 * mMss n),.int .u64 0,.bool false,.bool false,.int .u64 0] rfl rfl rfl fun w h=>?_)
  refine w_deref (w_ld h rfl ?_)
  rw [wu (n:=10 * mMss n * 1000) (by omega) (by omega)]
  refine w_call (rate_tri (10 * mMss n * 1000) 739 ⟨by omega,by omega⟩ (U_lit _)) h fun r w h=>?_
  obtain ⟨hr,h⟩:=h.purP;rw [hr]
  refine w_deref (w_setTo h b (BbrLs.lsM n1 n2 n3 n4 n5 n6 ((mNew n))) rfl rfl rfl fun w h=>?_)
  exact Own.retE (b,n1,n2,n3,n4,n5,n6) (Own.retP rfl h.fin)
section
variable (b n1 n2 n3 n4 n5 n6 : Nat) (m : Md)
theorem bw_tri:Tri Tryz.prog N_bbr_Model_bw [.lf (.ptr (some ⟨b,0⟩))] [.lf (.int .u64)] (blk b (BbrLs.lsM n1 n2 n3 n4 n5 n6 m)^blk n1 (BbrLs.lsW m.w)^blk n2 (BbrLs.lsR m.r)^blk n3 (BbrLs.lsP m.p)^blk n4 (BbrLs.lsC m.c)^blk n5 (BbrLs.lsB m.b)^blk n6 (BbrLs.lsL m.q)) (fun r=>pur (r=mBw m) (blk b (BbrLs.lsM n1 n2 n3 n4 n5 n6 m)^blk n1 (BbrLs.lsW m.w)^blk n2 (BbrLs.lsR m.r)^blk n3 (BbrLs.lsP m.p)^blk n4 (BbrLs.lsC m.c)^blk n5 (BbrLs.lsB m.b)^blk n6 (BbrLs.lsL m.q))) :=
 tri_0 (call_bbr_Model_bw _) fun w0 S R h=>by
  unfold W_bbr_Model_bw
  repeat' (first
   | (refine w_drw h fun w h=>?_)
   | (refine w_deref ?_)
   | (refine w_ldAll h rfl ?_)
   | (refine w_ld h rfl ?_)
   | (refine w_chkAll h ?_)
   | (refine w_chk h rfl ?_)
   | (refine w_setAll h (by rfl) fun w h=>?_)
   | (refine w_new h fun n w h=>?_)
   | (refine w_leave h fun w h=>?_)
   | (refine w_set h rfl fun w h=>?_;dsimp only [upd,over] at h)
   | (refine w_call (luse_tri n6 m.q) h fun r w h=>?_;obtain ⟨hr,h⟩:=h.purP;(try dsimp only at hr h);try rw [hr]))
  refine w_ite (fun c=>?_) fun c=>?_
  ·have c:m.q.use=true:=c
   exact Own.retP (by unfold mBw;rw [c];rfl) h.fin
  ·have c:m.q.use=false:=c
   repeat' (first
    | (refine w_drw h fun w h=>?_)
    | (refine w_deref ?_)
    | (refine w_ldAll h rfl ?_)
    | (refine w_ld h rfl ?_)
    | (refine w_chkAll h ?_)
    | (refine w_chk h rfl ?_)
    | (refine w_setAll h (by rfl) fun w h=>?_)
    | (refine w_new h fun n w h=>?_)
    | (refine w_leave h fun w h=>?_)
    | (refine w_set h rfl fun w h=>?_;dsimp only [upd,over] at h)
    | (refine w_call (best_tri n1 m.w) h fun r w h=>?_;obtain ⟨hr,h⟩:=h.purP;(try dsimp only at hr h);try rw [hr]))
   exact Own.retP (by unfold mBw;rw [c];rfl) h.fin
theorem pol_tri:Tri Tryz.prog N_bbr_Model_policed [.lf (.ptr (some ⟨b,0⟩))] [.lf .bool] (blk b (BbrLs.lsM n1 n2 n3 n4 n5 n6 m)^blk n1 (BbrLs.lsW m.w)^blk n2 (BbrLs.lsR m.r)^blk n3 (BbrLs.lsP m.p)^blk n4 (BbrLs.lsC m.c)^blk n5 (BbrLs.lsB m.b)^blk n6 (BbrLs.lsL m.q)) (fun r=>pur (r=m.q.use) (blk b (BbrLs.lsM n1 n2 n3 n4 n5 n6 m)^blk n1 (BbrLs.lsW m.w)^blk n2 (BbrLs.lsR m.r)^blk n3 (BbrLs.lsP m.p)^blk n4 (BbrLs.lsC m.c)^blk n5 (BbrLs.lsB m.b)^blk n6 (BbrLs.lsL m.q))) :=
 tri_0 (call_bbr_Model_policed _) fun w0 S R h=>by
  unfold W_bbr_Model_policed
  repeat' (first
   | (refine w_drw h fun w h=>?_)
   | (refine w_deref ?_)
   | (refine w_ldAll h rfl ?_)
   | (refine w_ld h rfl ?_)
   | (refine w_chkAll h ?_)
   | (refine w_chk h rfl ?_)
   | (refine w_setAll h (by rfl) fun w h=>?_)
   | (refine w_new h fun n w h=>?_)
   | (refine w_leave h fun w h=>?_)
   | (refine w_set h rfl fun w h=>?_;dsimp only [upd,over] at h)
   | (refine w_call (luse_tri n6 m.q) h fun r w h=>?_;obtain ⟨hr,h⟩:=h.purP;(try dsimp only at hr h);try rw [hr]))
  exact Own.retP rfl h.fin
theorem gainm_tri:Tri Tryz.prog N_bbr_Model_gain [.lf (.ptr (some ⟨b,0⟩))] [.lf (.int .u64)] (blk b (BbrLs.lsM n1 n2 n3 n4 n5 n6 m)^blk n1 (BbrLs.lsW m.w)^blk n2 (BbrLs.lsR m.r)^blk n3 (BbrLs.lsP m.p)^blk n4 (BbrLs.lsC m.c)^blk n5 (BbrLs.lsB m.b)^blk n6 (BbrLs.lsL m.q)) (fun r=>pur (r=mGain m) (blk b (BbrLs.lsM n1 n2 n3 n4 n5 n6 m)^blk n1 (BbrLs.lsW m.w)^blk n2 (BbrLs.lsR m.r)^blk n3 (BbrLs.lsP m.p)^blk n4 (BbrLs.lsC m.c)^blk n5 (BbrLs.lsB m.b)^blk n6 (BbrLs.lsL m.q))) :=
 tri_0 (call_bbr_Model_gain _) fun w0 S R h=>by
  unfold W_bbr_Model_gain
  repeat' (first
   | (refine w_drw h fun w h=>?_)
   | (refine w_deref ?_)
   | (refine w_ldAll h rfl ?_)
   | (refine w_ld h rfl ?_)
   | (refine w_chkAll h ?_)
   | (refine w_chk h rfl ?_)
   | (refine w_setAll h (by rfl) fun w h=>?_)
   | (refine w_new h fun n w h=>?_)
   | (refine w_leave h fun w h=>?_)
   | (refine w_set h rfl fun w h=>?_;dsimp only [upd,over] at h))
  refine w_ite (fun c=>?_) fun c=>?_
  ·exact Own.retP (by unfold mGain;rw [if_pos (by simpa using c)]) h.fin
  repeat' (first
   | (refine w_drw h fun w h=>?_)
   | (refine w_deref ?_)
   | (refine w_ldAll h rfl ?_)
   | (refine w_ld h rfl ?_)
   | (refine w_chkAll h ?_)
   | (refine w_chk h rfl ?_)
   | (refine w_setAll h (by rfl) fun w h=>?_)
   | (refine w_new h fun n w h=>?_)
   | (refine w_leave h fun w h=>?_)
   | (refine w_set h rfl fun w h=>?_;dsimp only [upd,over] at h))
  refine w_ite (fun c2=>?_) fun c2=>?_
  ·exact Own.retP (by unfold mGain;rw [if_neg (by simpa using c),if_pos (by simpa using c2)]) h.fin
  have e:mGain m=if m.mode=2∧m.q.use=false then cG m.c else 256:=by unfold mGain;rw [if_neg (by simpa using c),if_neg (by simpa using c2)]
  rw [e]
  refine w_join h (fun _=>blk b (BbrLs.lsM n1 n2 n3 n4 n5 n6 m)^blk n1 (BbrLs.lsW m.w)^blk n2 (BbrLs.lsR m.r)^blk n3 (BbrLs.lsP m.p)^blk n4 (BbrLs.lsC m.c)^blk n5 (BbrLs.lsB m.b)^blk n6 (BbrLs.lsL m.q)) (fun y:Bool=>y=decide (m.mode=2∧m.q.use=false)) (fun (y:Bool) w hy h=>?_) ?_
  ·rw [hy]
   refine w_ite (fun c3=>?_) fun c3=>?_
   ·have c3:m.mode=2∧m.q.use=false:=by simpa using c3
    rw [if_pos c3]
    repeat' (first
     | (refine w_drw h fun w h=>?_)
     | (refine w_deref ?_)
     | (refine w_ldAll h rfl ?_)
     | (refine w_ld h rfl ?_)
     | (refine w_chkAll h ?_)
     | (refine w_chk h rfl ?_)
     | (refine w_setAll h (by rfl) fun w h=>?_)
     | (refine w_new h fun n w h=>?_)
     | (refine w_leave h fun w h=>?_)
     | (refine w_set h rfl fun w h=>?_;dsimp only [upd,over] at h)
     | (refine w_call (gain_tri n4 m.c) h fun r w h=>?_;obtain ⟨hr,h⟩:=h.purP;(try dsimp only at hr h);try rw [hr]))
    exact Own.retP rfl h.fin
   ·have c3:¬ (m.mode=2∧m.q.use=false):=by simpa using c3
    rw [if_neg c3]
    exact Own.retP rfl h.fin
  ·repeat' (first
    | (refine w_drw h fun w h=>?_)
    | (refine w_deref ?_)
    | (refine w_ldAll h rfl ?_)
    | (refine w_ld h rfl ?_)
    | (refine w_chkAll h ?_)
    | (refine w_chk h rfl ?_)
    | (refine w_setAll h (by rfl) fun w h=>?_)
    | (refine w_new h fun n w h=>?_)
    | (refine w_leave h fun w h=>?_)
    | (refine w_set h rfl fun w h=>?_;dsimp only [upd,over] at h))
   refine w_ite (fun c3=>?_) fun c3=>?_
   ·have c3:m.mode=2:=by simpa using c3
    repeat' (first
     | (refine w_drw h fun w h=>?_)
     | (refine w_deref ?_)
     | (refine w_ldAll h rfl ?_)
     | (refine w_ld h rfl ?_)
     | (refine w_chkAll h ?_)
     | (refine w_chk h rfl ?_)
     | (refine w_setAll h (by rfl) fun w h=>?_)
     | (refine w_new h fun n w h=>?_)
     | (refine w_leave h fun w h=>?_)
     | (refine w_set h rfl fun w h=>?_;dsimp only [upd,over] at h)
     | (refine w_call (pol_tri b n1 n2 n3 n4 n5 n6 m) h fun r w h=>?_;obtain ⟨hr,h⟩:=h.purP;(try dsimp only at hr h);try rw [hr]))
    exact ⟨by rw [Bool.eq_iff_iff];simp [c3],h.fin⟩
   ·have c3:¬ m.mode=2:=by simpa using c3
    exact ⟨by simp [c3],h.fin⟩
theorem wide_tri':Tri Tryz.prog N_bbr_Model_wideGain [.lf (.ptr (some ⟨b,0⟩))] [.lf (.int .u64)] (blk b (BbrLs.lsM n1 n2 n3 n4 n5 n6 m)^blk n1 (BbrLs.lsW m.w)^blk n2 (BbrLs.lsR m.r)^blk n3 (BbrLs.lsP m.p)^blk n4 (BbrLs.lsC m.c)^blk n5 (BbrLs.lsB m.b)^blk n6 (BbrLs.lsL m.q)) (fun r=>pur (r=mWide m) (blk b (BbrLs.lsM n1 n2 n3 n4 n5 n6 m)^blk n1 (BbrLs.lsW m.w)^blk n2 (BbrLs.lsR m.r)^blk n3 (BbrLs.lsP m.p)^blk n4 (BbrLs.lsC m.c)^blk n5 (BbrLs.lsB m.b)^blk n6 (BbrLs.lsL m.q))) :=
 tri_0 (call_bbr_Model_wideGain _) fun w0 S R h=>by
  unfold W_bbr_Model_wideGain
  repeat' (first
   | (refine w_drw h fun w h=>?_)
   | (refine w_deref ?_)
   | (refine w_ldAll h rfl ?_)
   | (refine w_ld h rfl ?_)
   | (refine w_chkAll h ?_)
   | (refine w_chk h rfl ?_)
   | (refine w_setAll h (by rfl) fun w h=>?_)
   | (refine w_new h fun n w h=>?_)
   | (refine w_leave h fun w h=>?_)
   | (refine w_set h rfl fun w h=>?_;dsimp only [upd,over] at h))
  refine w_ite (fun c=>?_) fun c=>?_
  ·exact Own.retP (by unfold mWide;rw [if_pos (by simpa using c)]) h.fin
  refine w_ite (fun c2=>?_) fun c2=>?_
  ·exact Own.retP (by unfold mWide;rw [if_neg (by simpa using c),if_pos (by simpa using c2)]) h.fin
  ·exact Own.retP (by unfold mWide;rw [if_neg (by simpa using c),if_neg (by simpa using c2)]) h.fin
theorem floor_tri (hm:OkM m):Tri Tryz.prog N_bbr_Model_floor [.lf (.ptr (some ⟨b,0⟩))] [.lf (.int .u64)] (blk b (BbrLs.lsM n1 n2 n3 n4 n5 n6 m)^blk n1 (BbrLs.lsW m.w)^blk n2 (BbrLs.lsR m.r)^blk n3 (BbrLs.lsP m.p)^blk n4 (BbrLs.lsC m.c)^blk n5 (BbrLs.lsB m.b)^blk n6 (BbrLs.lsL m.q)) (fun r=>pur (r=mFloor m) (blk b (BbrLs.lsM n1 n2 n3 n4 n5 n6 m)^blk n1 (BbrLs.lsW m.w)^blk n2 (BbrLs.lsR m.r)^blk n3 (BbrLs.lsP m.p)^blk n4 (BbrLs.lsC m.c)^blk n5 (BbrLs.lsB m.b)^blk n6 (BbrLs.lsL m.q))) :=
 tri_0 (call_bbr_Model_floor _) fun w0 S R h=>by
  unfold W_bbr_Model_floor
  repeat' (first
   | (refine w_drw h fun w h=>?_)
   | (refine w_deref ?_)
   | (refine w_ldAll h rfl ?_)
   | (refine w_ld h rfl ?_)
   | (refine w_chkAll h ?_)
   | (refine w_chk h rfl ?_)
   | (refine w_setAll h (by rfl) fun w h=>?_)
   | (refine w_new h fun n w h=>?_)
   | (refine w_leave h fun w h=>?_)
   | (refine w_set h rfl fun w h=>?_;dsimp only [upd,over] at h))
  have:=hm.mss
  exact Own.retP (wu (by omega) (by omega)) h.fin
theorem bdpm_tri (hm:OkM m) (g:Int) (hg:U g):Tri Tryz.prog N_bbr_Model_bdp [.lf (.ptr (some ⟨b,0⟩)),.lf (.int .u64 g)] [.lf (.int .u64)] (blk b (BbrLs.lsM n1 n2 n3 n4 n5 n6 m)^blk n1 (BbrLs.lsW m.w)^blk n2 (BbrLs.lsR m.r)^blk n3 (BbrLs.lsP m.p)^blk n4 (BbrLs.lsC m.c)^blk n5 (BbrLs.lsB m.b)^blk n6 (BbrLs.lsL m.q)) (fun r=>pur (r=mBdp m g) (blk b (BbrLs.lsM n1 n2 n3 n4 n5 n6 m)^blk n1 (BbrLs.lsW m.w)^blk n2 (BbrLs.lsR m.r)^blk n3 (BbrLs.lsP m.p)^blk n4 (BbrLs.lsC m.c)^blk n5 (BbrLs.lsB m.b)^blk n6 (BbrLs.lsL m.q))) :=
 tri_0 (call_bbr_Model_bdp _ _) fun w0 S R h=>by
  unfold W_bbr_Model_bdp
  have h:Own w0 S R w0 ((blk b (BbrLs.lsM n1 n2 n3 n4 n5 n6 m)^blk n1 (BbrLs.lsW m.w)^blk n2 (BbrLs.lsR m.r)^blk n3 (BbrLs.lsP m.p)^blk n4 (BbrLs.lsC m.c)^blk n5 (BbrLs.lsB m.b)^blk n6 (BbrLs.lsL m.q))^emp):=h.le (star_emp _)
  repeat' (first
   | (refine w_drw h fun w h=>?_)
   | (refine w_deref ?_)
   | (refine w_ldAll h rfl ?_)
   | (refine w_ld h rfl ?_)
   | (refine w_chkAll h ?_)
   | (refine w_chk h rfl ?_)
   | (refine w_setAll h (by rfl) fun w h=>?_)
   | (refine w_new h fun n w h=>?_)
   | (refine w_leave h fun w h=>?_)
   | (refine w_set h rfl fun w h=>?_;dsimp only [upd,over] at h)
   | (refine w_call (bw_tri b n1 n2 n3 n4 n5 n6 m) h fun r w h=>?_;obtain ⟨hr,h⟩:=h.purP;(try dsimp only at hr h);try rw [hr])
   | (refine w_call (bbest_tri n5 m.b) h fun r w h=>?_;obtain ⟨hr,h⟩:=h.purP;(try dsimp only at hr h);try rw [hr])
   | (refine w_call (bdp_tri (mBw m) m.b.best g hm.bw hm.b.best hg) h fun r w h=>?_;obtain ⟨hr,h⟩:=h.purP;(try dsimp only at hr h);try rw [hr]))
  exact Own.retP rfl h.fin
theorem cruise_tri (now:Int):Tri Tryz.prog N_bbr_Model_cruise [.lf (.ptr (some ⟨b,0⟩)),.lf (.int .u64 now)] [] (blk b (BbrLs.lsM n1 n2 n3 n4 n5 n6 m)^blk n1 (BbrLs.lsW m.w)^blk n2 (BbrLs.lsR m.r)^blk n3 (BbrLs.lsP m.p)^blk n4 (BbrLs.lsC m.c)^blk n5 (BbrLs.lsB m.b)^blk n6 (BbrLs.lsL m.q)) (fun _=>blk b (BbrLs.lsM n1 n2 n3 n4 n5 n6 ((mCruise m now)))^blk n1 (BbrLs.lsW ((mCruise m now).w))^blk n2 (BbrLs.lsR ((mCruise m now).r))^blk n3 (BbrLs.lsP ((mCruise m now).p))^blk n4 (BbrLs.lsC ((mCruise m now).c))^blk n5 (BbrLs.lsB ((mCruise m now).b))^blk n6 (BbrLs.lsL ((mCruise m now).q))) :=
 tri_0 (call_bbr_Model_cruise _ _) fun w0 S R h=>by
  unfold W_bbr_Model_cruise
  refine w_deref (w_setTo h b (BbrLs.lsM n1 n2 n3 n4 n5 n6 ((mCruise m now))) rfl rfl rfl fun w h=>?_)
  refine w_deref (w_ld h rfl ?_)
  refine w_call (cst_tri n4 m.c now 2 (by decide) (by decide)) h fun r w h=>?_
  show Own w0 S R w (blk b (BbrLs.lsM n1 n2 n3 n4 n5 n6 ((mCruise m now)))^blk n1 (BbrLs.lsW ((mCruise m now).w))^blk n2 (BbrLs.lsR ((mCruise m now).r))^blk n3 (BbrLs.lsP ((mCruise m now).p))^blk n4 (BbrLs.lsC ((mCruise m now).c))^blk n5 (BbrLs.lsB ((mCruise m now).b))^blk n6 (BbrLs.lsL ((mCruise m now).q)))
  exact h.fin
theorem back_tri:Tri Tryz.prog N_bbr_Model_back [.lf (.ptr (some ⟨b,0⟩))] [] (blk b (BbrLs.lsM n1 n2 n3 n4 n5 n6 m)^blk n1 (BbrLs.lsW m.w)^blk n2 (BbrLs.lsR m.r)^blk n3 (BbrLs.lsP m.p)^blk n4 (BbrLs.lsC m.c)^blk n5 (BbrLs.lsB m.b)^blk n6 (BbrLs.lsL m.q)) (fun _=>blk b (BbrLs.lsM n1 n2 n3 n4 n5 n6 ((mBack m)))^blk n1 (BbrLs.lsW ((mBack m).w))^blk n2 (BbrLs.lsR ((mBack m).r))^blk n3 (BbrLs.lsP ((mBack m).p))^blk n4 (BbrLs.lsC ((mBack m).c))^blk n5 (BbrLs.lsB ((mBack m).b))^blk n6 (BbrLs.lsL ((mBack m).q))) :=
 tri_0 (call_bbr_Model_back _) fun w0 S R h=>by
  unfold W_bbr_Model_back
  refine w_drw h fun w h=>w_deref (w_deref (w_ld h rfl (w_ld h rfl (w_deref ?_))))
  refine w_setTo h b (BbrLs.lsM n1 n2 n3 n4 n5 n6 ({ m with win:=if m.sav > m.win then m.sav else m.win })) rfl rfl rfl fun w h=>?_
  refine w_deref (w_setTo h b (BbrLs.lsM n1 n2 n3 n4 n5 n6 ((mBack m))) rfl rfl rfl fun w h=>?_)
  show Own w0 S R w (blk b (BbrLs.lsM n1 n2 n3 n4 n5 n6 ((mBack m)))^blk n1 (BbrLs.lsW ((mBack m).w))^blk n2 (BbrLs.lsR ((mBack m).r))^blk n3 (BbrLs.lsP ((mBack m).p))^blk n4 (BbrLs.lsC ((mBack m).c))^blk n5 (BbrLs.lsB ((mBack m).b))^blk n6 (BbrLs.lsL ((mBack m).q)))
  exact h.fin
theorem state_tri:Tri Tryz.prog N_bbr_Model_State [.lf (.ptr (some ⟨b,0⟩))] [.agg K_i2u6b2] (blk b (BbrLs.lsM n1 n2 n3 n4 n5 n6 m)^blk n1 (BbrLs.lsW m.w)^blk n2 (BbrLs.lsR m.r)^blk n3 (BbrLs.lsP m.p)^blk n4 (BbrLs.lsC m.c)^blk n5 (BbrLs.lsB m.b)^blk n6 (BbrLs.lsL m.q)) (fun r=>pur (r=mSt m) (blk b (BbrLs.lsM n1 n2 n3 n4 n5 n6 m)^blk n1 (BbrLs.lsW m.w)^blk n2 (BbrLs.lsR m.r)^blk n3 (BbrLs.lsP m.p)^blk n4 (BbrLs.lsC m.c)^blk n5 (BbrLs.lsB m.b)^blk n6 (BbrLs.lsL m.q))) :=
 tri_0 (call_bbr_Model_State _) fun w0 S R h=>by
  unfold W_bbr_Model_State
  refine w_new h fun x w h=>?_
  refine w_ite (fun c=>(by cases c)) fun _=>?_
  repeat' (first
   | (refine w_drw h fun w h=>?_)
   | (refine w_deref ?_)
   | (refine w_ldAll h rfl ?_)
   | (refine w_ld h rfl ?_)
   | (refine w_chkAll h ?_)
   | (refine w_chk h rfl ?_)
   | (refine w_setAll h (by rfl) fun w h=>?_)
   | (refine w_new h fun n w h=>?_)
   | (refine w_leave h fun w h=>?_)
   | (refine w_set h rfl fun w h=>?_;dsimp only [upd,over] at h)
   | (refine w_call (bw_tri b n1 n2 n3 n4 n5 n6 m) h fun r w h=>?_;obtain ⟨hr,h⟩:=h.purP;(try dsimp only at hr h);try rw [hr])
   | (refine w_call (bbest_tri n5 m.b) h fun r w h=>?_;obtain ⟨hr,h⟩:=h.purP;(try dsimp only at hr h);try rw [hr])
   | (refine w_call (gainm_tri b n1 n2 n3 n4 n5 n6 m) h fun r w h=>?_;obtain ⟨hr,h⟩:=h.purP;(try dsimp only at hr h);try rw [hr])
   | (refine w_call (count_tri n2 m.r) h fun r w h=>?_;obtain ⟨hr,h⟩:=h.purP;(try dsimp only at hr h);try rw [hr])
   | (refine w_call (phase_tri n4 m.c) h fun r w h=>?_;obtain ⟨hr,h⟩:=h.purP;(try dsimp only at hr h);try rw [hr])
   | (refine w_call (full_tri n3 m.p) h fun r w h=>?_;obtain ⟨hr,h⟩:=h.purP;(try dsimp only at hr h);try rw [hr])
   | (refine w_call (pol_tri b n1 n2 n3 n4 n5 n6 m) h fun r w h=>?_;obtain ⟨hr,h⟩:=h.purP;(try dsimp only at hr h);try rw [hr]))
  exact Own.retP rfl h.fin
end
end BbrN

namespace BbrO
open Arith ArithC _root_.Go.X.Target BbrM BbrMm BbrP BbrW BbrQ BbrL BbrN
section
variable (b n1 n2 n3 n4 n5 n6 : Nat) (m : Md) (hm : OkM m) (s : Sm) (hs : OkS s) (o : Bool)
include hm hs
theorem meas_tri:Tri Tryz.prog N_bbr_Model_measure [.lf (.ptr (some ⟨b,0⟩)),.agg (Ks.mk K_u8b s)] [] (blk b (BbrLs.lsM n1 n2 n3 n4 n5 n6 m)^blk n1 (BbrLs.lsW m.w)^blk n2 (BbrLs.lsR m.r)^blk n3 (BbrLs.lsP m.p)^blk n4 (BbrLs.lsC m.c)^blk n5 (BbrLs.lsB m.b)^blk n6 (BbrLs.lsL m.q)) (fun _=>blk b (BbrLs.lsM n1 n2 n3 n4 n5 n6 ((mMeas m s)))^blk n1 (BbrLs.lsW ((mMeas m s).w))^blk n2 (BbrLs.lsR ((mMeas m s).r))^blk n3 (BbrLs.lsP ((mMeas m s).p))^blk n4 (BbrLs.lsC ((mMeas m s).c))^blk n5 (BbrLs.lsB ((mMeas m s).b))^blk n6 (BbrLs.lsL ((mMeas m s).q))) :=
 tri_0 (call_bbr_Model_measure _ _) fun w0 S R h=>by
  unfold W_bbr_Model_measure
  refine w_new h fun x w h=>?_
  have h:Own w0 S R w ((blk b (BbrLs.lsM n1 n2 n3 n4 n5 n6 m)^blk n1 (BbrLs.lsW m.w)^blk n2 (BbrLs.lsR m.r)^blk n3 (BbrLs.lsP m.p)^blk n4 (BbrLs.lsC m.c)^blk n5 (BbrLs.lsB m.b)^blk n6 (BbrLs.lsL m.q))^blk x (Ks.mk K_u8b s)):=h.fin
  refine w_join h (fun _=>(blk b (BbrLs.lsM n1 n2 n3 n4 n5 n6 m)^blk n1 (BbrLs.lsW m.w)^blk n2 (BbrLs.lsR m.r)^blk n3 (BbrLs.lsP m.p)^blk n4 (BbrLs.lsC m.c)^blk n5 (BbrLs.lsB m.b)^blk n6 (BbrLs.lsL m.q))^blk x (Ks.mk K_u8b s)) (fun _=>¬ (sAck s=0∨sTim s=0)) (fun _ w c h=>?_) ?_
  ·repeat' (first
    | (refine w_drw h fun w h=>?_)
    | (refine w_deref ?_)
    | (refine w_ldAll h rfl ?_)
    | (refine w_ld h rfl ?_)
    | (refine w_chkAll h ?_)
    | (refine w_chk h rfl ?_)
    | (refine w_setAll h (by rfl) fun w h=>?_)
    | (refine w_new h fun n w h=>?_)
    | (refine w_leave h fun w h=>?_)
    | (refine w_set h rfl fun w h=>?_;dsimp only [upd,over] at h)
    | (refine w_call (satsub_tri (sDel s) (sPri s) hs.del hs.pri) h fun r w h=>?_;obtain ⟨hr,h⟩:=h.purP;(try dsimp only at hr h);try rw [hr])
    | (refine w_call (md_tri (subI (sDel s) (sPri s)) 1000000000 (sTim s) (U_sub hs.del hs.pri) (U_lit _) hs.tim) h fun r w h=>?_;obtain ⟨hr,h⟩:=h.purP;(try dsimp only at hr h);try rw [hr]))
   have hU:U (mK s):=U_md (U_sub hs.del hs.pri) (U_lit _) hs.tim
   refine w_join h (fun _=>(blk b (BbrLs.lsM n1 n2 n3 n4 n5 n6 m)^blk n1 (BbrLs.lsW m.w)^blk n2 (BbrLs.lsR m.r)^blk n3 (BbrLs.lsP m.p)^blk n4 (BbrLs.lsC m.c)^blk n5 (BbrLs.lsB m.b)^blk n6 (BbrLs.lsL m.q))^blk x (Ks.mk K_u8b s)) (fun y:Bool=>y=decide (sLim s=false∨mK s ≥ m.w.v0)) (fun (y:Bool) w hy h=>?_) ?_
   ·rw [hy]
    refine w_ite (fun c2=>?_) fun c2=>?_
    ·have c2:sLim s=false∨mK s ≥ m.w.v0:=by simpa using c2
     have e:mMeas m s={ m with w:=wUpd m.w m.r.n (mK s) }:=by unfold mMeas;rw [if_neg c,if_pos c2]
     rw [e]
     repeat' (first
      | (refine w_drw h fun w h=>?_)
      | (refine w_deref ?_)
      | (refine w_ldAll h rfl ?_)
      | (refine w_ld h rfl ?_)
      | (refine w_chkAll h ?_)
      | (refine w_chk h rfl ?_)
      | (refine w_setAll h (by rfl) fun w h=>?_)
      | (refine w_new h fun n w h=>?_)
      | (refine w_leave h fun w h=>?_)
      | (refine w_set h rfl fun w h=>?_;dsimp only [upd,over] at h)
      | (refine w_call (count_tri n2 m.r) h fun r w h=>?_;obtain ⟨hr,h⟩:=h.purP;(try dsimp only at hr h);try rw [hr])
      | (refine w_call (maxupd_tri n1 m.w hm.w m.r.n (mK s) hm.r.n hU) h fun r w h=>?_;obtain ⟨hr,h⟩:=h.purP;(try dsimp only at hr h);try rw [hr]))
     exact h.fin
    ·have c2:¬ (sLim s=false∨mK s ≥ m.w.v0):=by simpa using c2
     have e:mMeas m s=m:=by unfold mMeas;rw [if_neg c,if_neg c2]
     rw [e]
     exact h.fin
   ·repeat' (first
     | (refine w_drw h fun w h=>?_)
     | (refine w_deref ?_)
     | (refine w_ldAll h rfl ?_)
     | (refine w_ld h rfl ?_)
     | (refine w_chkAll h ?_)
     | (refine w_chk h rfl ?_)
     | (refine w_setAll h (by rfl) fun w h=>?_)
     | (refine w_new h fun n w h=>?_)
     | (refine w_leave h fun w h=>?_)
     | (refine w_set h rfl fun w h=>?_;dsimp only [upd,over] at h))
    refine w_ite (fun c2=>?_) fun c2=>?_
    ·have c2:sLim s=false:=by simpa using c2
     exact ⟨by simp [c2],h.fin⟩
    ·have c2:sLim s=true:=by simpa using c2
     repeat' (first
      | (refine w_drw h fun w h=>?_)
      | (refine w_deref ?_)
      | (refine w_ldAll h rfl ?_)
      | (refine w_ld h rfl ?_)
      | (refine w_chkAll h ?_)
      | (refine w_chk h rfl ?_)
      | (refine w_setAll h (by rfl) fun w h=>?_)
      | (refine w_new h fun n w h=>?_)
      | (refine w_leave h fun w h=>?_)
      | (refine w_set h rfl fun w h=>?_;dsimp only [upd,over] at h)
      | (refine w_call (best_tri n1 m.w) h fun r w h=>?_;obtain ⟨hr,h⟩:=h.purP;(try dsimp only at hr h);try rw [hr]))
     exact ⟨by rw [Bool.eq_iff_iff];simp [c2,mK],h.fin⟩
  ·repeat' (first
    | (refine w_drw h fun w h=>?_)
    | (refine w_deref ?_)
    | (refine w_ldAll h rfl ?_)
    | (refine w_ld h rfl ?_)
    | (refine w_chkAll h ?_)
    | (refine w_chk h rfl ?_)
    | (refine w_setAll h (by rfl) fun w h=>?_)
    | (refine w_new h fun n w h=>?_)
    | (refine w_leave h fun w h=>?_)
    | (refine w_set h rfl fun w h=>?_;dsimp only [upd,over] at h))
   refine w_ite (fun c=>?_) fun c=>?_
   ·have c:sAck s=0:=by simpa using c
    have e:mMeas m s=m:=by unfold mMeas;rw [if_pos (.inl c)]
    rw [e]
    exact h.fin
   repeat' (first
    | (refine w_drw h fun w h=>?_)
    | (refine w_deref ?_)
    | (refine w_ldAll h rfl ?_)
    | (refine w_ld h rfl ?_)
    | (refine w_chkAll h ?_)
    | (refine w_chk h rfl ?_)
    | (refine w_setAll h (by rfl) fun w h=>?_)
    | (refine w_new h fun n w h=>?_)
    | (refine w_leave h fun w h=>?_)
    | (refine w_set h rfl fun w h=>?_;dsimp only [upd,over] at h))
   have c:¬ sAck s=0:=by simpa using c
   refine w_ite (fun c2=>?_) fun c2=>?_
   ·have c2:sTim s=0:=by simpa using c2
    have e:mMeas m s=m:=by unfold mMeas;rw [if_pos (.inr c2)]
    rw [e]
    exact h.fin
   ·have c2:¬ sTim s=0:=by simpa using c2
    exact ⟨fun hh=>hh.elim c c2,h.fin⟩
theorem modes_tri:Tri Tryz.prog N_bbr_Model_modes [.lf (.ptr (some ⟨b,0⟩)),.agg (Ks.mk K_u8b s)] [] (blk b (BbrLs.lsM n1 n2 n3 n4 n5 n6 m)^blk n1 (BbrLs.lsW m.w)^blk n2 (BbrLs.lsR m.r)^blk n3 (BbrLs.lsP m.p)^blk n4 (BbrLs.lsC m.c)^blk n5 (BbrLs.lsB m.b)^blk n6 (BbrLs.lsL m.q)) (fun _=>blk b (BbrLs.lsM n1 n2 n3 n4 n5 n6 ((mM2 (mM1 m) s)))^blk n1 (BbrLs.lsW ((mM2 (mM1 m) s).w))^blk n2 (BbrLs.lsR ((mM2 (mM1 m) s).r))^blk n3 (BbrLs.lsP ((mM2 (mM1 m) s).p))^blk n4 (BbrLs.lsC ((mM2 (mM1 m) s).c))^blk n5 (BbrLs.lsB ((mM2 (mM1 m) s).b))^blk n6 (BbrLs.lsL ((mM2 (mM1 m) s).q))) :=
 tri_0 (call_bbr_Model_modes _ _) fun w0 S R h=>by
  unfold W_bbr_Model_modes
  refine w_new h fun x w h=>?_
  have h:Own w0 S R w ((blk b (BbrLs.lsM n1 n2 n3 n4 n5 n6 m)^blk n1 (BbrLs.lsW m.w)^blk n2 (BbrLs.lsR m.r)^blk n3 (BbrLs.lsP m.p)^blk n4 (BbrLs.lsC m.c)^blk n5 (BbrLs.lsB m.b)^blk n6 (BbrLs.lsL m.q))^blk x (Ks.mk K_u8b s)):=h.fin
  refine w_loopE (fun (_:Unit) (u:Md)=>(blk b (BbrLs.lsM n1 n2 n3 n4 n5 n6 u)^blk n1 (BbrLs.lsW u.w)^blk n2 (BbrLs.lsR u.r)^blk n3 (BbrLs.lsP u.p)^blk n4 (BbrLs.lsC u.c)^blk n5 (BbrLs.lsB u.b)^blk n6 (BbrLs.lsL u.q))^blk x (Ks.mk K_u8b s)) (fun _ u=>(OkM u∧mM1 u=mM1 m)) (fun _ u=>if u.mode=0 then 1 else 0) m h ⟨hm,rfl⟩ ?_
  rintro K _ u w ⟨hu,heq⟩ h hK
  rw [← heq]
  refine w_join h (fun _=>(blk b (BbrLs.lsM n1 n2 n3 n4 n5 n6 u)^blk n1 (BbrLs.lsW u.w)^blk n2 (BbrLs.lsR u.r)^blk n3 (BbrLs.lsP u.p)^blk n4 (BbrLs.lsC u.c)^blk n5 (BbrLs.lsB u.b)^blk n6 (BbrLs.lsL u.q))^blk x (Ks.mk K_u8b s)) (fun y:Bool=>y=decide (u.mode=0∧u.p.full=true)) (fun (y:Bool) w hy h=>?_) ?_
  ·rw [hy]
   refine w_ite (fun c=>?_) fun c=>?_
   ·have c:u.mode=0∧u.p.full=true:=by simpa using c
    refine w_deref (w_setTo h b (BbrLs.lsM n1 n2 n3 n4 n5 n6 ({ u with mode:=1 })) rfl rfl rfl fun w h=>?_)
    refine hK () { u with mode:=1 } w ⟨{ hu with mode:=by simp },?_⟩ h.fin ?_
    ·rw [← heq]
     have e1:mM1 u={ u with mode:=1 }:=by unfold mM1;rw [if_pos c]
     rw [e1]
     unfold mM1
     rw [if_neg (by simp)]
    ·rw [if_pos c.1,if_neg (by simp)];omega
   have c:¬ (u.mode=0∧u.p.full=true):=by simpa using c
   have e1:mM1 u=u:=by unfold mM1;rw [if_neg c]
   rw [e1]
   refine w_join h (fun _=>(blk b (BbrLs.lsM n1 n2 n3 n4 n5 n6 u)^blk n1 (BbrLs.lsW u.w)^blk n2 (BbrLs.lsR u.r)^blk n3 (BbrLs.lsP u.p)^blk n4 (BbrLs.lsC u.c)^blk n5 (BbrLs.lsB u.b)^blk n6 (BbrLs.lsL u.q))^blk x (Ks.mk K_u8b s)) (fun y:Bool=>y=decide (u.mode=1∧u.b.best > 0∧sFli s≤mBdp u 256)) (fun (y:Bool) w hy h=>?_) ?_
   ·rw [hy]
    refine w_ite (fun c2=>?_) fun c2=>?_
    ·have c2:u.mode=1∧u.b.best > 0∧sFli s≤mBdp u 256:=by simpa using c2
     have e:mM2 u s=mCruise u (sNow s):=by unfold mM2;rw [if_pos c2]
     rw [e]
     refine w_ld h rfl ?_
     refine w_call (cruise_tri b n1 n2 n3 n4 n5 n6 u (sNow s)) h fun _ w h=>?_
     exact h.fin
    ·have c2:¬ (u.mode=1∧u.b.best > 0∧sFli s≤mBdp u 256):=by simpa using c2
     have e:mM2 u s=u:=by unfold mM2;rw [if_neg c2]
     rw [e]
     exact h.fin
   ·repeat' (first
     | (refine w_drw h fun w h=>?_)
     | (refine w_deref ?_)
     | (refine w_ldAll h rfl ?_)
     | (refine w_ld h rfl ?_)
     | (refine w_chkAll h ?_)
     | (refine w_chk h rfl ?_)
     | (refine w_setAll h (by rfl) fun w h=>?_)
     | (refine w_new h fun n w h=>?_)
     | (refine w_leave h fun w h=>?_)
     | (refine w_set h rfl fun w h=>?_;dsimp only [upd,over] at h))
    refine w_ite (fun c2=>?_) fun c2=>?_
    ·have c2:u.mode=1:=by simpa using c2
     repeat' (first
      | (refine w_drw h fun w h=>?_)
      | (refine w_deref ?_)
      | (refine w_ldAll h rfl ?_)
      | (refine w_ld h rfl ?_)
      | (refine w_chkAll h ?_)
      | (refine w_chk h rfl ?_)
      | (refine w_setAll h (by rfl) fun w h=>?_)
      | (refine w_new h fun n w h=>?_)
      | (refine w_leave h fun w h=>?_)
      | (refine w_set h rfl fun w h=>?_;dsimp only [upd,over] at h)
      | (refine w_call (bbest_tri n5 u.b) h fun r w h=>?_;obtain ⟨hr,h⟩:=h.purP;(try dsimp only at hr h);try rw [hr]))
     refine w_ite (fun c3=>?_) fun c3=>?_
     ·have c3:u.b.best > 0:=by simpa using c3
      repeat' (first
       | (refine w_drw h fun w h=>?_)
       | (refine w_deref ?_)
       | (refine w_ldAll h rfl ?_)
       | (refine w_ld h rfl ?_)
       | (refine w_chkAll h ?_)
       | (refine w_chk h rfl ?_)
       | (refine w_setAll h (by rfl) fun w h=>?_)
       | (refine w_new h fun n w h=>?_)
       | (refine w_leave h fun w h=>?_)
       | (refine w_set h rfl fun w h=>?_;dsimp only [upd,over] at h)
       | (refine w_call (bdpm_tri b n1 n2 n3 n4 n5 n6 u hu 256 (U_lit _)) h fun r w h=>?_;obtain ⟨hr,h⟩:=h.purP;(try dsimp only at hr h);try rw [hr]))
      exact ⟨by rw [Bool.eq_iff_iff];simp [c2,c3],h.fin⟩
     ·have c3:¬ u.b.best > 0:=by simpa using c3
      exact ⟨by simp [c3],h.fin⟩
    ·have c2:¬ u.mode=1:=by simpa using c2
     exact ⟨by simp [c2],h.fin⟩
  ·repeat' (first
    | (refine w_drw h fun w h=>?_)
    | (refine w_deref ?_)
    | (refine w_ldAll h rfl ?_)
    | (refine w_ld h rfl ?_)
    | (refine w_chkAll h ?_)
    | (refine w_chk h rfl ?_)
    | (refine w_setAll h (by rfl) fun w h=>?_)
    | (refine w_new h fun n w h=>?_)
    | (refine w_leave h fun w h=>?_)
    | (refine w_set h rfl fun w h=>?_;dsimp only [upd,over] at h))
   refine w_ite (fun c=>?_) fun c=>?_
   ·have c:u.mode=0:=by simpa using c
    repeat' (first
     | (refine w_drw h fun w h=>?_)
     | (refine w_deref ?_)
     | (refine w_ldAll h rfl ?_)
     | (refine w_ld h rfl ?_)
     | (refine w_chkAll h ?_)
     | (refine w_chk h rfl ?_)
     | (refine w_setAll h (by rfl) fun w h=>?_)
     | (refine w_new h fun n w h=>?_)
     | (refine w_leave h fun w h=>?_)
     | (refine w_set h rfl fun w h=>?_;dsimp only [upd,over] at h)
     | (refine w_call (full_tri n3 u.p) h fun r w h=>?_;obtain ⟨hr,h⟩:=h.purP;(try dsimp only at hr h);try rw [hr]))
    exact ⟨by rw [Bool.eq_iff_iff];simp [c],h.fin⟩
   ·have c:¬ u.mode=0:=by simpa using c
    exact ⟨by simp [c],h.fin⟩
theorem look_tri:Tri Tryz.prog N_bbr_Model_look [.lf (.ptr (some ⟨b,0⟩)),.agg (Ks.mk K_u8b s),.lf (.bool o)] [] (blk b (BbrLs.lsM n1 n2 n3 n4 n5 n6 m)^blk n1 (BbrLs.lsW m.w)^blk n2 (BbrLs.lsR m.r)^blk n3 (BbrLs.lsP m.p)^blk n4 (BbrLs.lsC m.c)^blk n5 (BbrLs.lsB m.b)^blk n6 (BbrLs.lsL m.q)) (fun _=>blk b (BbrLs.lsM n1 n2 n3 n4 n5 n6 ((mLook m s o)))^blk n1 (BbrLs.lsW ((mLook m s o).w))^blk n2 (BbrLs.lsR ((mLook m s o).r))^blk n3 (BbrLs.lsP ((mLook m s o).p))^blk n4 (BbrLs.lsC ((mLook m s o).c))^blk n5 (BbrLs.lsB ((mLook m s o).b))^blk n6 (BbrLs.lsL ((mLook m s o).q))) :=
 tri_0 (call_bbr_Model_look _ _ _) fun w0 S R h=>by
  unfold W_bbr_Model_look
  refine w_new h fun x w h=>?_
  have h:Own w0 S R w ((blk b (BbrLs.lsM n1 n2 n3 n4 n5 n6 m)^blk n1 (BbrLs.lsW m.w)^blk n2 (BbrLs.lsR m.r)^blk n3 (BbrLs.lsP m.p)^blk n4 (BbrLs.lsC m.c)^blk n5 (BbrLs.lsB m.b)^blk n6 (BbrLs.lsL m.q))^blk x (Ks.mk K_u8b s)):=h.fin
  repeat' (first
   | (refine w_drw h fun w h=>?_)
   | (refine w_deref ?_)
   | (refine w_ldAll h rfl ?_)
   | (refine w_ld h rfl ?_)
   | (refine w_chkAll h ?_)
   | (refine w_chk h rfl ?_)
   | (refine w_setAll h (by rfl) fun w h=>?_)
   | (refine w_new h fun n w h=>?_)
   | (refine w_leave h fun w h=>?_)
   | (refine w_set h rfl fun w h=>?_;dsimp only [upd,over] at h)
   | (refine w_call (floor_tri b n1 n2 n3 n4 n5 n6 m hm) h fun r w h=>?_;obtain ⟨hr,h⟩:=h.purP;(try dsimp only at hr h);try rw [hr])
   | (refine w_call (bupd_tri n5 m.b hm.b (sNow s) (sRtt s) (sFli s) (mFloor m) o hs.now hs.rtt) h fun r w h=>?_;obtain ⟨hr,h⟩:=h.purP;(try dsimp only at hr h);try rw [hr]))
  have e:mLook m s o=mProbed { m with b:=(mPr m s o).2 } (mPr m s o).1 (sNow s):=rfl
  rw [e]
  have h:Own w0 S R w ((blk b (BbrLs.lsM n1 n2 n3 n4 n5 n6 (({ m with b:=(mPr m s o).2 })))^blk n1 (BbrLs.lsW (({ m with b:=(mPr m s o).2 }).w))^blk n2 (BbrLs.lsR (({ m with b:=(mPr m s o).2 }).r))^blk n3 (BbrLs.lsP (({ m with b:=(mPr m s o).2 }).p))^blk n4 (BbrLs.lsC (({ m with b:=(mPr m s o).2 }).c))^blk n5 (BbrLs.lsB (({ m with b:=(mPr m s o).2 }).b))^blk n6 (BbrLs.lsL (({ m with b:=(mPr m s o).2 }).q)))^blk x (Ks.mk K_u8b s)):=h.fin
  change ite' (mPr m s o).1.1 _ (ite' (mPr m s o).1.2 _ _) w
  generalize (mPr m s o).1=r at *
  generalize { m with b:=(mPr m s o).2 }=u at *
  refine w_ite (fun c=>?_) fun c=>?_
  ·have c:r.1=true:=c
   have e:mProbed u r (sNow s)={ u with sav:=if u.win > u.sav then u.win else u.sav,mode:=3 }:=by unfold mProbed;rw [if_pos c]
   rw [e]
   refine w_drw h fun w h=>w_deref (w_deref (w_ld h rfl (w_ld h rfl (w_deref ?_))))
   refine w_setTo h b (BbrLs.lsM n1 n2 n3 n4 n5 n6 ({ u with sav:=if u.win > u.sav then u.win else u.sav })) rfl rfl rfl fun w h=>?_
   refine w_deref (w_setTo h b (BbrLs.lsM n1 n2 n3 n4 n5 n6 ({ u with sav:=if u.win > u.sav then u.win else u.sav,mode:=3 })) rfl rfl rfl fun w h=>?_)
   exact h.fin
  have c:r.1=false:=c
  refine w_ite (fun c2=>?_) fun c2=>?_
  ·have c2:r.2=true:=c2
   have e:mProbed u r (sNow s)=if u.p.full then mCruise { mBack u with mode:=0 } (sNow s) else { mBack u with mode:=0 }:=by unfold mProbed;rw [if_neg (by rw [c];simp),if_pos c2]
   rw [e]
   refine w_call (back_tri b n1 n2 n3 n4 n5 n6 u) h fun _ w h=>?_
   refine w_deref (w_setTo h b (BbrLs.lsM n1 n2 n3 n4 n5 n6 ({ mBack u with mode:=0 })) rfl rfl rfl fun w h=>?_)
   refine w_deref (w_ld h rfl ?_)
   refine w_call (full_tri n3 u.p) h fun r w h=>?_
   obtain ⟨hr,h⟩:=h.purP;rw [hr]
   refine w_ite (fun c3=>?_) fun c3=>?_
   ·have c3:u.p.full=true:=c3
    rw [if_pos c3]
    refine w_ld h rfl ?_
    refine w_call (cruise_tri b n1 n2 n3 n4 n5 n6 { mBack u with mode:=0 } (sNow s)) h fun _ w h=>?_
    exact h.fin
   ·have c3:u.p.full=false:=c3
    rw [if_neg (by rw [c3];simp)]
    exact h.fin
  ·have c2:r.2=false:=c2
   have e:mProbed u r (sNow s)=u:=by unfold mProbed;rw [if_neg (by rw [c];simp),if_neg (by rw [c2];simp)]
   rw [e]
   exact h.fin
theorem rec_tri:Tri Tryz.prog N_bbr_Model_recover [.lf (.ptr (some ⟨b,0⟩)),.agg (Ks.mk K_u8b s),.lf (.bool o)] [] (blk b (BbrLs.lsM n1 n2 n3 n4 n5 n6 m)^blk n1 (BbrLs.lsW m.w)^blk n2 (BbrLs.lsR m.r)^blk n3 (BbrLs.lsP m.p)^blk n4 (BbrLs.lsC m.c)^blk n5 (BbrLs.lsB m.b)^blk n6 (BbrLs.lsL m.q)) (fun _=>blk b (BbrLs.lsM n1 n2 n3 n4 n5 n6 ((mRecover m s o)))^blk n1 (BbrLs.lsW ((mRecover m s o).w))^blk n2 (BbrLs.lsR ((mRecover m s o).r))^blk n3 (BbrLs.lsP ((mRecover m s o).p))^blk n4 (BbrLs.lsC ((mRecover m s o).c))^blk n5 (BbrLs.lsB ((mRecover m s o).b))^blk n6 (BbrLs.lsL ((mRecover m s o).q))) :=
 tri_0 (call_bbr_Model_recover _ _ _) fun w0 S R h=>by
  unfold W_bbr_Model_recover
  refine w_new h fun x w h=>?_
  have h:Own w0 S R w ((blk b (BbrLs.lsM n1 n2 n3 n4 n5 n6 m)^blk n1 (BbrLs.lsW m.w)^blk n2 (BbrLs.lsR m.r)^blk n3 (BbrLs.lsP m.p)^blk n4 (BbrLs.lsC m.c)^blk n5 (BbrLs.lsB m.b)^blk n6 (BbrLs.lsL m.q))^blk x (Ks.mk K_u8b s)):=h.fin
  refine w_join h (fun _=>(blk b (BbrLs.lsM n1 n2 n3 n4 n5 n6 m)^blk n1 (BbrLs.lsW m.w)^blk n2 (BbrLs.lsR m.r)^blk n3 (BbrLs.lsP m.p)^blk n4 (BbrLs.lsC m.c)^blk n5 (BbrLs.lsB m.b)^blk n6 (BbrLs.lsL m.q))^blk x (Ks.mk K_u8b s)) (fun y:Bool=>y=decide (sLost s > 0∧m.rec'=false)) (fun (y:Bool) w hy h=>?_) ?_
  ·rw [hy]
   refine w_ite (fun c=>?_) fun c=>?_
   ·have c:sLost s > 0∧m.rec'=false:=by simpa using c
    have e:mRecover m s o={ m with rec':=true,first:=true,til:=addI (sDel s) (sFli s),sav:=if m.win > m.sav then m.win else m.sav }:=by unfold mRecover;rw [if_pos c]
    rw [e]
    refine w_ld h rfl (w_ld h rfl ?_)
    refine w_call (satadd_tri (sDel s) (sFli s) hs.del hs.fli) (h.le ((star_comm _ _).trans (star_mono Le.rfl (star_emp _)))) fun r w h=>?_
    obtain ⟨hr,h⟩:=h.purP;rw [hr]
    refine w_deref (w_setTo h b (BbrLs.lsM n1 n2 n3 n4 n5 n6 ({ m with rec':=true })) rfl rfl rfl fun w h=>?_)
    refine w_deref (w_setTo h b (BbrLs.lsM n1 n2 n3 n4 n5 n6 ({ m with rec':=true,first:=true })) rfl rfl rfl fun w h=>?_)
    refine w_deref (w_setTo h b (BbrLs.lsM n1 n2 n3 n4 n5 n6 ({ m with rec':=true,first:=true,til:=addI (sDel s) (sFli s) })) rfl rfl rfl fun w h=>?_)
    refine w_drw h fun w h=>w_deref (w_deref (w_ld h rfl (w_ld h rfl (w_deref ?_))))
    refine w_setTo h b (BbrLs.lsM n1 n2 n3 n4 n5 n6 ({ m with rec':=true,first:=true,til:=addI (sDel s) (sFli s),sav:=if m.win > m.sav then m.win else m.sav })) rfl rfl rfl fun w h=>?_
    exact h.fin
   have c:¬ (sLost s > 0∧m.rec'=false):=by simpa using c
   refine w_deref (w_ld h rfl ?_)
   refine w_ite (fun c2=>?_) fun c2=>?_
   ·have c2:m.rec'=true:=c2
    have e:mRecover m s o=if sDel s < m.til then { m with first:=m.first && !o } else mOver { m with first:=m.first && !o }:=by unfold mRecover;rw [if_neg c,if_pos c2]
    rw [e]
    refine w_deref (w_ld h rfl (w_deref ?_))
    refine w_setTo h b (BbrLs.lsM n1 n2 n3 n4 n5 n6 ({ m with first:=m.first && !o })) rfl rfl rfl fun w h=>?_
    refine w_drw h fun w h=>w_ld h rfl (w_deref (w_ld h rfl ?_))
    refine w_ite (fun c3=>?_) fun c3=>?_
    ·have c3:sDel s < m.til:=by simpa using c3
     rw [if_pos c3]
     exact h.fin
    have c3:¬ sDel s < m.til:=by simpa using c3
    rw [if_neg c3]
    have h:Own w0 S R w ((blk b (BbrLs.lsM n1 n2 n3 n4 n5 n6 (({ m with first:=m.first && !o })))^blk n1 (BbrLs.lsW (({ m with first:=m.first && !o }).w))^blk n2 (BbrLs.lsR (({ m with first:=m.first && !o }).r))^blk n3 (BbrLs.lsP (({ m with first:=m.first && !o }).p))^blk n4 (BbrLs.lsC (({ m with first:=m.first && !o }).c))^blk n5 (BbrLs.lsB (({ m with first:=m.first && !o }).b))^blk n6 (BbrLs.lsL (({ m with first:=m.first && !o }).q)))^blk x (Ks.mk K_u8b s)):=h.fin
    generalize { m with first:=m.first && !o }=u at *
    refine w_deref (w_setTo h b (BbrLs.lsM n1 n2 n3 n4 n5 n6 ({ u with rec':=false })) rfl rfl rfl fun w h=>?_)
    refine w_deref (w_setTo h b (BbrLs.lsM n1 n2 n3 n4 n5 n6 ({ u with rec':=false,first:=false })) rfl rfl rfl fun w h=>?_)
    refine w_deref (w_ld h rfl ?_)
    refine w_ite (fun c4=>?_) fun c4=>?_
    ·have c4:u.mode≠3:=by simpa using c4
     have e:mOver u=mBack { u with rec':=false,first:=false }:=by unfold mOver;rw [if_pos c4]
     rw [e]
     refine w_call (back_tri b n1 n2 n3 n4 n5 n6 { u with rec':=false,first:=false }) h fun _ w h=>?_
     exact h.fin
    ·have c4:¬ u.mode≠3:=by simpa using c4
     have e:mOver u={ u with rec':=false,first:=false }:=by unfold mOver;rw [if_neg c4]
     rw [e]
     exact h.fin
   ·have c2:m.rec'=false:=c2
    have e:mRecover m s o=m:=by unfold mRecover;rw [if_neg c,if_neg (by rw [c2];simp)]
    rw [e]
    exact h.fin
  ·refine w_ld h rfl ?_
   refine w_ite (fun c=>?_) fun c=>?_
   ·have c:sLost s > 0:=by simpa using c
    refine w_deref (w_ld h rfl ?_)
    exact ⟨by rw [Bool.eq_iff_iff];simp [c],h⟩
   ·have c:¬ sLost s > 0:=by simpa using c
    exact ⟨by simp [c],h⟩
omit hs in
theorem pace_tri:Tri Tryz.prog N_bbr_Model_pace [.lf (.ptr (some ⟨b,0⟩))] [] (blk b (BbrLs.lsM n1 n2 n3 n4 n5 n6 m)^blk n1 (BbrLs.lsW m.w)^blk n2 (BbrLs.lsR m.r)^blk n3 (BbrLs.lsP m.p)^blk n4 (BbrLs.lsC m.c)^blk n5 (BbrLs.lsB m.b)^blk n6 (BbrLs.lsL m.q)) (fun _=>blk b (BbrLs.lsM n1 n2 n3 n4 n5 n6 ((mPace m)))^blk n1 (BbrLs.lsW ((mPace m).w))^blk n2 (BbrLs.lsR ((mPace m).r))^blk n3 (BbrLs.lsP ((mPace m).p))^blk n4 (BbrLs.lsC ((mPace m).c))^blk n5 (BbrLs.lsB ((mPace m).b))^blk n6 (BbrLs.lsL ((mPace m).q))) :=
 tri_0 (call_bbr_Model_pace _) fun w0 S R h=>by
  unfold W_bbr_Model_pace
  have h:Own w0 S R w0 ((blk b (BbrLs.lsM n1 n2 n3 n4 n5 n6 m)^blk n1 (BbrLs.lsW m.w)^blk n2 (BbrLs.lsR m.r)^blk n3 (BbrLs.lsP m.p)^blk n4 (BbrLs.lsC m.c)^blk n5 (BbrLs.lsB m.b)^blk n6 (BbrLs.lsL m.q))^emp):=h.le (star_emp _)
  repeat' (first
   | (refine w_drw h fun w h=>?_)
   | (refine w_deref ?_)
   | (refine w_ldAll h rfl ?_)
   | (refine w_ld h rfl ?_)
   | (refine w_chkAll h ?_)
   | (refine w_chk h rfl ?_)
   | (refine w_setAll h (by rfl) fun w h=>?_)
   | (refine w_new h fun n w h=>?_)
   | (refine w_leave h fun w h=>?_)
   | (refine w_set h rfl fun w h=>?_;dsimp only [upd,over] at h)
   | (refine w_call (bw_tri b n1 n2 n3 n4 n5 n6 m) h fun r w h=>?_;obtain ⟨hr,h⟩:=h.purP;(try dsimp only at hr h);try rw [hr]))
  refine w_ite (fun c=>?_) fun c=>?_
  ·have c:mBw m=0:=by simpa using c
   have e:mPace m=m:=by unfold mPace;rw [if_pos c]
   rw [e]
   exact h.fin
  have c:¬ mBw m=0:=by simpa using c
  repeat' (first
   | (refine w_drw h fun w h=>?_)
   | (refine w_deref ?_)
   | (refine w_ldAll h rfl ?_)
   | (refine w_ld h rfl ?_)
   | (refine w_chkAll h ?_)
   | (refine w_chk h rfl ?_)
   | (refine w_setAll h (by rfl) fun w h=>?_)
   | (refine w_new h fun n w h=>?_)
   | (refine w_leave h fun w h=>?_)
   | (refine w_set h rfl fun w h=>?_;dsimp only [upd,over] at h)
   | (refine w_call (bw_tri b n1 n2 n3 n4 n5 n6 m) h fun r w h=>?_;obtain ⟨hr,h⟩:=h.purP;(try dsimp only at hr h);try rw [hr])
   | (refine w_call (gainm_tri b n1 n2 n3 n4 n5 n6 m) h fun r w h=>?_;obtain ⟨hr,h⟩:=h.purP;(try dsimp only at hr h);try rw [hr])
   | (refine w_call (rate_tri (mBw m) (mGain m) hm.bw (U_gain m)) h fun r w h=>?_;obtain ⟨hr,h⟩:=h.purP;(try dsimp only at hr h);try rw [hr]))
  have e:mPace m=if m.p.full=true∨mRt m > m.rate then { m with rate:=mRt m } else m:=by unfold mPace;rw [if_neg c]
  rw [e]
  have h:Own w0 S R _ (blk b (BbrLs.lsM n1 n2 n3 n4 n5 n6 m)^blk n1 (BbrLs.lsW m.w)^blk n2 (BbrLs.lsR m.r)^blk n3 (BbrLs.lsP m.p)^blk n4 (BbrLs.lsC m.c)^blk n5 (BbrLs.lsB m.b)^blk n6 (BbrLs.lsL m.q)):=h.fin
  refine w_join h (fun _=>blk b (BbrLs.lsM n1 n2 n3 n4 n5 n6 m)^blk n1 (BbrLs.lsW m.w)^blk n2 (BbrLs.lsR m.r)^blk n3 (BbrLs.lsP m.p)^blk n4 (BbrLs.lsC m.c)^blk n5 (BbrLs.lsB m.b)^blk n6 (BbrLs.lsL m.q)) (fun y:Bool=>y=decide (m.p.full=true∨mRt m > m.rate)) (fun (y:Bool) w hy h=>?_) ?_
  ·rw [hy]
   refine w_ite (fun c2=>?_) fun c2=>?_
   ·have c2:m.p.full=true∨mRt m > m.rate:=by simpa using c2
    rw [if_pos c2]
    refine w_deref (w_setTo h b (BbrLs.lsM n1 n2 n3 n4 n5 n6 ({ m with rate:=mRt m })) rfl rfl rfl fun w h=>?_)
    exact h.fin
   ·have c2:¬ (m.p.full=true∨mRt m > m.rate):=by simpa using c2
    rw [if_neg c2]
    exact h.fin
  ·repeat' (first
    | (refine w_drw h fun w h=>?_)
    | (refine w_deref ?_)
    | (refine w_ldAll h rfl ?_)
    | (refine w_ld h rfl ?_)
    | (refine w_chkAll h ?_)
    | (refine w_chk h rfl ?_)
    | (refine w_setAll h (by rfl) fun w h=>?_)
    | (refine w_new h fun n w h=>?_)
    | (refine w_leave h fun w h=>?_)
    | (refine w_set h rfl fun w h=>?_;dsimp only [upd,over] at h)
    | (refine w_call (full_tri n3 m.p) h fun r w h=>?_;obtain ⟨hr,h⟩:=h.purP;(try dsimp only at hr h);try rw [hr]))
   refine w_ite (fun c2=>?_) fun c2=>?_
   ·have c2:m.p.full=true:=c2
    exact ⟨by simp [c2],h.fin⟩
   ·have c2:m.p.full=false:=c2
    repeat' (first
     | (refine w_drw h fun w h=>?_)
     | (refine w_deref ?_)
     | (refine w_ldAll h rfl ?_)
     | (refine w_ld h rfl ?_)
     | (refine w_chkAll h ?_)
     | (refine w_chk h rfl ?_)
     | (refine w_setAll h (by rfl) fun w h=>?_)
     | (refine w_new h fun n w h=>?_)
     | (refine w_leave h fun w h=>?_)
     | (refine w_set h rfl fun w h=>?_;dsimp only [upd,over] at h))
    exact ⟨by rw [Bool.eq_iff_iff];simp [c2,mRt],h.fin⟩
end
end BbrO

namespace BbrU
open Arith ArithC _root_.Go.X.Target BbrM BbrMm BbrP BbrW BbrQ BbrL BbrN BbrO
section
variable (b n1 n2 n3 n4 n5 n6 : Nat) (m : Md) (hm : OkM m) (s : Sm) (hs : OkS s) (tso : Int) (ht : U tso)
include hm hs ht
theorem window_tri:Tri Tryz.prog N_bbr_Model_window [.lf (.ptr (some ⟨b,0⟩)),.agg (Ks.mk K_u8b s),.lf (.int .u64 tso)] [] (blk b (BbrLs.lsM n1 n2 n3 n4 n5 n6 m)^blk n1 (BbrLs.lsW m.w)^blk n2 (BbrLs.lsR m.r)^blk n3 (BbrLs.lsP m.p)^blk n4 (BbrLs.lsC m.c)^blk n5 (BbrLs.lsB m.b)^blk n6 (BbrLs.lsL m.q)) (fun _=>blk b (BbrLs.lsM n1 n2 n3 n4 n5 n6 ((mWindow m s tso)))^blk n1 (BbrLs.lsW ((mWindow m s tso).w))^blk n2 (BbrLs.lsR ((mWindow m s tso).r))^blk n3 (BbrLs.lsP ((mWindow m s tso).p))^blk n4 (BbrLs.lsC ((mWindow m s tso).c))^blk n5 (BbrLs.lsB ((mWindow m s tso).b))^blk n6 (BbrLs.lsL ((mWindow m s tso).q))) :=
 tri_0 (call_bbr_Model_window _ _ _) fun w0 S R h=>by
  unfold W_bbr_Model_window
  refine w_new h fun x w h=>?_
  have h:Own w0 S R w ((blk b (BbrLs.lsM n1 n2 n3 n4 n5 n6 m)^blk n1 (BbrLs.lsW m.w)^blk n2 (BbrLs.lsR m.r)^blk n3 (BbrLs.lsP m.p)^blk n4 (BbrLs.lsC m.c)^blk n5 (BbrLs.lsB m.b)^blk n6 (BbrLs.lsL m.q))^blk x (Ks.mk K_u8b s)^emp):=h.fin
  refine w_drw h fun w h=>w_deref (w_ld h rfl (w_deref (w_ld h rfl (w_ld h rfl ?_))))
  refine w_call (satsub_tri m.win (sLost s) hm.win hs.lost) h fun r w h=>?_
  obtain ⟨hr,h⟩:=h.purP;rw [hr]
  refine w_chk h rfl ?_
  refine w_deref (w_setTo h b (BbrLs.lsM n1 n2 n3 n4 n5 n6 ((mW1 m s))) rfl rfl rfl fun w h=>?_)
  have e:mWindow m s tso=mW4 (mW3 (mW2 (mW1 m s) s tso)):=rfl
  rw [e]
  have h:Own w0 S R w ((blk b (BbrLs.lsM n1 n2 n3 n4 n5 n6 ((mW1 m s)))^blk n1 (BbrLs.lsW ((mW1 m s).w))^blk n2 (BbrLs.lsR ((mW1 m s).r))^blk n3 (BbrLs.lsP ((mW1 m s).p))^blk n4 (BbrLs.lsC ((mW1 m s).c))^blk n5 (BbrLs.lsB ((mW1 m s).b))^blk n6 (BbrLs.lsL ((mW1 m s).q)))^blk x (Ks.mk K_u8b s)):=h.fin
  have hu:=hm.w1 hs
  generalize mW1 m s=u at *
  refine w_join h (fun _=>(blk b (BbrLs.lsM n1 n2 n3 n4 n5 n6 ((mW2 u s tso)))^blk n1 (BbrLs.lsW ((mW2 u s tso).w))^blk n2 (BbrLs.lsR ((mW2 u s tso).r))^blk n3 (BbrLs.lsP ((mW2 u s tso).p))^blk n4 (BbrLs.lsC ((mW2 u s tso).c))^blk n5 (BbrLs.lsB ((mW2 u s tso).b))^blk n6 (BbrLs.lsL ((mW2 u s tso).q)))^blk x (Ks.mk K_u8b s)) (fun _=>True) (fun _ w _ h=>?_) ?_
  ·have hv:=hu.w2 hs ht
   generalize mW2 u s tso=v at *
   refine w_drw h fun w h=>w_deref (w_ld h rfl ?_)
   refine w_call (floor_tri b n1 n2 n3 n4 n5 n6 v hv) h fun r w h=>?_
   obtain ⟨hr,h⟩:=h.purP;rw [hr]
   refine w_chk h rfl ?_
   refine w_deref (w_setTo h b (BbrLs.lsM n1 n2 n3 n4 n5 n6 ((mW3 v))) rfl rfl rfl fun w h=>?_)
   refine w_deref (w_ld h rfl ?_)
   have h:Own w0 S R w ((blk b (BbrLs.lsM n1 n2 n3 n4 n5 n6 ((mW3 v)))^blk n1 (BbrLs.lsW ((mW3 v).w))^blk n2 (BbrLs.lsR ((mW3 v).r))^blk n3 (BbrLs.lsP ((mW3 v).p))^blk n4 (BbrLs.lsC ((mW3 v).c))^blk n5 (BbrLs.lsB ((mW3 v).b))^blk n6 (BbrLs.lsL ((mW3 v).q)))^blk x (Ks.mk K_u8b s)):=h.fin
   have hy:=hv.w3
   generalize mW3 v=y at *
   refine w_ite (fun c=>?_) fun c=>?_
   ·have c:y.mode=3:=by simpa using c
    have e:mW4 y={ y with win:=mFloor y }:=by unfold mW4;rw [if_pos c]
    rw [e]
    refine w_call (floor_tri b n1 n2 n3 n4 n5 n6 y hy) h fun r w h=>?_
    obtain ⟨hr,h⟩:=h.purP;rw [hr]
    refine w_deref (w_setTo h b (BbrLs.lsM n1 n2 n3 n4 n5 n6 ({ y with win:=mFloor y })) rfl rfl rfl fun w h=>?_)
    exact h.fin
   ·have c:¬ y.mode=3:=by simpa using c
    have e:mW4 y=y:=by unfold mW4;rw [if_neg c]
    rw [e]
    exact h.fin
  ·refine w_deref (w_ld h rfl ?_)
   refine w_ite (fun c=>?_) fun c=>?_
   ·have c:u.first=true:=c
    have e:mW2 u s tso={ u with win:=if addI (sFli s) (sAck s) > u.win then addI (sFli s) (sAck s) else u.win }:=by unfold mW2;rw [if_pos c]
    rw [e]
    refine w_drw h fun w h=>w_deref (w_ld h rfl (w_ld h rfl (w_ld h rfl ?_)))
    refine w_call (satadd_tri (sFli s) (sAck s) hs.fli hs.ack) (h.le (star_mono Le.rfl (star_emp _))) fun r w h=>?_
    obtain ⟨hr,h⟩:=h.purP;rw [hr]
    refine w_chk h rfl (w_deref ?_)
    refine w_setTo h b (BbrLs.lsM n1 n2 n3 n4 n5 n6 ({ u with win:=if addI (sFli s) (sAck s) > u.win then addI (sFli s) (sAck s) else u.win })) rfl rfl rfl fun w h=>?_
    exact ⟨trivial,h.fin⟩
   have c:¬ u.first=true:=by rw [show u.first=false from c];simp
   refine w_ld h rfl ?_
   refine w_ite (fun c2=>?_) fun c2=>?_
   ·have c2:sAck s > 0:=by simpa using c2
    have e:mW2 u s tso=if u.p.full then { u with win:=if mTar u tso < addI u.win (sAck s) then mTar u tso else addI u.win (sAck s) }
      else if u.win < mTar u tso∨sDel s < 10 * u.mss then { u with win:=addI u.win (sAck s) } else u:=by unfold mW2;rw [if_neg c,if_pos c2]
    rw [e]
    have h:Own w0 S R w ((blk b (BbrLs.lsM n1 n2 n3 n4 n5 n6 u)^blk n1 (BbrLs.lsW u.w)^blk n2 (BbrLs.lsR u.r)^blk n3 (BbrLs.lsP u.p)^blk n4 (BbrLs.lsC u.c)^blk n5 (BbrLs.lsB u.b)^blk n6 (BbrLs.lsL u.q))^blk x (Ks.mk K_u8b s)^emp):=h.le (star_mono Le.rfl (star_emp _))
    repeat' (first
     | (refine w_drw h fun w h=>?_)
     | (refine w_deref ?_)
     | (refine w_ldAll h rfl ?_)
     | (refine w_ld h rfl ?_)
     | (refine w_chkAll h ?_)
     | (refine w_chk h rfl ?_)
     | (refine w_setAll h (by rfl) fun w h=>?_)
     | (refine w_new h fun n w h=>?_)
     | (refine w_leave h fun w h=>?_)
     | (refine w_set h rfl fun w h=>?_;dsimp only [upd,over] at h)
     | (refine w_call (bw_tri b n1 n2 n3 n4 n5 n6 u) h fun r w h=>?_;obtain ⟨hr,h⟩:=h.purP;(try dsimp only at hr h);try rw [hr])
     | (refine w_call (bbest_tri n5 u.b) h fun r w h=>?_;obtain ⟨hr,h⟩:=h.purP;(try dsimp only at hr h);try rw [hr])
     | (refine w_call (wide_tri' b n1 n2 n3 n4 n5 n6 u) h fun r w h=>?_;obtain ⟨hr,h⟩:=h.purP;(try dsimp only at hr h);try rw [hr])
     | (refine w_call (Target.win_tri (mBw u) u.b.best (mWide u) tso u.mss hu.bw hu.b.best (U_wide u) ht hu.mssU) h fun r w h=>?_;obtain ⟨hr,h⟩:=h.purP;(try dsimp only at hr h);try rw [hr])
     | (refine w_call (full_tri n3 u.p) h fun r w h=>?_;obtain ⟨hr,h⟩:=h.purP;(try dsimp only at hr h);try rw [hr]))
    refine w_ite (fun c3=>?_) fun c3=>?_
    ·have c3:u.p.full=true:=c3
     rw [if_pos c3]
     refine w_drw h fun w h=>w_deref (w_ld h rfl (w_ld h rfl ?_))
     refine w_call (satadd_tri u.win (sAck s) hu.win hs.ack) h fun r w h=>?_
     obtain ⟨hr,h⟩:=h.purP;rw [hr]
     refine w_deref ?_
     refine w_setTo h b (BbrLs.lsM n1 n2 n3 n4 n5 n6 ({ u with win:=if mTar u tso < addI u.win (sAck s) then mTar u tso else addI u.win (sAck s) })) rfl rfl rfl fun w h=>?_
     exact ⟨trivial,h.fin⟩
    have c3:¬ u.p.full=true:=by rw [show u.p.full=false from c3];simp
    rw [if_neg c3]
    have hms:=hu.mss
    have h:Own w0 S R _ ((blk b (BbrLs.lsM n1 n2 n3 n4 n5 n6 u)^blk n1 (BbrLs.lsW u.w)^blk n2 (BbrLs.lsR u.r)^blk n3 (BbrLs.lsP u.p)^blk n4 (BbrLs.lsC u.c)^blk n5 (BbrLs.lsB u.b)^blk n6 (BbrLs.lsL u.q))^blk x (Ks.mk K_u8b s)^emp):=h.fin
    refine w_join h (fun _=>(blk b (BbrLs.lsM n1 n2 n3 n4 n5 n6 u)^blk n1 (BbrLs.lsW u.w)^blk n2 (BbrLs.lsR u.r)^blk n3 (BbrLs.lsP u.p)^blk n4 (BbrLs.lsC u.c)^blk n5 (BbrLs.lsB u.b)^blk n6 (BbrLs.lsL u.q))^blk x (Ks.mk K_u8b s)^emp) (fun y:Bool=>y=decide (u.win < mTar u tso∨sDel s < 10 * u.mss)) (fun (y:Bool) w hy h=>?_) ?_
    ·rw [hy]
     refine w_ite (fun c4=>?_) fun c4=>?_
     ·have c4:u.win < mTar u tso∨sDel s < 10 * u.mss:=by simpa using c4
      rw [if_pos c4]
      refine w_drw h fun w h=>w_deref (w_ld h rfl (w_ld h rfl ?_))
      refine w_call (satadd_tri u.win (sAck s) hu.win hs.ack) h fun r w h=>?_
      obtain ⟨hr,h⟩:=h.purP;rw [hr]
      refine w_deref ?_
      refine w_setTo h b (BbrLs.lsM n1 n2 n3 n4 n5 n6 ({ u with win:=addI u.win (sAck s) })) rfl rfl rfl fun w h=>?_
      exact ⟨trivial,h.fin⟩
     ·have c4:¬ (u.win < mTar u tso∨sDel s < 10 * u.mss):=by simpa using c4
      rw [if_neg c4]
      exact ⟨trivial,h.fin⟩
    ·refine w_drw h fun w h=>w_deref (w_ld h rfl ?_)
     refine w_ite (fun c4=>?_) fun c4=>?_
     ·have c4:u.win < mTar u tso:=of_decide_eq_true c4
      exact ⟨by simp [c4],h⟩
     ·have c4:¬ u.win < mTar u tso:=of_decide_eq_false c4
      refine w_ld h rfl (w_deref (w_ld h rfl ?_))
      rw [wu (n:=10 * u.mss) (by omega) (by omega)]
      exact ⟨by rw [Bool.eq_iff_iff];simp [c4],h⟩
   ·have c2:¬ sAck s > 0:=by simpa using c2
    have e:mW2 u s tso=u:=by unfold mW2;rw [if_neg c,if_neg c2]
    rw [e]
    exact ⟨trivial,h⟩
theorem upd_tri:Tri Tryz.prog N_bbr_Model_Update [.lf (.ptr (some ⟨b,0⟩)),.agg (Ks.mk K_u8b s),.lf (.int .u64 tso)] [.agg K_i2u6b2] (blk b (BbrLs.lsM n1 n2 n3 n4 n5 n6 m)^blk n1 (BbrLs.lsW m.w)^blk n2 (BbrLs.lsR m.r)^blk n3 (BbrLs.lsP m.p)^blk n4 (BbrLs.lsC m.c)^blk n5 (BbrLs.lsB m.b)^blk n6 (BbrLs.lsL m.q)) (fun r=>pur (r=mSt (mUpd m s tso)) (blk b (BbrLs.lsM n1 n2 n3 n4 n5 n6 ((mUpd m s tso)))^blk n1 (BbrLs.lsW ((mUpd m s tso).w))^blk n2 (BbrLs.lsR ((mUpd m s tso).r))^blk n3 (BbrLs.lsP ((mUpd m s tso).p))^blk n4 (BbrLs.lsC ((mUpd m s tso).c))^blk n5 (BbrLs.lsB ((mUpd m s tso).b))^blk n6 (BbrLs.lsL ((mUpd m s tso).q)))) :=
 tri_0 (call_bbr_Model_Update _ _ _) fun w0 S R h=>by
  unfold W_bbr_Model_Update
  refine w_new h fun x w h=>?_
  refine w_new h fun y w h=>?_
  refine w_ite (fun c=>(by cases c)) fun _=>?_
  have h:Own w0 S R w ((blk b (BbrLs.lsM n1 n2 n3 n4 n5 n6 m)^blk n1 (BbrLs.lsW m.w)^blk n2 (BbrLs.lsR m.r)^blk n3 (BbrLs.lsP m.p)^blk n4 (BbrLs.lsC m.c)^blk n5 (BbrLs.lsB m.b)^blk n6 (BbrLs.lsL m.q))^blk x (Ks.mk K_u8b s)^blk y [.int .i64 0,.int .i64 0,.int .u64 0,.int .u64 0,.int .u64 0,.int .u64 0,.int .u64 0,.int .u64 0,.bool false,.bool false]):=h.fin
  refine w_drw h fun w h=>w_ldAll (x:=s) h rfl (w_deref (w_ld h rfl ?_))
  refine w_call (rupd_tri n2 m.r s) h fun r w h=>?_
  obtain ⟨hr,h⟩:=h.purP;rw [hr]
  refine w_drw h fun w h=>w_ldAll (x:=s) h rfl (w_deref (w_ld h rfl ?_))
  refine w_call (lupd_tri n6 m.q hm.q (rB m.r s) s hs) h fun _ w h=>?_
  refine w_ldAll (x:=s) h rfl ?_
  have e:mUpd m s tso=mU3 (mU2 (mU1 m s) (rB m.r s) s) (rB m.r s) s tso:=rfl
  rw [e]
  have h:Own w0 S R w ((blk b (BbrLs.lsM n1 n2 n3 n4 n5 n6 ((mU1 m s)))^blk n1 (BbrLs.lsW ((mU1 m s).w))^blk n2 (BbrLs.lsR ((mU1 m s).r))^blk n3 (BbrLs.lsP ((mU1 m s).p))^blk n4 (BbrLs.lsC ((mU1 m s).c))^blk n5 (BbrLs.lsB ((mU1 m s).b))^blk n6 (BbrLs.lsL ((mU1 m s).q)))^blk x (Ks.mk K_u8b s)^blk y [.int .i64 0,.int .i64 0,.int .u64 0,.int .u64 0,.int .u64 0,.int .u64 0,.int .u64 0,.int .u64 0,.bool false,.bool false]):=h.fin
  have h1:=hm.u1 hs
  generalize rB m.r s=o at *
  generalize mU1 m s=u at *
  refine w_call (meas_tri b n1 n2 n3 n4 n5 n6 u h1 s hs) h fun _ w h=>?_
  have h2:=h1.meas hs
  have e:mU2 u o s=mLook (mM2 (mM1 (mPipe (mCyc (mMeas u s) s) o s)) s) s o:=rfl
  rw [e]
  generalize mMeas u s=v at *
  have h:Own w0 S R w ((blk b (BbrLs.lsM n1 n2 n3 n4 n5 n6 v)^blk n1 (BbrLs.lsW v.w)^blk n2 (BbrLs.lsR v.r)^blk n3 (BbrLs.lsP v.p)^blk n4 (BbrLs.lsC v.c)^blk n5 (BbrLs.lsB v.b)^blk n6 (BbrLs.lsL v.q))^blk x (Ks.mk K_u8b s)^blk y [.int .i64 0,.int .i64 0,.int .u64 0,.int .u64 0,.int .u64 0,.int .u64 0,.int .u64 0,.int .u64 0,.bool false,.bool false]):=h.fin
  refine w_join h (fun _=>(blk b (BbrLs.lsM n1 n2 n3 n4 n5 n6 ((mCyc v s)))^blk n1 (BbrLs.lsW ((mCyc v s).w))^blk n2 (BbrLs.lsR ((mCyc v s).r))^blk n3 (BbrLs.lsP ((mCyc v s).p))^blk n4 (BbrLs.lsC ((mCyc v s).c))^blk n5 (BbrLs.lsB ((mCyc v s).b))^blk n6 (BbrLs.lsL ((mCyc v s).q)))^blk x (Ks.mk K_u8b s)^blk y [.int .i64 0,.int .i64 0,.int .u64 0,.int .u64 0,.int .u64 0,.int .u64 0,.int .u64 0,.int .u64 0,.bool false,.bool false]) (fun _=>True) (fun _ w _ h=>?_) ?_
  ·have h3:=h2.cyc hs
   generalize mCyc v s=z at *
   repeat' (first
    | (refine w_drw h fun w h=>?_)
    | (refine w_deref ?_)
    | (refine w_ldAll h rfl ?_)
    | (refine w_ld h rfl ?_)
    | (refine w_chkAll h ?_)
    | (refine w_chk h rfl ?_)
    | (refine w_setAll h (by rfl) fun w h=>?_)
    | (refine w_new h fun n w h=>?_)
    | (refine w_leave h fun w h=>?_)
    | (refine w_set h rfl fun w h=>?_;dsimp only [upd,over] at h)
    | (refine w_call (best_tri n1 z.w) h fun r w h=>?_;obtain ⟨hr,h⟩:=h.purP;(try dsimp only at hr h);try rw [hr])
    | (refine w_call (pupd_tri n3 z.p h3.p o (sLim s) z.w.v0 h3.w.v0) h fun r w h=>?_;obtain ⟨hr,h⟩:=h.purP;(try dsimp only at hr h);try rw [hr]))
   have h4:OkM (mPipe z o s):=h3.pipe
   have h:Own w0 S R _ ((blk b (BbrLs.lsM n1 n2 n3 n4 n5 n6 ((mPipe z o s)))^blk n1 (BbrLs.lsW ((mPipe z o s).w))^blk n2 (BbrLs.lsR ((mPipe z o s).r))^blk n3 (BbrLs.lsP ((mPipe z o s).p))^blk n4 (BbrLs.lsC ((mPipe z o s).c))^blk n5 (BbrLs.lsB ((mPipe z o s).b))^blk n6 (BbrLs.lsL ((mPipe z o s).q)))^blk x (Ks.mk K_u8b s)^blk y [.int .i64 0,.int .i64 0,.int .u64 0,.int .u64 0,.int .u64 0,.int .u64 0,.int .u64 0,.int .u64 0,.bool false,.bool false]):=h.fin
   generalize mPipe z o s=a at *
   refine w_call (modes_tri b n1 n2 n3 n4 n5 n6 a h4 s hs) h fun _ w h=>?_
   have h5:=h4.m1.m2 hs
   generalize mM2 (mM1 a) s=a at *
   refine w_ldAll (x:=s) h rfl ?_
   refine w_call (look_tri b n1 n2 n3 n4 n5 n6 a h5 s hs o) h fun _ w h=>?_
   have h6:OkM (mLook a s o):=h5.look hs
   generalize mLook a s o=a at *
   refine w_call (pace_tri b n1 n2 n3 n4 n5 n6 a h6) h fun _ w h=>?_
   have e:mU3 a o s tso=mWindow (mRecover (mPace a) s o) s tso:=rfl
   rw [e]
   have h7:=h6.pace
   generalize mPace a=a at *
   refine w_ldAll (x:=s) h rfl ?_
   refine w_call (rec_tri b n1 n2 n3 n4 n5 n6 a h7 s hs o) h fun _ w h=>?_
   have h8:OkM (mRecover a s o):=h7.recover hs
   generalize mRecover a s o=a at *
   refine w_ldAll (x:=s) h rfl ?_
   refine w_call (window_tri b n1 n2 n3 n4 n5 n6 a h8 s hs tso ht) h fun _ w h=>?_
   generalize mWindow a s tso=a at *
   refine w_call (state_tri b n1 n2 n3 n4 n5 n6 a) h fun r w h=>?_
   obtain ⟨hr,h⟩:=h.purP;rw [hr]
   refine w_setAll h (by rfl) fun w h=>?_
   refine w_ldAll (x:=mSt a) h rfl ?_
   exact Own.retP rfl h.fin
  ·refine w_join h (fun _=>(blk b (BbrLs.lsM n1 n2 n3 n4 n5 n6 v)^blk n1 (BbrLs.lsW v.w)^blk n2 (BbrLs.lsR v.r)^blk n3 (BbrLs.lsP v.p)^blk n4 (BbrLs.lsC v.c)^blk n5 (BbrLs.lsB v.b)^blk n6 (BbrLs.lsL v.q))^blk x (Ks.mk K_u8b s)^blk y [.int .i64 0,.int .i64 0,.int .u64 0,.int .u64 0,.int .u64 0,.int .u64 0,.int .u64 0,.int .u64 0,.bool false,.bool false]) (fun y:Bool=>y=decide (v.mode=2∧v.q.use=false)) (fun (y:Bool) w hy h=>?_) ?_
   ·rw [hy]
    refine w_ite (fun c=>?_) fun c=>?_
    ·have c:v.mode=2∧v.q.use=false:=by simpa using c
     have e:mCyc v s={ v with c:=cU v.c (sNow s) v.b.best (sLost s) (sFli s) (mBdp v 320) (mBdp v 256) }:=by unfold mCyc;rw [if_pos c]
     rw [e]
     repeat' (first
      | (refine w_drw h fun w h=>?_)
      | (refine w_deref ?_)
      | (refine w_ldAll h rfl ?_)
      | (refine w_ld h rfl ?_)
      | (refine w_chkAll h ?_)
      | (refine w_chk h rfl ?_)
      | (refine w_setAll h (by rfl) fun w h=>?_)
      | (refine w_new h fun n w h=>?_)
      | (refine w_leave h fun w h=>?_)
      | (refine w_set h rfl fun w h=>?_;dsimp only [upd,over] at h)
      | (refine w_call (bbest_tri n5 v.b) h fun r w h=>?_;obtain ⟨hr,h⟩:=h.purP;(try dsimp only at hr h);try rw [hr])
      | (refine w_call (bdpm_tri b n1 n2 n3 n4 n5 n6 v h2 320 (U_lit _)) h fun r w h=>?_;obtain ⟨hr,h⟩:=h.purP;(try dsimp only at hr h);try rw [hr])
      | (refine w_call (bdpm_tri b n1 n2 n3 n4 n5 n6 v h2 256 (U_lit _)) h fun r w h=>?_;obtain ⟨hr,h⟩:=h.purP;(try dsimp only at hr h);try rw [hr]))
     refine w_call (cupd_tri n4 v.c h2.c (sNow s) v.b.best (sLost s) (sFli s) (mBdp v 320) (mBdp v 256) hs.now) h fun _ w h=>?_
     exact ⟨trivial,h.fin⟩
    ·have c:¬ (v.mode=2∧v.q.use=false):=by simpa using c
     have e:mCyc v s=v:=by unfold mCyc;rw [if_neg c]
     rw [e]
     exact ⟨trivial,h.fin⟩
   ·repeat' (first
     | (refine w_drw h fun w h=>?_)
     | (refine w_deref ?_)
     | (refine w_ldAll h rfl ?_)
     | (refine w_ld h rfl ?_)
     | (refine w_chkAll h ?_)
     | (refine w_chk h rfl ?_)
     | (refine w_setAll h (by rfl) fun w h=>?_)
     | (refine w_new h fun n w h=>?_)
     | (refine w_leave h fun w h=>?_)
     | (refine w_set h rfl fun w h=>?_;dsimp only [upd,over] at h))
    refine w_ite (fun c=>?_) fun c=>?_
    ·have c:v.mode=2:=by simpa using c
     repeat' (first
      | (refine w_drw h fun w h=>?_)
      | (refine w_deref ?_)
      | (refine w_ldAll h rfl ?_)
      | (refine w_ld h rfl ?_)
      | (refine w_chkAll h ?_)
      | (refine w_chk h rfl ?_)
      | (refine w_setAll h (by rfl) fun w h=>?_)
      | (refine w_new h fun n w h=>?_)
      | (refine w_leave h fun w h=>?_)
      | (refine w_set h rfl fun w h=>?_;dsimp only [upd,over] at h)
      | (refine w_call (pol_tri b n1 n2 n3 n4 n5 n6 v) h fun r w h=>?_;obtain ⟨hr,h⟩:=h.purP;(try dsimp only at hr h);try rw [hr]))
     exact ⟨by rw [Bool.eq_iff_iff];simp [c],h.fin⟩
    ·have c:¬ v.mode=2:=by simpa using c
     exact ⟨by simp [c],h.fin⟩
end
end BbrU

namespace SockA
open Arith ArithC
abbrev Bf:=Int × Int × Int × Int
abbrev KBf:Ks:=[.int .u64,.int .u64,.int .u64,.int .u64]
abbrev bW (b:Bf):Int:=b.1
abbrev bN (b:Bf):Int:=b.2.1
abbrev bU (b:Bf):Int:=b.2.2.1
abbrev bL (b:Bf):Int:=b.2.2.2
structure OkBf (b:Bf):Prop where
 u:0≤bU b
 un:bU b≤bN b
 nw:bN b≤bW b
 l:bW b - bU b≤bL b
 ll:bL b≤1073741824
 w:bW b≤4611686018427387904
def wrF (b:Bf) (n:Int):Int × Bf:=if n < 1 then (1,b) else if n > bL b - (bW b - bU b) then (5,b) else (0,(bW b+n,bN b,bU b,bL b))
def tkF (b:Bf) (most:Int):((Int × Int) × Bool) × Bf:=if most ≥ 1∧bW b - bN b≠0 then (((bN b,bN b+min (bW b - bN b) most),true),(bW b,bN b+min (bW b - bN b) most,bU b,bL b)) else (((0,0),false),b)
def akF (b:Bf) (upto:Int):Int × Bf:=if upto > bN b then (11,b) else (0,(bW b,bN b,if upto > bU b then upto else bU b,bL b))
theorem OkBf.ak {b:Bf} (h:OkBf b) (upto:Int):OkBf (akF b upto).2:=by
 have h1:=h.u
 have h2:=h.un
 have h3:=h.nw
 have h4:=h.l
 unfold akF
 split
 ·exact h
 ·refine ⟨?_,?_,h3,?_,h.ll,h.w⟩
  ·show 0≤if upto > bU b then upto else bU b
   split<;>omega
  ·show (if upto > bU b then upto else bU b)≤bN b
   split<;>omega
  ·show bW b - (if upto > bU b then upto else bU b)≤bL b
   split<;>omega
theorem bnew_tri (n:Int):Tri Tryz.prog N_buffer_New [.lf (.int .i64 n)] [.lf .ptr] emp (fun r=>ex fun p:Nat=>pur (r=some ⟨p,0⟩) (blk p (Ks.mk KBf (0,0,0,IntKind.u64.wrap (if (1073741824:Int) < (if (0:Int) > n then (0:Int) else n) then (1073741824:Int) else (if (0:Int) > n then (0:Int) else n)))))) :=
 tri_0 (call_buffer_New n) fun w0 S R h=>by
  unfold W_buffer_New
  refine w_new h fun p w h=>?_
  exact Own.retE p (Own.retP rfl h.keep)
theorem bunsent_tri (p:Nat) (b:Bf) (hb:OkBf b):Tri Tryz.prog N_buffer_Buffer_Unsent [.lf (.ptr (some ⟨p,0⟩))] [.lf (.int .u64)] (blk p (Ks.mk KBf b)) (fun r=>pur (r=bW b - bN b) (blk p (Ks.mk KBf b))) :=
 tri_0 (call_buffer_Buffer_Unsent (some ⟨p,0⟩)) fun w0 S R h=>by
  unfold W_buffer_Buffer_Unsent
  have h2:=hb.un
  have h3:=hb.nw
  have h4:=hb.u
  have h5:=hb.w
  refine w_ite (fun c=>(by simp at c)) fun _=>w_drw h fun w h=>w_deref (w_deref (w_ld h rfl (w_ld h rfl ?_)))
  exact Own.retP (wu (n:=bW b - bN b) (by omega) (by omega)) h
theorem bheld_tri (p:Nat) (b:Bf) (hb:OkBf b):Tri Tryz.prog N_buffer_Buffer_Held [.lf (.ptr (some ⟨p,0⟩))] [.lf (.int .u64)] (blk p (Ks.mk KBf b)) (fun r=>pur (r=bW b - bU b) (blk p (Ks.mk KBf b))) :=
 tri_0 (call_buffer_Buffer_Held (some ⟨p,0⟩)) fun w0 S R h=>by
  unfold W_buffer_Buffer_Held
  have h2:=hb.un
  have h3:=hb.nw
  have h4:=hb.u
  have h5:=hb.w
  refine w_ite (fun c=>(by simp at c)) fun _=>w_drw h fun w h=>w_deref (w_deref (w_ld h rfl (w_ld h rfl ?_)))
  exact Own.retP (wu (n:=bW b - bU b) (by omega) (by omega)) h
theorem bwrite_tri (p:Nat) (b:Bf) (hb:OkBf b) (n:Int) (hn:n < 9223372036854775808):Tri Tryz.prog N_buffer_Buffer_Write [.lf (.ptr (some ⟨p,0⟩)),.lf (.int .i64 n)] [.lf (.int .i64)] (blk p (Ks.mk KBf b)) (fun r=>pur (r=(wrF b n).1) (blk p (Ks.mk KBf (wrF b n).2))) :=
 tri_0 (call_buffer_Buffer_Write (some ⟨p,0⟩) n) fun w0 S R h=>by
  unfold W_buffer_Buffer_Write
  have h1:=hb.un
  have h2:=hb.nw
  have h3:=hb.u
  have h4:=hb.l
  have h5:=hb.ll
  have h6:=hb.w
  refine w_ite (fun c=>(by simp at c)) fun _=>w_ite (fun c=>?_) fun c=>?_
  ·have c:n < 1:=of_decide_eq_true c
   have e:wrF b n=(1,b):=by unfold wrF;rw [if_pos c]
   rw [e]
   exact Own.retP rfl h
  have c:¬ n < 1:=of_decide_eq_false c
  refine w_drw h fun w h=>w_deref (w_ld h rfl (w_call (bheld_tri p b hb) h fun r w h=>?_))
  obtain ⟨hr,h⟩:=h.purP;rw [hr]
  refine w_chk h rfl (w_ite (fun c2=>?_) fun c2=>?_)
  ·have c2:=of_decide_eq_true c2
   have c2:IntKind.u64.wrap n > IntKind.u64.wrap (bL b - (bW b - bU b)):=c2
   rw [wu (n:=n) (by omega) (by omega),wu (n:=bL b - (bW b - bU b)) (by omega) (by omega)] at c2
   have e:wrF b n=(5,b):=by unfold wrF;rw [if_neg c,if_pos c2]
   rw [e]
   exact Own.retP rfl h.fin
  ·have c2:=of_decide_eq_false c2
   have c2:¬ IntKind.u64.wrap n > IntKind.u64.wrap (bL b - (bW b - bU b)):=c2
   rw [wu (n:=n) (by omega) (by omega),wu (n:=bL b - (bW b - bU b)) (by omega) (by omega)] at c2
   have e:wrF b n=(0,(bW b+n,bN b,bU b,bL b)):=by unfold wrF;rw [if_neg c,if_neg c2]
   rw [e]
   have ew:IntKind.u64.wrap (bW b+IntKind.u64.wrap n)=bW b+n:=by rw [wu (n:=n) (by omega) (by omega)];exact wu (by omega) (by omega)
   refine w_deref (w_ld h rfl (w_deref ?_))
   rw [show IntKind.u64.wrap (b.1+IntKind.u64.wrap n)=bW b+n from ew]
   refine w_setTo h p (Ks.mk KBf (bW b+n,bN b,bU b,bL b)) rfl rfl rfl fun w h=>?_
   exact Own.retP rfl h.fin
theorem btake_tri (p:Nat) (b:Bf) (hb:OkBf b) (most:Int) (hm:most < 9223372036854775808):Tri Tryz.prog N_buffer_Buffer_Take [.lf (.ptr (some ⟨p,0⟩)),.lf (.int .i64 most)] [.agg [.int .u64,.int .u64],.lf .bool] (blk p (Ks.mk KBf b)) (fun r=>pur (r=(tkF b most).1) (blk p (Ks.mk KBf (tkF b most).2))) :=
 tri_0 (call_buffer_Buffer_Take (some ⟨p,0⟩) most) fun w0 S R h=>by
  unfold W_buffer_Buffer_Take
  have h1:=hb.un
  have h2:=hb.nw
  have h3:=hb.u
  have h6:=hb.w
  refine w_new h fun n1 w h=>w_new h fun n2 w h=>w_setAll h (by rfl) fun w h=>?_
  refine w_join h (fun _=>blk n1 [.int .u64 0,.int .u64 0]^blk n2 [.int .u64 (tkF b most).1.1.1,.int .u64 (tkF b most).1.1.2]^blk p (Ks.mk KBf (tkF b most).2)) (fun y:Bool=>y=(tkF b most).1.2) (fun (y:Bool) w hy h=>?_) ?_
  ·refine w_ldAll (b:=n2) (x:=(tkF b most).1.1) h rfl (w_setAll h (by rfl) fun w h=>w_ldAll (b:=n1) (x:=(tkF b most).1.1) h rfl ?_)
   refine Own.retP ?_ h.fin
   rw [hy]
  ·have no:∀ {w:World},¬ (most ≥ 1∧bW b - bN b≠0)→Own w0 S R w (blk n1 [.int .u64 0,.int .u64 0]^blk n2 [.int .u64 0,.int .u64 0]^blk p (Ks.mk KBf b))→(fun y:Bool=>y=(tkF b most).1.2) false∧Own w0 S R w (blk n1 [.int .u64 0,.int .u64 0]^blk n2 [.int .u64 (tkF b most).1.1.1,.int .u64 (tkF b most).1.1.2]^blk p (Ks.mk KBf (tkF b most).2)):=fun {w} c h=>by
    have e:tkF b most=(((0,0),false),b):=by unfold tkF;rw [if_neg c]
    rw [e]
    exact ⟨rfl,h⟩
   have h:Own w0 S R w (blk n1 [.int .u64 0,.int .u64 0]^blk n2 [.int .u64 0,.int .u64 0]^blk p (Ks.mk KBf b)):=h.fin
   refine w_loop (fun _:Bool=>blk n1 [.int .u64 0,.int .u64 0]^blk n2 [.int .u64 0,.int .u64 0]^blk p (Ks.mk KBf b)) (fun y:Bool=>y=false) (fun _=>0) h rfl ?_
   rintro (y:Bool) w hy h
   rw [hy]
   refine w_ite (fun c=>?_) fun c=>?_
   ·have c:most ≥ 1:=of_decide_eq_true c
    refine w_call (bunsent_tri p b hb) h fun r w h=>?_
    obtain ⟨hr,h⟩:=h.purP;rw [hr]
    have ek:(if bW b - bN b < IntKind.u64.wrap most then bW b - bN b else IntKind.u64.wrap most)=min (bW b - bN b) most:=by
     rw [wu (n:=most) (by omega) (by omega)]
     split<;>omega
    rw [ek]
    refine w_ite (fun c2=>?_) fun c2=>?_
    ·have c2:min (bW b - bN b) most=0:=by simpa using c2
     exact no (by omega) h.fin
    ·have c2:¬ min (bW b - bN b) most=0:=by simpa using c2
     have e:tkF b most=(((bN b,bN b+min (bW b - bN b) most),true),(bW b,bN b+min (bW b - bN b) most,bU b,bL b)):=by unfold tkF;rw [if_pos ⟨c,by omega⟩]
     have ew:IntKind.u64.wrap (bN b+min (bW b - bN b) most)=bN b+min (bW b - bN b) most:=wu (by omega) (by omega)
     rw [e]
     refine w_drw h fun w h=>w_deref (w_deref (w_ld h rfl (w_ld h rfl ?_)))
     rw [show IntKind.u64.wrap (b.2.1+min (bW b - bN b) most)=bN b+min (bW b - bN b) most from ew]
     refine w_setAll h (by rfl) fun w h=>w_deref (w_ld h rfl (w_deref ?_))
     rw [show IntKind.u64.wrap (b.2.1+min (bW b - bN b) most)=bN b+min (bW b - bN b) most from ew]
     refine w_setTo h p (Ks.mk KBf (bW b,bN b+min (bW b - bN b) most,bU b,bL b)) rfl rfl rfl fun w h=>?_
     exact ⟨rfl,h.fin⟩
   ·have c:¬ most ≥ 1:=of_decide_eq_false c
    exact no (fun x=>c x.1) h
theorem backed_tri (p:Nat) (b:Bf) (upto:Int):Tri Tryz.prog N_buffer_Buffer_Acked [.lf (.ptr (some ⟨p,0⟩)),.lf (.int .u64 upto)] [.lf (.int .i64)] (blk p (Ks.mk KBf b)) (fun r=>pur (r=(akF b upto).1) (blk p (Ks.mk KBf (akF b upto).2))) :=
 tri_0 (call_buffer_Buffer_Acked (some ⟨p,0⟩) upto) fun w0 S R h=>by
  unfold W_buffer_Buffer_Acked
  refine w_ite (fun c=>(by simp at c)) fun _=>w_deref (w_ld h rfl (w_ite (fun c=>?_) fun c=>?_))
  ·have c:upto > bN b:=of_decide_eq_true c
   have e:akF b upto=(11,b):=by unfold akF;rw [if_pos c]
   rw [e]
   exact Own.retP rfl h
  ·have c:¬ upto > bN b:=of_decide_eq_false c
   have e:akF b upto=(0,(bW b,bN b,if upto > bU b then upto else bU b,bL b)):=by unfold akF;rw [if_neg c]
   rw [e]
   refine w_deref (w_ld h rfl (w_deref (w_setTo h p (Ks.mk KBf (bW b,bN b,if upto > bU b then upto else bU b,bL b)) rfl rfl rfl fun w h=>?_)))
   exact Own.retP rfl h.fin
end SockA

end Go.X
