/- Contracts and plain facts: BbrL BbrN BbrO BbrU. -/
import Derived.Test.YtniflenfpbbikaaGreatB0
import Derived.Test.YtniflenfpbbikaaGreatB1
import Derived.Test.YtniflenfpbbikaaGreatB5
import Derived.Test.YtniflenfpbbikaaGreatK
import Derived.Test.YtniflenfpbbikaaGreatF0
import Derived.Test.YtniflenfpbbikaaGreatF1
import Derived.Test.YtniflenfpbbikaaGreatF2
set_option linter.unusedVariables false
set_option linter.unusedSimpArgs false
set_option linter.unusedSectionVars false
namespace Go.X
open Go.Proofs
namespace BbrL
open Arith ArithC _root_.Go.X.Target BbrM
theorem blv_tri (b:Nat) (v:Pb) (now fl floor:Int) (st:Bool) (hn:U now):Tri Tryz.prog N_probe_Probe_leaves [.lf (.ptr (some ⟨b,0⟩)),.lf (.int .u64 now),.lf (.bool st),.lf (.int .u64 fl),.lf (.int .u64 floor)] [.lf .bool] (blk b (BbrLs.lsB v))
  (fun x=>pur (x=(bLv v now st fl floor).1) (blk b (BbrLs.lsB ((bLv v now st fl floor).2)))) :=
 tri_0 (call_probe_Probe_leaves _ _ _ _ _) fun w0 S R h=>by
  unfold W_probe_Probe_leaves
  refine w_deref (w_ld h rfl ?_)
  refine w_ite (fun c1=>?_) fun c1=>?_
  ·have c1:v.til=0:=by simpa using c1
   refine w_ite (fun c2=>?_) fun c2=>?_
   ·have c2:fl≤floor:=by simpa using c2
    have e:bLv v now st fl floor=(false,{ v with til:=addI now 200000000,rd:=false }):=by unfold bLv;rw [if_pos c1,if_pos c2]
    rw [e]
    refine w_call (satadd_tri now 200000000 hn (U_lit _)) (h.le (star_emp _)) fun r w h=>?_
    obtain ⟨hr,h⟩:=h.purP
    rw [hr]
    refine w_deref (w_setTo h b [.int .u64 v.best,.int .u64 v.at',.bool v.on,.int .u64 (addI now 200000000),.bool v.rd] rfl rfl rfl fun w h=>?_)
    refine w_deref (w_setTo h b [.int .u64 v.best,.int .u64 v.at',.bool v.on,.int .u64 (addI now 200000000),.bool false] rfl rfl rfl fun w h=>?_)
    exact Own.retP rfl h.fin
   ·have c2:¬ fl≤floor:=by simpa using c2
    have e:bLv v now st fl floor=(false,v):=by unfold bLv;rw [if_pos c1,if_neg c2]
    rw [e]
    exact Own.retP rfl h.fin
  ·have c1:¬ v.til=0:=by simpa using c1
   refine w_deref (w_ld h rfl (w_deref ?_))
   refine w_setTo h b [.int .u64 v.best,.int .u64 v.at',.bool v.on,.int .u64 v.til,.bool (v.rd || st)] rfl rfl rfl fun w h=>?_
   have h:Own w0 S R w (blk b [.int .u64 v.best,.int .u64 v.at',.bool v.on,.int .u64 v.til,.bool (v.rd || st)]):=h.fin
   refine w_join h (fun _=>blk b [.int .u64 v.best,.int .u64 v.at',.bool v.on,.int .u64 v.til,.bool (v.rd || st)]) (fun _=>(v.rd || st)=true∧¬ now≤v.til) (fun _ w hc h=>?_) ?_
   ·have e:bLv v now st fl floor=(true,{ v with rd:=v.rd || st,at':=now,on:=false }):=by unfold bLv;rw [if_neg c1,if_neg (by rw [hc.1];simp),if_neg hc.2]
    rw [e]
    refine w_deref (w_setTo h b [.int .u64 v.best,.int .u64 now,.bool v.on,.int .u64 v.til,.bool (v.rd || st)] rfl rfl rfl fun w h=>?_)
    refine w_deref (w_setTo h b [.int .u64 v.best,.int .u64 now,.bool false,.int .u64 v.til,.bool (v.rd || st)] rfl rfl rfl fun w h=>?_)
    exact Own.retP rfl h.fin
   ·refine w_deref (w_ld h rfl ?_)
    refine w_ite (fun c2=>?_) fun c2=>?_
    ·have e:bLv v now st fl floor=(false,{ v with rd:=v.rd || st }):=by unfold bLv;rw [if_neg c1,if_pos c2]
     rw [e]
     exact Own.retP rfl h.fin
    ·refine w_deref (w_ld h rfl ?_)
     refine w_ite (fun c3=>?_) fun c3=>?_
     ·have c3:now≤v.til:=by simpa using c3
      have e:bLv v now st fl floor=(false,{ v with rd:=v.rd || st }):=by unfold bLv;rw [if_neg c1,if_neg (by rw [c2];simp),if_pos c3]
      rw [e]
      exact Own.retP rfl h.fin
     ·have c4:∀ x:Bool,(!x)=false→x=true:=by decide
      exact ⟨⟨c4 _ c2,by simpa using c3⟩,h⟩
theorem bupd_tri (b:Nat) (v:Pb) (hv:OkB v) (now rtt fl floor:Int) (st:Bool) (hn:U now) (hq:U rtt):Tri Tryz.prog N_probe_Probe_Update [.lf (.ptr (some ⟨b,0⟩)),.lf (.int .u64 now),.lf (.int .u64 rtt),.lf (.bool st),.lf (.int .u64 fl),.lf (.int .u64 floor)] [.lf .bool,.lf .bool] (blk b (BbrLs.lsB v))
  (fun x=>pur (x=(bU v now rtt st fl floor).1) (blk b (BbrLs.lsB ((bU v now rtt st fl floor).2)))) :=
 tri_0 (call_probe_Probe_Update _ _ _ _ _ _) fun w0 S R h=>by
  unfold W_probe_Probe_Update
  refine w_loop (fun _:Bool × Bool=>blk b (BbrLs.lsB v)) (fun y:Bool × Bool=>y=(false,false)) (fun _=>0) h rfl ?_
  rintro (⟨y1,y2⟩:Bool × Bool) w hy h
  cases hy
  refine w_ite (fun _=>?_) fun c=>(by cases c)
  refine w_join h (fun _=>blk b (BbrLs.lsB v)) (fun y:Bool=>y=bOld v now) (fun (y:Bool) w hy h=>?_) ?_
  ·rw [hy]
   refine w_join h (fun _=>blk b (BbrLs.lsB ((bNew v now rtt)))) (fun _=>True) (fun _ w _ h=>?_) ?_
   ·have on_eq:(bNew v now rtt).on=v.on:=by unfold bNew;split<;>rfl
    refine w_join h (fun _=>blk b (BbrLs.lsB ((bNew v now rtt)))) (fun y:Bool=>y=(bOld v now && !v.on)) (fun (y:Bool) w hy h=>?_) ?_
    ·rw [hy]
     refine w_ite (fun c=>?_) fun c=>?_
     ·have e:bU v now rtt st fl floor=((true,false),{ bNew v now rtt with on:=true,til:=0,rd:=false }):=by unfold bU;rw [if_pos c]
      rw [e]
      generalize bNew v now rtt=u at *
      refine w_deref (w_setTo h b [.int .u64 u.best,.int .u64 u.at',.bool true,.int .u64 u.til,.bool u.rd] rfl rfl rfl fun w h=>?_)
      refine w_deref (w_setTo h b [.int .u64 u.best,.int .u64 u.at',.bool true,.int .u64 0,.bool u.rd] rfl rfl rfl fun w h=>?_)
      refine w_deref (w_setTo h b [.int .u64 u.best,.int .u64 u.at',.bool true,.int .u64 0,.bool false] rfl rfl rfl fun w h=>?_)
      exact Own.retP rfl h.fin
     ·refine w_deref (w_ld h rfl ?_)
      rw [on_eq]
      refine w_ite (fun c2=>?_) fun c2=>?_
      ·have e:bU v now rtt st fl floor=((false,(bLv (bNew v now rtt) now st fl floor).1),(bLv (bNew v now rtt) now st fl floor).2):=by unfold bU;rw [if_neg (by rw [c];simp),if_pos c2]
       rw [e]
       refine w_call (blv_tri b (bNew v now rtt) now fl floor st hn) (h.le (star_emp _)) fun r w h=>?_
       obtain ⟨hr,h⟩:=h.purP
       exact Own.retP (by rw [hr]) h.fin
      ·have e:bU v now rtt st fl floor=((false,false),bNew v now rtt):=by unfold bU;rw [if_neg (by rw [c];simp),if_neg (by rw [c2];simp)]
       rw [e]
       exact Own.retP rfl h.fin
    ·refine w_ite (fun c=>?_) fun c=>?_
     ·refine w_deref (w_ld h rfl ?_)
      exact ⟨by rw [on_eq,c];rfl,h⟩
     ·exact ⟨by rw [c];rfl,h⟩
   ·refine w_join h (fun _=>blk b (BbrLs.lsB v)) (fun y:Bool=>y=bTake v now rtt) (fun (y:Bool) w hy h=>?_) ?_
    ·rw [hy]
     refine w_ite (fun c=>?_) fun c=>?_
     ·have e:bNew v now rtt={ v with best:=rtt,at':=now }:=by unfold bNew;rw [if_pos c]
      rw [e]
      refine w_deref (w_setTo h b [.int .u64 rtt,.int .u64 v.at',.bool v.on,.int .u64 v.til,.bool v.rd] rfl rfl rfl fun w h=>?_)
      refine w_deref (w_setTo h b [.int .u64 rtt,.int .u64 now,.bool v.on,.int .u64 v.til,.bool v.rd] rfl rfl rfl fun w h=>?_)
      exact ⟨trivial,h.fin⟩
     ·have e:bNew v now rtt=v:=by unfold bNew;rw [if_neg (by rw [c];simp)]
      rw [e]
      exact ⟨trivial,h⟩
    ·refine w_ite (fun c=>?_) fun c=>?_
     ·refine w_deref (w_ld h rfl ?_)
      refine w_ite (fun c2=>?_) fun c2=>?_
      ·exact ⟨by unfold bTake;rw [show decide (rtt > 0)=true from c,show decide (v.best=0)=true by simpa using c2];rfl,h⟩
      ·refine w_deref (w_ld h rfl ?_)
       exact ⟨by unfold bTake;rw [show decide (rtt > 0)=true from c,show decide (v.best=0)=false by simpa using c2];rfl,h⟩
     ·exact ⟨by unfold bTake;rw [show decide (rtt > 0)=false from c];rfl,h⟩
  ·refine w_deref (w_ld h rfl ?_)
   refine w_ite (fun c=>?_) fun c=>?_
   ·refine w_deref (w_ld h rfl ?_)
    refine w_call (satadd_tri v.at' 10000000000 hv.at' (U_lit _)) (h.le (star_emp _)) fun r w h=>?_
    obtain ⟨hr,h⟩:=h.purP
    exact ⟨by rw [hr];unfold bOld;rw [show decide (v.best > 0)=true from c];rfl,h.fin⟩
   ·exact ⟨by unfold bOld;rw [show decide (v.best > 0)=false from c];rfl,h⟩
theorem lbegin_tri (b:Nat) (q:Pl) (s:Sm):Tri Tryz.prog N_policer_Policer_begin [.lf (.ptr (some ⟨b,0⟩)),.agg (Ks.mk K_u8b s)] [] (blk b (BbrLs.lsL q)) (fun _=>blk b (BbrLs.lsL ((qBegin q s)))) :=
 tri_0 (call_policer_Policer_begin _ _) fun w0 S R h=>by
  unfold W_policer_Policer_begin
  refine w_new h fun n w h=>?_
  refine w_drw h fun w h=>w_ld h rfl (w_ld h rfl (w_deref (w_ld h rfl (w_deref ?_))))
  refine w_setTo h b [.bool q.use,.bool true,.int .u64 q.bw,.int .i64 q.n,.int .u64 q.lost,.int .u64 q.t0,.int .u64 q.d0,.int .u64 q.l0] rfl rfl rfl fun w h=>?_
  refine w_chk h rfl (w_chk h rfl (w_deref ?_))
  refine w_setTo h b [.bool q.use,.bool true,.int .u64 q.bw,.int .i64 0,.int .u64 q.lost,.int .u64 q.t0,.int .u64 q.d0,.int .u64 q.l0] rfl rfl rfl fun w h=>?_
  refine w_chk h rfl (w_chk h rfl (w_deref ?_))
  refine w_setTo h b [.bool q.use,.bool true,.int .u64 q.bw,.int .i64 0,.int .u64 q.lost,.int .u64 (sNow s),.int .u64 (sDel s),.int .u64 q.lost] rfl rfl rfl fun w h=>?_
  exact Own.keep (A:=blk b (BbrLs.lsL ((qBegin q s)))) h
theorem lleave_tri (b:Nat) (q:Pl):Tri Tryz.prog N_policer_Policer_leave [.lf (.ptr (some ⟨b,0⟩))] [] (blk b (BbrLs.lsL q)) (fun _=>blk b (BbrLs.lsL ((qLeave q)))) :=
 tri_0 (call_policer_Policer_leave _) fun w0 S R h=>by
  unfold W_policer_Policer_leave
  refine w_deref (w_setTo h b [.bool false,.bool q.mea,.int .u64 q.bw,.int .i64 q.n,.int .u64 q.lost,.int .u64 q.t0,.int .u64 q.d0,.int .u64 q.l0] rfl rfl rfl fun w h=>?_)
  refine w_deref (w_setTo h b [.bool false,.bool false,.int .u64 q.bw,.int .i64 q.n,.int .u64 q.lost,.int .u64 q.t0,.int .u64 q.d0,.int .u64 q.l0] rfl rfl rfl fun w h=>?_)
  refine w_deref (w_setTo h b [.bool false,.bool false,.int .u64 0,.int .i64 q.n,.int .u64 q.lost,.int .u64 q.t0,.int .u64 q.d0,.int .u64 q.l0] rfl rfl rfl fun w h=>?_)
  exact Own.keep (A:=blk b (BbrLs.lsL ((qLeave q)))) h
theorem apart_eq {a b:Int} (ha:U a) (hb:U b):IntKind.u64.wrap ((if b > a then b else a) - (if b < a then b else a))=apart a b:=by
 unfold U apart at *
 by_cases h:a < b
 ·rw [if_pos (show b > a by omega),if_neg (show ¬ b < a by omega),if_pos h,wu (by omega) (by omega)]
 ·rw [if_neg (show ¬ b > a by omega),if_neg h]
  split
  ·rw [wu (by omega) (by omega)]
  ·rw [wu (by omega) (by omega)];omega
theorem apart_tri (a b:Int) (ha:U a) (hb:U b):Tri Tryz.prog N_policer_apart [.lf (.int .u64 a),.lf (.int .u64 b)] [.lf (.int .u64)] emp (fun x=>pur (x=apart a b) emp) :=
 tri_0 (call_policer_apart _ _) fun w0 S R h=>by
  unfold W_policer_apart
  exact Own.retP (apart_eq ha hb) h.fin
theorem U8 {w:Int} (h:U w):IntKind.u64.wrap (w.tdiv 8)=w / 8:=by
 unfold U at h;rw [Int.tdiv_eq_ediv_of_nonneg h.1,wu (by omega) (by omega)]
theorem lmeas_tri (b:Nat) (q:Pl) (hq:OkL q) (s:Sm) (hs:OkS s):Tri Tryz.prog N_policer_Policer_measured [.lf (.ptr (some ⟨b,0⟩)),.agg (Ks.mk K_u8b s)] [.lf (.int .u64),.lf .bool] (blk b (BbrLs.lsL q))
  (fun x=>pur (x=match qMeas q s with | none=>(0,false) | some r=>(r,true)) (blk b (BbrLs.lsL q))) :=
 tri_0 (call_policer_Policer_measured _ _) fun w0 S R h=>by
  unfold W_policer_Policer_measured
  refine w_new h fun n w h=>?_
  have h:Own w0 S R w (blk n (Ks.mk K_u8b s)^blk b (BbrLs.lsL q)^emp):=h.le (star_mono Le.rfl (star_emp _))
  refine w_drw h fun w h=>w_ld h rfl (w_deref (w_deref (w_deref (w_ld h rfl (w_deref (w_ld h rfl (w_ld h rfl (w_ld h rfl (w_ld h rfl ?_)))))))))
  refine w_call (satsub_tri (sDel s) q.d0 hs.del hq.d0) h fun r w h=>?_
  obtain ⟨hr,h⟩:=h.purP
  rw [hr]
  refine w_chk h rfl (w_chk h rfl (w_chk h rfl (w_chk h rfl ?_)))
  refine w_call (satsub_tri q.lost q.l0 hq.lost hq.l0) h fun r w h=>?_
  obtain ⟨hr,h⟩:=h.purP
  rw [hr]
  refine w_chk h rfl (w_chk h rfl ?_)
  refine w_call (satsub_tri (sNow s) q.t0 hs.now hq.t0) h fun r w h=>?_
  obtain ⟨hr,h⟩:=h.purP
  rw [hr]
  refine w_ite (fun c=>?_) fun c=>?_
  ·have c:subI (sDel s) q.d0=0∨subI (sNow s) q.t0=0:=by simpa using c
   have e:qMeas q s=none:=by unfold qMeas;rw [if_pos c]
   rw [e]
   exact Own.retP rfl h.fin
  have c:¬ (subI (sDel s) q.d0=0∨subI (sNow s) q.t0=0):=fun hh=>by
   rcases hh with hh | hh<;>simp [hh] at c
  refine w_call (md_tri (subI (sDel s) q.d0) 50 256 (U_sub hs.del hq.d0) (U_lit _) (U_lit _)) h fun r w h=>?_
  obtain ⟨hr,h⟩:=h.purP
  rw [hr]
  refine w_ite (fun c2=>?_) fun c2=>?_
  ·have c2:subI q.lost q.l0 < mdI (subI (sDel s) q.d0) 50 256:=by simpa using c2
   have e:qMeas q s=none:=by unfold qMeas;rw [if_neg c,if_pos c2]
   rw [e]
   exact Own.retP rfl h.fin
  have c2:¬ subI q.lost q.l0 < mdI (subI (sDel s) q.d0) 50 256:=by simpa using c2
  refine w_call (md_tri (subI (sDel s) q.d0) 1000000000 (subI (sNow s) q.t0) (U_sub hs.del hq.d0) (U_lit _) (U_sub hs.now hq.t0)) h fun r w h=>?_
  obtain ⟨hr,h⟩:=h.purP
  rw [hr]
  have e:qMeas q s=some (mdI (subI (sDel s) q.d0) 1000000000 (subI (sNow s) q.t0)):=by unfold qMeas;rw [if_neg c,if_neg c2]
  rw [e]
  exact Own.retP rfl h.fin
theorem and1 (a b:Int) (ha:U a) (hb:U b):((BitVec.ofInt IntKind.u64.bits (IntKind.u64.wrap ((BitVec.ofInt IntKind.u64.bits a &&& BitVec.ofInt IntKind.u64.bits b).toNat:Int)) &&& BitVec.ofInt IntKind.u64.bits (1:Int)).toNat:Int)=(a % 2+b % 2) / 2:=by
 show ((BitVec.ofInt 64 (IntKind.u64.wrap ((BitVec.ofInt 64 a &&& BitVec.ofInt 64 b).toNat:Int)) &&& BitVec.ofInt 64 1).toNat:Int)=_
 obtain ⟨x,hx⟩:∃ x,(BitVec.ofInt 64 a &&& BitVec.ofInt 64 b).toNat=x:=⟨_,rfl⟩
 have hx2:x % 2=(a.toNat &&& b.toNat) % 2:=by rw [← hx,BitVec.toNat_and,bvu ha,bvu hb]
 have hlt:x < 18446744073709551616:=by rw [← hx];exact BitVec.isLt _
 rw [hx,wu (by omega) (by omega)]
 rw [BitVec.toNat_and,bvu (show U (x:Int) by unfold U;omega),show (BitVec.ofInt 64 1).toNat=2^1 - 1 by decide,Nat.and_two_pow_sub_one_eq_mod]
 have h3:(a.toNat &&& b.toNat) % 2=(a.toNat % 2) * (b.toNat % 2):=by
  have e:=Nat.and_mod_two_pow (a:=a.toNat) (b:=b.toNat) (n:=1)
  rw [show (2:Nat)^1=2 from rfl] at e
  rw [e]
  have h1:a.toNat % 2=0∨a.toNat % 2=1:=by omega
  have h2:b.toNat % 2=0∨b.toNat % 2=1:=by omega
  rcases h1 with h1 | h1<;>rcases h2 with h2 | h2<;>rw [h1,h2]<;>rfl
 show ((((x:Int).toNat) % 2:Nat):Int)=_
 rw [Int.toNat_natCast,hx2,h3]
 unfold U at ha hb
 have h1:a % 2=0∨a % 2=1:=by omega
 have h2:b % 2=0∨b % 2=1:=by omega
 rcases h1 with h1 | h1<;>rcases h2 with h2 | h2
 ·rw [show a.toNat % 2=0 by omega,h1,h2];simp
 ·rw [show a.toNat % 2=0 by omega,h1,h2];simp
 ·rw [show b.toNat % 2=0 by omega,h1,h2];simp
 ·rw [show a.toNat % 2=1 by omega,show b.toNat % 2=1 by omega,h1,h2];simp
theorem avg_eq {a b:Int} (ha:U a) (hb:U b):IntKind.u64.wrap ((IntKind.u64.wrap ((IntKind.u64.wrap (a.tdiv (2:Int)))+(IntKind.u64.wrap (b.tdiv (2:Int)))))+(IntKind.u64.wrap (BitVec.ofInt IntKind.u64.bits (IntKind.u64.wrap (BitVec.ofInt IntKind.u64.bits a &&& BitVec.ofInt IntKind.u64.bits b).toNat) &&& BitVec.ofInt IntKind.u64.bits (1:Int)).toNat))=avg a b:=by
 rw [and1 a b ha hb,Int.tdiv_eq_ediv_of_nonneg ha.1,Int.tdiv_eq_ediv_of_nonneg hb.1]
 unfold U avg at *
 simp only [wm]
 omega
theorem lend_tri (b:Nat) (q:Pl) (hq:OkL q) (s:Sm) (hs:OkS s):Tri Tryz.prog N_policer_Policer_end [.lf (.ptr (some ⟨b,0⟩)),.agg (Ks.mk K_u8b s)] [] (blk b (BbrLs.lsL q)) (fun _=>blk b (BbrLs.lsL ((qEnd q s)))) :=
 tri_0 (call_policer_Policer_end _ _) fun w0 S R h=>by
  unfold W_policer_Policer_end
  refine w_new h fun n w h=>?_
  refine w_ldAll (x:=s) h rfl ?_
  refine w_call (lmeas_tri b q hq s hs) h fun r w h=>?_
  obtain ⟨hr,h⟩:=h.purP
  rw [hr]
  cases hm:qMeas q s with
  | none =>
   have e:qEnd q s=q:=by unfold qEnd;rw [hm]
   rw [e]
   refine w_ite (fun c=>?_) fun c=>(by cases c)
   exact h.fin
  | some r =>
   have e:qEnd q s=qGot q s r:=by unfold qEnd;rw [hm]
   rw [e]
   have hU:=U_meas hq hs hm
   refine w_ite (fun c=>(by cases c)) fun c=>?_
   show join _ _ _ _
   refine w_join h (fun _=>blk b (BbrLs.lsL q)^blk n (Ks.mk K_u8b s)) (fun y:Bool=>y=decide (q.bw > 0∧apart q.bw r≤q.bw / 8)) (fun (y:Bool) w hy h=>?_) ?_
   ·rw [hy]
    refine w_ite (fun c=>?_) fun c=>?_
    ·have c:q.bw > 0∧apart q.bw r≤q.bw / 8:=by simpa using c
     have e:qGot q s r={ q with bw:=avg q.bw r,use:=true,n:=0 }:=by unfold qGot;rw [if_pos c]
     rw [e]
     refine w_drw h fun w h=>w_deref (w_deref (w_ld h rfl (w_ld h rfl (w_deref ?_))))
     dsimp only
     rw [avg_eq hq.bw hU]
     refine w_setTo h b [.bool q.use,.bool q.mea,.int .u64 (avg q.bw r),.int .i64 q.n,.int .u64 q.lost,.int .u64 q.t0,.int .u64 q.d0,.int .u64 q.l0] rfl rfl rfl fun w h=>?_
     refine w_deref (w_setTo h b [.bool true,.bool q.mea,.int .u64 (avg q.bw r),.int .i64 q.n,.int .u64 q.lost,.int .u64 q.t0,.int .u64 q.d0,.int .u64 q.l0] rfl rfl rfl fun w h=>?_)
     refine w_deref (w_setTo h b [.bool true,.bool q.mea,.int .u64 (avg q.bw r),.int .i64 0,.int .u64 q.lost,.int .u64 q.t0,.int .u64 q.d0,.int .u64 q.l0] rfl rfl rfl fun w h=>?_)
     exact h.keep
    ·have c:¬ (q.bw > 0∧apart q.bw r≤q.bw / 8):=by simpa using c
     have e:qGot q s r=qBegin { q with bw:=r } s:=by unfold qGot;rw [if_neg c]
     rw [e]
     refine w_deref (w_setTo h b (BbrLs.lsL ({ q with bw:=r })) rfl rfl rfl fun w h=>?_)
     refine w_ldAll (x:=s) h rfl ?_
     refine w_call (lbegin_tri b { q with bw:=r } s) h fun _ w h=>?_
     exact h.keep
   ·refine w_drw h fun w h=>w_deref (w_ld h rfl ?_)
    refine w_ite (fun c=>?_) fun c=>?_
    ·have c:q.bw > 0:=by simpa using c
     refine w_deref (w_deref (w_ld h rfl (w_ld h rfl ?_)))
     refine w_call (apart_tri q.bw r hq.bw hU) (h.le ((star_mono Le.rfl (star_emp _)))) fun x w h=>?_
     obtain ⟨hx,h⟩:=h.purP
     rw [hx,U8 hq.bw]
     refine w_chk h rfl ?_
     exact ⟨by simp [c],h.fin⟩
    ·have c:¬ q.bw > 0:=by simpa using c
     exact ⟨by simp [c],h.fin⟩
theorem tick_ok {q:Pl} (h:OkL q) (o:Bool) (hn:(qTick q o).use=false→(qTick q o).n≤16) (hu:(qTick q o).use=false):OkL (qTick q o):=by
 cases o with
 | false=>exact h
 | true =>
  have h0:=h.n.1
  have h1:=hn hu
  have hu:q.use=false:=hu
  have h1:q.n+1≤16:=h1
  exact ⟨h.bw,⟨(by show 0≤q.n+1;omega),(by show q.n+1≤48;omega)⟩,h.lost,h.t0,h.d0,h.l0,(fun hh=>by have hh:q.use=true:=hh;rw [hu] at hh;cases hh),fun _ _=>h1⟩
theorem lupd_tri (b : Nat) (q : Pl) (hq : OkL q) (o : Bool) (s : Sm) (hs : OkS s) : Tri Tryz.prog N_policer_Policer_Update [.lf (.ptr (some ⟨b, 0⟩)), .lf (.bool o), .agg (Ks.mk K_u8b s)] [] (blk b (BbrLs.lsL q)) (fun _ => blk b (BbrLs.lsL ((qUpd q o s)))) :=
  tri_0 (call_policer_Policer_Update _ _ _) fun w0 S R h => by
    unfold W_policer_Policer_Update
    refine w_new h fun n w h => ?_
    have h : Own w0 S R w (blk n (Ks.mk K_u8b s) ^ blk b (BbrLs.lsL q) ^ emp) := h.le (star_mono Le.rfl (star_emp _))
    refine w_loop (fun _ : Unit => blk n (Ks.mk K_u8b s) ^ blk b (BbrLs.lsL q) ^ emp) (fun _ : Unit => True) (fun _ => 0) h trivial ?_
    rintro _ w _ h
    refine w_ite (fun _ => ?_) fun c => (by cases c)
    refine w_drw h fun w h => w_deref (w_ld h rfl (w_ld h rfl ?_))
    refine w_call (satadd_tri q.lost (sLost s) hq.lost hs.lost) h fun r w h => ?_
    obtain ⟨hr, h⟩ := h.purP
    rw [hr]
    refine w_deref (w_setTo h b (BbrLs.lsL ((qAdd q s))) rfl rfl rfl fun w h => ?_)
    have hq1 := hq.add hs
    have hu : (qAdd q s).use = q.use := rfl
    have hm : (qAdd q s).mea = q.mea := rfl
    have hdef : qUpd q o s = if (qAdd q s).use = false ∧ (qAdd q s).mea = false then (if sLost s > 0 then qBegin (qAdd q s) s else qAdd q s)
        else if (qAdd q s).use = false ∧ sLim s = true then qLeave (qAdd q s) else qGo (qTick (qAdd q s) o) o s := rfl
    rw [hdef]
    generalize qAdd q s = u at *
    have h : Own w0 S R w (blk n (Ks.mk K_u8b s) ^ blk b (BbrLs.lsL u)) := h.fin
    refine w_join h (fun _ => blk n (Ks.mk K_u8b s) ^ blk b (BbrLs.lsL u)) (fun y : Bool => y = decide (u.use = false ∧ u.mea = false)) (fun (y : Bool) w hy h => ?_) ?_
    · rw [hy]
      refine w_ite (fun c => ?_) fun c => ?_
      · have c : u.use = false ∧ u.mea = false := by simpa using c
        rw [if_pos c]
        refine w_ld h rfl ?_
        refine w_ite (fun c2 => ?_) fun c2 => ?_
        · have c2 : sLost s > 0 := by simpa using c2
          rw [if_pos c2]
          refine w_ldAll (x := s) h rfl ?_
          refine w_call (lbegin_tri b u s) (h.le (star_mono Le.rfl (star_emp _))) fun _ w h => ?_
          exact h.keep
        · have c2 : ¬ sLost s > 0 := by simpa using c2
          rw [if_neg c2]
          exact h.fin
      have c : ¬ (u.use = false ∧ u.mea = false) := by simpa using c
      rw [if_neg c]
      refine w_join h (fun _ => blk n (Ks.mk K_u8b s) ^ blk b (BbrLs.lsL u)) (fun _ => ¬ (u.use = false ∧ sLim s = true)) (fun _ w c2 h => ?_) ?_
      · rw [if_neg c2]
        have hn := hq1.n
        refine w_join h (fun _ => blk n (Ks.mk K_u8b s) ^ blk b (BbrLs.lsL ((qTick u o)))) (fun _ => True) (fun _ w _ h => ?_) ?_
        · have ht := tick_ok hq1 o
          generalize qTick u o = v at *
          refine w_deref (w_ld h rfl ?_)
          refine w_ite (fun c3 => ?_) fun c3 => ?_
          · have c3 : v.use = true := c3
            refine w_join h (fun _ => blk n (Ks.mk K_u8b s) ^ blk b (BbrLs.lsL v)) (fun y : Bool => y = decide (o = true ∧ v.n = 48)) (fun (y : Bool) w hy h => ?_) ?_
            · rw [hy]
              refine w_ite (fun c4 => ?_) fun c4 => ?_
              · have c4 : o = true ∧ v.n = 48 := by simpa using c4
                have e : qGo v o s = { qLeave v with n := 0 } := by unfold qGo; rw [if_pos c3, if_pos c4]
                rw [e]
                refine w_call (lleave_tri b v) (h.le (star_mono Le.rfl (star_emp _))) fun _ w h => ?_
                refine w_deref (w_setTo h b (BbrLs.lsL ({ qLeave v with n := 0 })) rfl rfl rfl fun w h => ?_)
                exact h.keep
              · have c4 : ¬ (o = true ∧ v.n = 48) := by simpa using c4
                have e : qGo v o s = v := by unfold qGo; rw [if_pos c3, if_neg c4]
                rw [e]
                exact h.fin
            · refine w_ite (fun c4 => ?_) fun c4 => ?_
              · refine w_deref (w_ld h rfl ?_)
                have c4 : o = true := c4
                exact ⟨by rw [c4, Bool.eq_iff_iff]; simp, h⟩
              · have c4 : o = false := c4
                exact ⟨by rw [c4]; rfl, h⟩
          have c3 : ¬ v.use = true := by rw [show v.use = false from c3]; simp
          have c3' : v.use = false := by simpa using c3
          refine w_deref (w_ld h rfl ?_)
          refine w_ite (fun c4 => ?_) fun c4 => ?_
          · have c4 : v.n > 16 := by simpa using c4
            have e : qGo v o s = qLeave v := by unfold qGo; rw [if_neg c3, if_pos c4]
            rw [e]
            refine w_call (lleave_tri b v) (h.le (star_mono Le.rfl (star_emp _))) fun _ w h => ?_
            exact h.keep
          have c4 : ¬ v.n > 16 := by simpa using c4
          refine w_join h (fun _ => blk n (Ks.mk K_u8b s) ^ blk b (BbrLs.lsL v)) (fun y : Bool => y = decide (v.n ≥ 4 ∧ sLost s > 0)) (fun (y : Bool) w hy h => ?_) ?_
          · rw [hy]
            refine w_ite (fun c5 => ?_) fun c5 => ?_
            · have c5 : v.n ≥ 4 ∧ sLost s > 0 := by simpa using c5
              have e : qGo v o s = qEnd v s := by unfold qGo; rw [if_neg c3, if_neg c4, if_pos c5]
              rw [e]
              refine w_ldAll (x := s) h rfl ?_
              refine w_call (lend_tri b v (ht (fun _ => by omega) c3') s hs) (h.le (star_mono Le.rfl (star_emp _))) fun _ w h => ?_
              exact h.keep
            · have c5 : ¬ (v.n ≥ 4 ∧ sLost s > 0) := by simpa using c5
              have e : qGo v o s = v := by unfold qGo; rw [if_neg c3, if_neg c4, if_neg c5]
              rw [e]
              exact h.fin
          · refine w_deref (w_ld h rfl ?_)
            refine w_ite (fun c5 => ?_) fun c5 => ?_
            · refine w_ld h rfl ?_
              have c5 : v.n ≥ 4 := by simpa using c5
              exact ⟨by rw [Bool.eq_iff_iff]; simp [c5], h⟩
            · have c5 : ¬ v.n ≥ 4 := by simpa using c5
              exact ⟨by simp [c5], h⟩
        · refine w_ite (fun c3 => ?_) fun c3 => ?_
          · have c3 : o = true := c3
            have e : qTick u o = { u with n := u.n + 1 } := by unfold qTick; rw [if_pos c3]
            rw [e]
            refine w_deref (w_ld h rfl (w_deref ?_))
            rw [wi (n := u.n + 1) (by omega) (by omega)]
            refine w_setTo h b (BbrLs.lsL ({ u with n := u.n + 1 })) rfl rfl rfl fun w h => ?_
            exact ⟨trivial, h.fin⟩
          · have c3 : o = false := c3
            have e : qTick u o = u := by unfold qTick; rw [c3]; rfl
            rw [e]
            exact ⟨trivial, h⟩
      · refine w_deref (w_ld h rfl ?_)
        refine w_ite (fun c2 => ?_) fun c2 => ?_
        · have c2 : u.use = false := by simpa using c2
          refine w_ld h rfl ?_
          refine w_ite (fun c3 => ?_) fun c3 => ?_
          · rw [if_pos ⟨c2, c3⟩]
            refine w_call (lleave_tri b u) (h.le (star_mono Le.rfl (star_emp _))) fun _ w h => ?_
            exact h.keep
          · exact ⟨fun hh => by have : sLim s = false := c3
                                rw [this] at hh; simp at hh, h⟩
        · have c2 : u.use = true := by simpa using c2
          exact ⟨(fun hh => by rw [c2] at hh; simp at hh), h⟩
    · refine w_deref (w_ld h rfl ?_)
      refine w_ite (fun c => ?_) fun c => ?_
      · have c : u.use = false := by simpa using c
        refine w_deref (w_ld h rfl ?_)
        exact ⟨by rw [c]; cases u.mea <;> rfl, h⟩
      · have c : u.use = true := by simpa using c
        exact ⟨by rw [c]; rfl, h⟩
end BbrL

namespace BbrN
open Arith ArithC _root_.Go.X.Target BbrM BbrMm BbrP BbrW BbrQ BbrL
theorem new_tri (n:Int):Tri Tryz.prog N_bbr_New [.lf (.int .u64 n)] [.lf .ptr] emp (fun r=>ex fun x:Nat × Nat × Nat × Nat × Nat × Nat × Nat=>match x with | (b,n1,n2,n3,n4,n5,n6)=>pur (r=some ⟨b,0⟩) (blk b (BbrLs.lsM n1 n2 n3 n4 n5 n6 ((mNew n)))^blk n1 (BbrLs.lsW ((mNew n).w))^blk n2 (BbrLs.lsR ((mNew n).r))^blk n3 (BbrLs.lsP ((mNew n).p))^blk n4 (BbrLs.lsC ((mNew n).c))^blk n5 (BbrLs.lsB ((mNew n).b))^blk n6 (BbrLs.lsL ((mNew n).q)))) :=
 tri_0 (call_bbr_New _) fun w0 S R h=>by
  unfold W_bbr_New
  refine w_call (wnew_tri 10) h fun r w h=>?_
  obtain ⟨n1,h⟩:=h.exP;obtain ⟨hr,h⟩:=h.purP;rw [hr]
  refine w_call rnew_tri h fun r w h=>?_
  obtain ⟨n2,h⟩:=h.exP;obtain ⟨hr,h⟩:=h.purP;rw [hr]
  refine w_call pnew_tri h fun r w h=>?_
  obtain ⟨n3,h⟩:=h.exP;obtain ⟨hr,h⟩:=h.purP;rw [hr]
  refine w_call cnew_tri h fun r w h=>?_
  obtain ⟨n4,h⟩:=h.exP;obtain ⟨hr,h⟩:=h.purP;rw [hr]
  refine w_call bnew_tri h fun r w h=>?_
  obtain ⟨n5,h⟩:=h.exP;obtain ⟨hr,h⟩:=h.purP;rw [hr]
  refine w_call lnew_tri h fun r w h=>?_
  obtain ⟨n6,h⟩:=h.exP;obtain ⟨hr,h⟩:=h.purP;rw [hr]
  have hm:=mss_r n
  refine w_new h fun b w h=>?_
  change Own w0 S R w (blk b [.ptr (some ⟨n1,0⟩),.ptr (some ⟨n2,0⟩),.ptr (some ⟨n3,0⟩),.ptr (some ⟨n4,0⟩),.ptr (some ⟨n5,0⟩),.ptr (some ⟨n6,0⟩),.int .u64 (mMss n),.int .i64 0,.int .u64 0,.int .u64 0,.int .u64 0,.bool false,.bool false,.int .u64 0]^_) at h
  change deref _ (fun q8=>st _ [.int .u64 (IntKind.u64.wrap (10 * mMss n))] _) w
  rw [wu (n:=10 * mMss n) (by omega) (by omega)]
  refine w_deref (w_setTo h b [.ptr (some ⟨n1,0⟩),.ptr (some ⟨n2,0⟩),.ptr (some ⟨n3,0⟩),.ptr (some ⟨n4,0⟩),.ptr (some ⟨n5,0⟩),.ptr (some ⟨n6,0⟩),.int .u64 (mMss n),.int .i64 0,.int .u64 0,.int .u64 (10 * mMss n),.int .u64 0,.bool false,.bool false,.int .u64 0] rfl rfl rfl fun w h=>?_)
  refine w_deref (w_ld h rfl ?_)
  rw [wu (n:=10 * mMss n * 1000) (by omega) (by omega)]
  refine w_call (rate_tri (10 * mMss n * 1000) 739 ⟨by omega,by omega⟩ (U_lit _)) h fun r w h=>?_
  obtain ⟨hr,h⟩:=h.purP;rw [hr]
  refine w_deref (w_setTo h b (BbrLs.lsM n1 n2 n3 n4 n5 n6 ((mNew n))) rfl rfl rfl fun w h=>?_)
  exact Own.retE (b,n1,n2,n3,n4,n5,n6) (Own.retP rfl h.fin)
section
variable (b n1 n2 n3 n4 n5 n6 : Nat) (m : Md)
theorem bw_tri:Tri Tryz.prog N_bbr_Model_bw [.lf (.ptr (some ⟨b,0⟩))] [.lf (.int .u64)] (blk b (BbrLs.lsM n1 n2 n3 n4 n5 n6 m)^blk n1 (BbrLs.lsW m.w)^blk n2 (BbrLs.lsR m.r)^blk n3 (BbrLs.lsP m.p)^blk n4 (BbrLs.lsC m.c)^blk n5 (BbrLs.lsB m.b)^blk n6 (BbrLs.lsL m.q)) (fun r=>pur (r=mBw m) (blk b (BbrLs.lsM n1 n2 n3 n4 n5 n6 m)^blk n1 (BbrLs.lsW m.w)^blk n2 (BbrLs.lsR m.r)^blk n3 (BbrLs.lsP m.p)^blk n4 (BbrLs.lsC m.c)^blk n5 (BbrLs.lsB m.b)^blk n6 (BbrLs.lsL m.q))) :=
 tri_0 (call_bbr_Model_bw _) fun w0 S R h=>by
  unfold W_bbr_Model_bw
  repeat' (first
   | (refine w_drw h fun w h=>?_)
   | (refine w_deref ?_)
   | (refine w_ldAll h rfl ?_)
   | (refine w_ld h rfl ?_)
   | (refine w_chkAll h ?_)
   | (refine w_chk h rfl ?_)
   | (refine w_setAll h (by rfl) fun w h=>?_)
   | (refine w_new h fun n w h=>?_)
   | (refine w_leave h fun w h=>?_)
   | (refine w_set h rfl fun w h=>?_;dsimp only [upd,over] at h)
   | (refine w_call (luse_tri n6 m.q) h fun r w h=>?_;obtain ⟨hr,h⟩:=h.purP;(try dsimp only at hr h);try rw [hr]))
  refine w_ite (fun c=>?_) fun c=>?_
  ·have c:m.q.use=true:=c
   exact Own.retP (by unfold mBw;rw [c];rfl) h.fin
  ·have c:m.q.use=false:=c
   repeat' (first
    | (refine w_drw h fun w h=>?_)
    | (refine w_deref ?_)
    | (refine w_ldAll h rfl ?_)
    | (refine w_ld h rfl ?_)
    | (refine w_chkAll h ?_)
    | (refine w_chk h rfl ?_)
    | (refine w_setAll h (by rfl) fun w h=>?_)
    | (refine w_new h fun n w h=>?_)
    | (refine w_leave h fun w h=>?_)
    | (refine w_set h rfl fun w h=>?_;dsimp only [upd,over] at h)
    | (refine w_call (best_tri n1 m.w) h fun r w h=>?_;obtain ⟨hr,h⟩:=h.purP;(try dsimp only at hr h);try rw [hr]))
   exact Own.retP (by unfold mBw;rw [c];rfl) h.fin
theorem pol_tri:Tri Tryz.prog N_bbr_Model_policed [.lf (.ptr (some ⟨b,0⟩))] [.lf .bool] (blk b (BbrLs.lsM n1 n2 n3 n4 n5 n6 m)^blk n1 (BbrLs.lsW m.w)^blk n2 (BbrLs.lsR m.r)^blk n3 (BbrLs.lsP m.p)^blk n4 (BbrLs.lsC m.c)^blk n5 (BbrLs.lsB m.b)^blk n6 (BbrLs.lsL m.q)) (fun r=>pur (r=m.q.use) (blk b (BbrLs.lsM n1 n2 n3 n4 n5 n6 m)^blk n1 (BbrLs.lsW m.w)^blk n2 (BbrLs.lsR m.r)^blk n3 (BbrLs.lsP m.p)^blk n4 (BbrLs.lsC m.c)^blk n5 (BbrLs.lsB m.b)^blk n6 (BbrLs.lsL m.q))) :=
 tri_0 (call_bbr_Model_policed _) fun w0 S R h=>by
  unfold W_bbr_Model_policed
  repeat' (first
   | (refine w_drw h fun w h=>?_)
   | (refine w_deref ?_)
   | (refine w_ldAll h rfl ?_)
   | (refine w_ld h rfl ?_)
   | (refine w_chkAll h ?_)
   | (refine w_chk h rfl ?_)
   | (refine w_setAll h (by rfl) fun w h=>?_)
   | (refine w_new h fun n w h=>?_)
   | (refine w_leave h fun w h=>?_)
   | (refine w_set h rfl fun w h=>?_;dsimp only [upd,over] at h)
   | (refine w_call (luse_tri n6 m.q) h fun r w h=>?_;obtain ⟨hr,h⟩:=h.purP;(try dsimp only at hr h);try rw [hr]))
  exact Own.retP rfl h.fin
theorem gainm_tri:Tri Tryz.prog N_bbr_Model_gain [.lf (.ptr (some ⟨b,0⟩))] [.lf (.int .u64)] (blk b (BbrLs.lsM n1 n2 n3 n4 n5 n6 m)^blk n1 (BbrLs.lsW m.w)^blk n2 (BbrLs.lsR m.r)^blk n3 (BbrLs.lsP m.p)^blk n4 (BbrLs.lsC m.c)^blk n5 (BbrLs.lsB m.b)^blk n6 (BbrLs.lsL m.q)) (fun r=>pur (r=mGain m) (blk b (BbrLs.lsM n1 n2 n3 n4 n5 n6 m)^blk n1 (BbrLs.lsW m.w)^blk n2 (BbrLs.lsR m.r)^blk n3 (BbrLs.lsP m.p)^blk n4 (BbrLs.lsC m.c)^blk n5 (BbrLs.lsB m.b)^blk n6 (BbrLs.lsL m.q))) :=
 tri_0 (call_bbr_Model_gain _) fun w0 S R h=>by
  unfold W_bbr_Model_gain
  repeat' (first
   | (refine w_drw h fun w h=>?_)
   | (refine w_deref ?_)
   | (refine w_ldAll h rfl ?_)
   | (refine w_ld h rfl ?_)
   | (refine w_chkAll h ?_)
   | (refine w_chk h rfl ?_)
   | (refine w_setAll h (by rfl) fun w h=>?_)
   | (refine w_new h fun n w h=>?_)
   | (refine w_leave h fun w h=>?_)
   | (refine w_set h rfl fun w h=>?_;dsimp only [upd,over] at h))
  refine w_ite (fun c=>?_) fun c=>?_
  ·exact Own.retP (by unfold mGain;rw [if_pos (by simpa using c)]) h.fin
  repeat' (first
   | (refine w_drw h fun w h=>?_)
   | (refine w_deref ?_)
   | (refine w_ldAll h rfl ?_)
   | (refine w_ld h rfl ?_)
   | (refine w_chkAll h ?_)
   | (refine w_chk h rfl ?_)
   | (refine w_setAll h (by rfl) fun w h=>?_)
   | (refine w_new h fun n w h=>?_)
   | (refine w_leave h fun w h=>?_)
   | (refine w_set h rfl fun w h=>?_;dsimp only [upd,over] at h))
  refine w_ite (fun c2=>?_) fun c2=>?_
  ·exact Own.retP (by unfold mGain;rw [if_neg (by simpa using c),if_pos (by simpa using c2)]) h.fin
  have e:mGain m=if m.mode=2∧m.q.use=false then cG m.c else 256:=by unfold mGain;rw [if_neg (by simpa using c),if_neg (by simpa using c2)]
  rw [e]
  refine w_join h (fun _=>blk b (BbrLs.lsM n1 n2 n3 n4 n5 n6 m)^blk n1 (BbrLs.lsW m.w)^blk n2 (BbrLs.lsR m.r)^blk n3 (BbrLs.lsP m.p)^blk n4 (BbrLs.lsC m.c)^blk n5 (BbrLs.lsB m.b)^blk n6 (BbrLs.lsL m.q)) (fun y:Bool=>y=decide (m.mode=2∧m.q.use=false)) (fun (y:Bool) w hy h=>?_) ?_
  ·rw [hy]
   refine w_ite (fun c3=>?_) fun c3=>?_
   ·have c3:m.mode=2∧m.q.use=false:=by simpa using c3
    rw [if_pos c3]
    repeat' (first
     | (refine w_drw h fun w h=>?_)
     | (refine w_deref ?_)
     | (refine w_ldAll h rfl ?_)
     | (refine w_ld h rfl ?_)
     | (refine w_chkAll h ?_)
     | (refine w_chk h rfl ?_)
     | (refine w_setAll h (by rfl) fun w h=>?_)
     | (refine w_new h fun n w h=>?_)
     | (refine w_leave h fun w h=>?_)
     | (refine w_set h rfl fun w h=>?_;dsimp only [upd,over] at h)
     | (refine w_call (gain_tri n4 m.c) h fun r w h=>?_;obtain ⟨hr,h⟩:=h.purP;(try dsimp only at hr h);try rw [hr]))
    exact Own.retP rfl h.fin
   ·have c3:¬ (m.mode=2∧m.q.use=false):=by simpa using c3
    rw [if_neg c3]
    exact Own.retP rfl h.fin
  ·repeat' (first
    | (refine w_drw h fun w h=>?_)
    | (refine w_deref ?_)
    | (refine w_ldAll h rfl ?_)
    | (refine w_ld h rfl ?_)
    | (refine w_chkAll h ?_)
    | (refine w_chk h rfl ?_)
    | (refine w_setAll h (by rfl) fun w h=>?_)
    | (refine w_new h fun n w h=>?_)
    | (refine w_leave h fun w h=>?_)
    | (refine w_set h rfl fun w h=>?_;dsimp only [upd,over] at h))
   refine w_ite (fun c3=>?_) fun c3=>?_
   ·have c3:m.mode=2:=by simpa using c3
    repeat' (first
     | (refine w_drw h fun w h=>?_)
     | (refine w_deref ?_)
     | (refine w_ldAll h rfl ?_)
     | (refine w_ld h rfl ?_)
     | (refine w_chkAll h ?_)
     | (refine w_chk h rfl ?_)
     | (refine w_setAll h (by rfl) fun w h=>?_)
     | (refine w_new h fun n w h=>?_)
     | (refine w_leave h fun w h=>?_)
     | (refine w_set h rfl fun w h=>?_;dsimp only [upd,over] at h)
     | (refine w_call (pol_tri b n1 n2 n3 n4 n5 n6 m) h fun r w h=>?_;obtain ⟨hr,h⟩:=h.purP;(try dsimp only at hr h);try rw [hr]))
    exact ⟨by rw [Bool.eq_iff_iff];simp [c3],h.fin⟩
   ·have c3:¬ m.mode=2:=by simpa using c3
    exact ⟨by simp [c3],h.fin⟩
theorem wide_tri':Tri Tryz.prog N_bbr_Model_wideGain [.lf (.ptr (some ⟨b,0⟩))] [.lf (.int .u64)] (blk b (BbrLs.lsM n1 n2 n3 n4 n5 n6 m)^blk n1 (BbrLs.lsW m.w)^blk n2 (BbrLs.lsR m.r)^blk n3 (BbrLs.lsP m.p)^blk n4 (BbrLs.lsC m.c)^blk n5 (BbrLs.lsB m.b)^blk n6 (BbrLs.lsL m.q)) (fun r=>pur (r=mWide m) (blk b (BbrLs.lsM n1 n2 n3 n4 n5 n6 m)^blk n1 (BbrLs.lsW m.w)^blk n2 (BbrLs.lsR m.r)^blk n3 (BbrLs.lsP m.p)^blk n4 (BbrLs.lsC m.c)^blk n5 (BbrLs.lsB m.b)^blk n6 (BbrLs.lsL m.q))) :=
 tri_0 (call_bbr_Model_wideGain _) fun w0 S R h=>by
  unfold W_bbr_Model_wideGain
  repeat' (first
   | (refine w_drw h fun w h=>?_)
   | (refine w_deref ?_)
   | (refine w_ldAll h rfl ?_)
   | (refine w_ld h rfl ?_)
   | (refine w_chkAll h ?_)
   | (refine w_chk h rfl ?_)
   | (refine w_setAll h (by rfl) fun w h=>?_)
   | (refine w_new h fun n w h=>?_)
   | (refine w_leave h fun w h=>?_)
   | (refine w_set h rfl fun w h=>?_;dsimp only [upd,over] at h))
  refine w_ite (fun c=>?_) fun c=>?_
  ·exact Own.retP (by unfold mWide;rw [if_pos (by simpa using c)]) h.fin
  refine w_ite (fun c2=>?_) fun c2=>?_
  ·exact Own.retP (by unfold mWide;rw [if_neg (by simpa using c),if_pos (by simpa using c2)]) h.fin
  ·exact Own.retP (by unfold mWide;rw [if_neg (by simpa using c),if_neg (by simpa using c2)]) h.fin
theorem floor_tri (hm:OkM m):Tri Tryz.prog N_bbr_Model_floor [.lf (.ptr (some ⟨b,0⟩))] [.lf (.int .u64)] (blk b (BbrLs.lsM n1 n2 n3 n4 n5 n6 m)^blk n1 (BbrLs.lsW m.w)^blk n2 (BbrLs.lsR m.r)^blk n3 (BbrLs.lsP m.p)^blk n4 (BbrLs.lsC m.c)^blk n5 (BbrLs.lsB m.b)^blk n6 (BbrLs.lsL m.q)) (fun r=>pur (r=mFloor m) (blk b (BbrLs.lsM n1 n2 n3 n4 n5 n6 m)^blk n1 (BbrLs.lsW m.w)^blk n2 (BbrLs.lsR m.r)^blk n3 (BbrLs.lsP m.p)^blk n4 (BbrLs.lsC m.c)^blk n5 (BbrLs.lsB m.b)^blk n6 (BbrLs.lsL m.q))) :=
 tri_0 (call_bbr_Model_floor _) fun w0 S R h=>by
  unfold W_bbr_Model_floor
  repeat' (first
   | (refine w_drw h fun w h=>?_)
   | (refine w_deref ?_)
   | (refine w_ldAll h rfl ?_)
   | (refine w_ld h rfl ?_)
   | (refine w_chkAll h ?_)
   | (refine w_chk h rfl ?_)
   | (refine w_setAll h (by rfl) fun w h=>?_)
   | (refine w_new h fun n w h=>?_)
   | (refine w_leave h fun w h=>?_)
   | (refine w_set h rfl fun w h=>?_;dsimp only [upd,over] at h))
  have:=hm.mss
  exact Own.retP (wu (by omega) (by omega)) h.fin
theorem bdpm_tri (hm:OkM m) (g:Int) (hg:U g):Tri Tryz.prog N_bbr_Model_bdp [.lf (.ptr (some ⟨b,0⟩)),.lf (.int .u64 g)] [.lf (.int .u64)] (blk b (BbrLs.lsM n1 n2 n3 n4 n5 n6 m)^blk n1 (BbrLs.lsW m.w)^blk n2 (BbrLs.lsR m.r)^blk n3 (BbrLs.lsP m.p)^blk n4 (BbrLs.lsC m.c)^blk n5 (BbrLs.lsB m.b)^blk n6 (BbrLs.lsL m.q)) (fun r=>pur (r=mBdp m g) (blk b (BbrLs.lsM n1 n2 n3 n4 n5 n6 m)^blk n1 (BbrLs.lsW m.w)^blk n2 (BbrLs.lsR m.r)^blk n3 (BbrLs.lsP m.p)^blk n4 (BbrLs.lsC m.c)^blk n5 (BbrLs.lsB m.b)^blk n6 (BbrLs.lsL m.q))) :=
 tri_0 (call_bbr_Model_bdp _ _) fun w0 S R h=>by
  unfold W_bbr_Model_bdp
  have h:Own w0 S R w0 ((blk b (BbrLs.lsM n1 n2 n3 n4 n5 n6 m)^blk n1 (BbrLs.lsW m.w)^blk n2 (BbrLs.lsR m.r)^blk n3 (BbrLs.lsP m.p)^blk n4 (BbrLs.lsC m.c)^blk n5 (BbrLs.lsB m.b)^blk n6 (BbrLs.lsL m.q))^emp):=h.le (star_emp _)
  repeat' (first
   | (refine w_drw h fun w h=>?_)
   | (refine w_deref ?_)
   | (refine w_ldAll h rfl ?_)
   | (refine w_ld h rfl ?_)
   | (refine w_chkAll h ?_)
   | (refine w_chk h rfl ?_)
   | (refine w_setAll h (by rfl) fun w h=>?_)
   | (refine w_new h fun n w h=>?_)
   | (refine w_leave h fun w h=>?_)
   | (refine w_set h rfl fun w h=>?_;dsimp only [upd,over] at h)
   | (refine w_call (bw_tri b n1 n2 n3 n4 n5 n6 m) h fun r w h=>?_;obtain ⟨hr,h⟩:=h.purP;(try dsimp only at hr h);try rw [hr])
   | (refine w_call (bbest_tri n5 m.b) h fun r w h=>?_;obtain ⟨hr,h⟩:=h.purP;(try dsimp only at hr h);try rw [hr])
   | (refine w_call (bdp_tri (mBw m) m.b.best g hm.bw hm.b.best hg) h fun r w h=>?_;obtain ⟨hr,h⟩:=h.purP;(try dsimp only at hr h);try rw [hr]))
  exact Own.retP rfl h.fin
theorem cruise_tri (now:Int):Tri Tryz.prog N_bbr_Model_cruise [.lf (.ptr (some ⟨b,0⟩)),.lf (.int .u64 now)] [] (blk b (BbrLs.lsM n1 n2 n3 n4 n5 n6 m)^blk n1 (BbrLs.lsW m.w)^blk n2 (BbrLs.lsR m.r)^blk n3 (BbrLs.lsP m.p)^blk n4 (BbrLs.lsC m.c)^blk n5 (BbrLs.lsB m.b)^blk n6 (BbrLs.lsL m.q)) (fun _=>blk b (BbrLs.lsM n1 n2 n3 n4 n5 n6 ((mCruise m now)))^blk n1 (BbrLs.lsW ((mCruise m now).w))^blk n2 (BbrLs.lsR ((mCruise m now).r))^blk n3 (BbrLs.lsP ((mCruise m now).p))^blk n4 (BbrLs.lsC ((mCruise m now).c))^blk n5 (BbrLs.lsB ((mCruise m now).b))^blk n6 (BbrLs.lsL ((mCruise m now).q))) :=
 tri_0 (call_bbr_Model_cruise _ _) fun w0 S R h=>by
  unfold W_bbr_Model_cruise
  refine w_deref (w_setTo h b (BbrLs.lsM n1 n2 n3 n4 n5 n6 ((mCruise m now))) rfl rfl rfl fun w h=>?_)
  refine w_deref (w_ld h rfl ?_)
  refine w_call (cst_tri n4 m.c now 2 (by decide) (by decide)) h fun r w h=>?_
  show Own w0 S R w (blk b (BbrLs.lsM n1 n2 n3 n4 n5 n6 ((mCruise m now)))^blk n1 (BbrLs.lsW ((mCruise m now).w))^blk n2 (BbrLs.lsR ((mCruise m now).r))^blk n3 (BbrLs.lsP ((mCruise m now).p))^blk n4 (BbrLs.lsC ((mCruise m now).c))^blk n5 (BbrLs.lsB ((mCruise m now).b))^blk n6 (BbrLs.lsL ((mCruise m now).q)))
  exact h.fin
theorem back_tri:Tri Tryz.prog N_bbr_Model_back [.lf (.ptr (some ⟨b,0⟩))] [] (blk b (BbrLs.lsM n1 n2 n3 n4 n5 n6 m)^blk n1 (BbrLs.lsW m.w)^blk n2 (BbrLs.lsR m.r)^blk n3 (BbrLs.lsP m.p)^blk n4 (BbrLs.lsC m.c)^blk n5 (BbrLs.lsB m.b)^blk n6 (BbrLs.lsL m.q)) (fun _=>blk b (BbrLs.lsM n1 n2 n3 n4 n5 n6 ((mBack m)))^blk n1 (BbrLs.lsW ((mBack m).w))^blk n2 (BbrLs.lsR ((mBack m).r))^blk n3 (BbrLs.lsP ((mBack m).p))^blk n4 (BbrLs.lsC ((mBack m).c))^blk n5 (BbrLs.lsB ((mBack m).b))^blk n6 (BbrLs.lsL ((mBack m).q))) :=
 tri_0 (call_bbr_Model_back _) fun w0 S R h=>by
  unfold W_bbr_Model_back
  refine w_drw h fun w h=>w_deref (w_deref (w_ld h rfl (w_ld h rfl (w_deref ?_))))
  refine w_setTo h b (BbrLs.lsM n1 n2 n3 n4 n5 n6 ({ m with win:=if m.sav > m.win then m.sav else m.win })) rfl rfl rfl fun w h=>?_
  refine w_deref (w_setTo h b (BbrLs.lsM n1 n2 n3 n4 n5 n6 ((mBack m))) rfl rfl rfl fun w h=>?_)
  show Own w0 S R w (blk b (BbrLs.lsM n1 n2 n3 n4 n5 n6 ((mBack m)))^blk n1 (BbrLs.lsW ((mBack m).w))^blk n2 (BbrLs.lsR ((mBack m).r))^blk n3 (BbrLs.lsP ((mBack m).p))^blk n4 (BbrLs.lsC ((mBack m).c))^blk n5 (BbrLs.lsB ((mBack m).b))^blk n6 (BbrLs.lsL ((mBack m).q)))
  exact h.fin
theorem state_tri:Tri Tryz.prog N_bbr_Model_State [.lf (.ptr (some ⟨b,0⟩))] [.agg K_i2u6b2] (blk b (BbrLs.lsM n1 n2 n3 n4 n5 n6 m)^blk n1 (BbrLs.lsW m.w)^blk n2 (BbrLs.lsR m.r)^blk n3 (BbrLs.lsP m.p)^blk n4 (BbrLs.lsC m.c)^blk n5 (BbrLs.lsB m.b)^blk n6 (BbrLs.lsL m.q)) (fun r=>pur (r=mSt m) (blk b (BbrLs.lsM n1 n2 n3 n4 n5 n6 m)^blk n1 (BbrLs.lsW m.w)^blk n2 (BbrLs.lsR m.r)^blk n3 (BbrLs.lsP m.p)^blk n4 (BbrLs.lsC m.c)^blk n5 (BbrLs.lsB m.b)^blk n6 (BbrLs.lsL m.q))) :=
 tri_0 (call_bbr_Model_State _) fun w0 S R h=>by
  unfold W_bbr_Model_State
  refine w_new h fun x w h=>?_
  refine w_ite (fun c=>(by cases c)) fun _=>?_
  repeat' (first
   | (refine w_drw h fun w h=>?_)
   | (refine w_deref ?_)
   | (refine w_ldAll h rfl ?_)
   | (refine w_ld h rfl ?_)
   | (refine w_chkAll h ?_)
   | (refine w_chk h rfl ?_)
   | (refine w_setAll h (by rfl) fun w h=>?_)
   | (refine w_new h fun n w h=>?_)
   | (refine w_leave h fun w h=>?_)
   | (refine w_set h rfl fun w h=>?_;dsimp only [upd,over] at h)
   | (refine w_call (bw_tri b n1 n2 n3 n4 n5 n6 m) h fun r w h=>?_;obtain ⟨hr,h⟩:=h.purP;(try dsimp only at hr h);try rw [hr])
   | (refine w_call (bbest_tri n5 m.b) h fun r w h=>?_;obtain ⟨hr,h⟩:=h.purP;(try dsimp only at hr h);try rw [hr])
   | (refine w_call (gainm_tri b n1 n2 n3 n4 n5 n6 m) h fun r w h=>?_;obtain ⟨hr,h⟩:=h.purP;(try dsimp only at hr h);try rw [hr])
   | (refine w_call (count_tri n2 m.r) h fun r w h=>?_;obtain ⟨hr,h⟩:=h.purP;(try dsimp only at hr h);try rw [hr])
   | (refine w_call (phase_tri n4 m.c) h fun r w h=>?_;obtain ⟨hr,h⟩:=h.purP;(try dsimp only at hr h);try rw [hr])
   | (refine w_call (full_tri n3 m.p) h fun r w h=>?_;obtain ⟨hr,h⟩:=h.purP;(try dsimp only at hr h);try rw [hr])
   | (refine w_call (pol_tri b n1 n2 n3 n4 n5 n6 m) h fun r w h=>?_;obtain ⟨hr,h⟩:=h.purP;(try dsimp only at hr h);try rw [hr]))
  exact Own.retP rfl h.fin
end
end BbrN

namespace BbrO
open Arith ArithC _root_.Go.X.Target BbrM BbrMm BbrP BbrW BbrQ BbrL BbrN
section
variable (b n1 n2 n3 n4 n5 n6 : Nat) (m : Md) (hm : OkM m) (s : Sm) (hs : OkS s) (o : Bool)
include hm hs
theorem meas_tri:Tri Tryz.prog N_bbr_Model_measure [.lf (.ptr (some ⟨b,0⟩)),.agg (Ks.mk K_u8b s)] [] (blk b (BbrLs.lsM n1 n2 n3 n4 n5 n6 m)^blk n1 (BbrLs.lsW m.w)^blk n2 (BbrLs.lsR m.r)^blk n3 (BbrLs.lsP m.p)^blk n4 (BbrLs.lsC m.c)^blk n5 (BbrLs.lsB m.b)^blk n6 (BbrLs.lsL m.q)) (fun _=>blk b (BbrLs.lsM n1 n2 n3 n4 n5 n6 ((mMeas m s)))^blk n1 (BbrLs.lsW ((mMeas m s).w))^blk n2 (BbrLs.lsR ((mMeas m s).r))^blk n3 (BbrLs.lsP ((mMeas m s).p))^blk n4 (BbrLs.lsC ((mMeas m s).c))^blk n5 (BbrLs.lsB ((mMeas m s).b))^blk n6 (BbrLs.lsL ((mMeas m s).q))) :=
 tri_0 (call_bbr_Model_measure _ _) fun w0 S R h=>by
  unfold W_bbr_Model_measure
  refine w_new h fun x w h=>?_
  have h:Own w0 S R w ((blk b (BbrLs.lsM n1 n2 n3 n4 n5 n6 m)^blk n1 (BbrLs.lsW m.w)^blk n2 (BbrLs.lsR m.r)^blk n3 (BbrLs.lsP m.p)^blk n4 (BbrLs.lsC m.c)^blk n5 (BbrLs.lsB m.b)^blk n6 (BbrLs.lsL m.q))^blk x (Ks.mk K_u8b s)):=h.fin
  refine w_join h (fun _=>(blk b (BbrLs.lsM n1 n2 n3 n4 n5 n6 m)^blk n1 (BbrLs.lsW m.w)^blk n2 (BbrLs.lsR m.r)^blk n3 (BbrLs.lsP m.p)^blk n4 (BbrLs.lsC m.c)^blk n5 (BbrLs.lsB m.b)^blk n6 (BbrLs.lsL m.q))^blk x (Ks.mk K_u8b s)) (fun _=>¬ (sAck s=0∨sTim s=0)) (fun _ w c h=>?_) ?_
  ·repeat' (first
    | (refine w_drw h fun w h=>?_)
    | (refine w_deref ?_)
    | (refine w_ldAll h rfl ?_)
    | (refine w_ld h rfl ?_)
    | (refine w_chkAll h ?_)
    | (refine w_chk h rfl ?_)
    | (refine w_setAll h (by rfl) fun w h=>?_)
    | (refine w_new h fun n w h=>?_)
    | (refine w_leave h fun w h=>?_)
    | (refine w_set h rfl fun w h=>?_;dsimp only [upd,over] at h)
    | (refine w_call (satsub_tri (sDel s) (sPri s) hs.del hs.pri) h fun r w h=>?_;obtain ⟨hr,h⟩:=h.purP;(try dsimp only at hr h);try rw [hr])
    | (refine w_call (md_tri (subI (sDel s) (sPri s)) 1000000000 (sTim s) (U_sub hs.del hs.pri) (U_lit _) hs.tim) h fun r w h=>?_;obtain ⟨hr,h⟩:=h.purP;(try dsimp only at hr h);try rw [hr]))
   have hU:U (mK s):=U_md (U_sub hs.del hs.pri) (U_lit _) hs.tim
   refine w_join h (fun _=>(blk b (BbrLs.lsM n1 n2 n3 n4 n5 n6 m)^blk n1 (BbrLs.lsW m.w)^blk n2 (BbrLs.lsR m.r)^blk n3 (BbrLs.lsP m.p)^blk n4 (BbrLs.lsC m.c)^blk n5 (BbrLs.lsB m.b)^blk n6 (BbrLs.lsL m.q))^blk x (Ks.mk K_u8b s)) (fun y:Bool=>y=decide (sLim s=false∨mK s ≥ m.w.v0)) (fun (y:Bool) w hy h=>?_) ?_
   ·rw [hy]
    refine w_ite (fun c2=>?_) fun c2=>?_
    ·have c2:sLim s=false∨mK s ≥ m.w.v0:=by simpa using c2
     have e:mMeas m s={ m with w:=wUpd m.w m.r.n (mK s) }:=by unfold mMeas;rw [if_neg c,if_pos c2]
     rw [e]
     repeat' (first
      | (refine w_drw h fun w h=>?_)
      | (refine w_deref ?_)
      | (refine w_ldAll h rfl ?_)
      | (refine w_ld h rfl ?_)
      | (refine w_chkAll h ?_)
      | (refine w_chk h rfl ?_)
      | (refine w_setAll h (by rfl) fun w h=>?_)
      | (refine w_new h fun n w h=>?_)
      | (refine w_leave h fun w h=>?_)
      | (refine w_set h rfl fun w h=>?_;dsimp only [upd,over] at h)
      | (refine w_call (count_tri n2 m.r) h fun r w h=>?_;obtain ⟨hr,h⟩:=h.purP;(try dsimp only at hr h);try rw [hr])
      | (refine w_call (maxupd_tri n1 m.w hm.w m.r.n (mK s) hm.r.n hU) h fun r w h=>?_;obtain ⟨hr,h⟩:=h.purP;(try dsimp only at hr h);try rw [hr]))
     exact h.fin
    ·have c2:¬ (sLim s=false∨mK s ≥ m.w.v0):=by simpa using c2
     have e:mMeas m s=m:=by unfold mMeas;rw [if_neg c,if_neg c2]
     rw [e]
     exact h.fin
   ·repeat' (first
     | (refine w_drw h fun w h=>?_)
     | (refine w_deref ?_)
     | (refine w_ldAll h rfl ?_)
     | (refine w_ld h rfl ?_)
     | (refine w_chkAll h ?_)
     | (refine w_chk h rfl ?_)
     | (refine w_setAll h (by rfl) fun w h=>?_)
     | (refine w_new h fun n w h=>?_)
     | (refine w_leave h fun w h=>?_)
     | (refine w_set h rfl fun w h=>?_;dsimp only [upd,over] at h))
    refine w_ite (fun c2=>?_) fun c2=>?_
    ·have c2:sLim s=false:=by simpa using c2
     exact ⟨by simp [c2],h.fin⟩
    ·have c2:sLim s=true:=by simpa using c2
     repeat' (first
      | (refine w_drw h fun w h=>?_)
      | (refine w_deref ?_)
      | (refine w_ldAll h rfl ?_)
      | (refine w_ld h rfl ?_)
      | (refine w_chkAll h ?_)
      | (refine w_chk h rfl ?_)
      | (refine w_setAll h (by rfl) fun w h=>?_)
      | (refine w_new h fun n w h=>?_)
      | (refine w_leave h fun w h=>?_)
      | (refine w_set h rfl fun w h=>?_;dsimp only [upd,over] at h)
      | (refine w_call (best_tri n1 m.w) h fun r w h=>?_;obtain ⟨hr,h⟩:=h.purP;(try dsimp only at hr h);try rw [hr]))
     exact ⟨by rw [Bool.eq_iff_iff];simp [c2,mK],h.fin⟩
  ·repeat' (first
    | (refine w_drw h fun w h=>?_)
    | (refine w_deref ?_)
    | (refine w_ldAll h rfl ?_)
    | (refine w_ld h rfl ?_)
    | (refine w_chkAll h ?_)
    | (refine w_chk h rfl ?_)
    | (refine w_setAll h (by rfl) fun w h=>?_)
    | (refine w_new h fun n w h=>?_)
    | (refine w_leave h fun w h=>?_)
    | (refine w_set h rfl fun w h=>?_;dsimp only [upd,over] at h))
   refine w_ite (fun c=>?_) fun c=>?_
   ·have c:sAck s=0:=by simpa using c
    have e:mMeas m s=m:=by unfold mMeas;rw [if_pos (.inl c)]
    rw [e]
    exact h.fin
   repeat' (first
    | (refine w_drw h fun w h=>?_)
    | (refine w_deref ?_)
    | (refine w_ldAll h rfl ?_)
    | (refine w_ld h rfl ?_)
    | (refine w_chkAll h ?_)
    | (refine w_chk h rfl ?_)
    | (refine w_setAll h (by rfl) fun w h=>?_)
    | (refine w_new h fun n w h=>?_)
    | (refine w_leave h fun w h=>?_)
    | (refine w_set h rfl fun w h=>?_;dsimp only [upd,over] at h))
   have c:¬ sAck s=0:=by simpa using c
   refine w_ite (fun c2=>?_) fun c2=>?_
   ·have c2:sTim s=0:=by simpa using c2
    have e:mMeas m s=m:=by unfold mMeas;rw [if_pos (.inr c2)]
    rw [e]
    exact h.fin
   ·have c2:¬ sTim s=0:=by simpa using c2
    exact ⟨fun hh=>hh.elim c c2,h.fin⟩
theorem modes_tri:Tri Tryz.prog N_bbr_Model_modes [.lf (.ptr (some ⟨b,0⟩)),.agg (Ks.mk K_u8b s)] [] (blk b (BbrLs.lsM n1 n2 n3 n4 n5 n6 m)^blk n1 (BbrLs.lsW m.w)^blk n2 (BbrLs.lsR m.r)^blk n3 (BbrLs.lsP m.p)^blk n4 (BbrLs.lsC m.c)^blk n5 (BbrLs.lsB m.b)^blk n6 (BbrLs.lsL m.q)) (fun _=>blk b (BbrLs.lsM n1 n2 n3 n4 n5 n6 ((mM2 (mM1 m) s)))^blk n1 (BbrLs.lsW ((mM2 (mM1 m) s).w))^blk n2 (BbrLs.lsR ((mM2 (mM1 m) s).r))^blk n3 (BbrLs.lsP ((mM2 (mM1 m) s).p))^blk n4 (BbrLs.lsC ((mM2 (mM1 m) s).c))^blk n5 (BbrLs.lsB ((mM2 (mM1 m) s).b))^blk n6 (BbrLs.lsL ((mM2 (mM1 m) s).q))) :=
 tri_0 (call_bbr_Model_modes _ _) fun w0 S R h=>by
  unfold W_bbr_Model_modes
  refine w_new h fun x w h=>?_
  have h:Own w0 S R w ((blk b (BbrLs.lsM n1 n2 n3 n4 n5 n6 m)^blk n1 (BbrLs.lsW m.w)^blk n2 (BbrLs.lsR m.r)^blk n3 (BbrLs.lsP m.p)^blk n4 (BbrLs.lsC m.c)^blk n5 (BbrLs.lsB m.b)^blk n6 (BbrLs.lsL m.q))^blk x (Ks.mk K_u8b s)):=h.fin
  refine w_loopE (fun (_:Unit) (u:Md)=>(blk b (BbrLs.lsM n1 n2 n3 n4 n5 n6 u)^blk n1 (BbrLs.lsW u.w)^blk n2 (BbrLs.lsR u.r)^blk n3 (BbrLs.lsP u.p)^blk n4 (BbrLs.lsC u.c)^blk n5 (BbrLs.lsB u.b)^blk n6 (BbrLs.lsL u.q))^blk x (Ks.mk K_u8b s)) (fun _ u=>(OkM u∧mM1 u=mM1 m)) (fun _ u=>if u.mode=0 then 1 else 0) m h ⟨hm,rfl⟩ ?_
  rintro K _ u w ⟨hu,heq⟩ h hK
  rw [← heq]
  refine w_join h (fun _=>(blk b (BbrLs.lsM n1 n2 n3 n4 n5 n6 u)^blk n1 (BbrLs.lsW u.w)^blk n2 (BbrLs.lsR u.r)^blk n3 (BbrLs.lsP u.p)^blk n4 (BbrLs.lsC u.c)^blk n5 (BbrLs.lsB u.b)^blk n6 (BbrLs.lsL u.q))^blk x (Ks.mk K_u8b s)) (fun y:Bool=>y=decide (u.mode=0∧u.p.full=true)) (fun (y:Bool) w hy h=>?_) ?_
  ·rw [hy]
   refine w_ite (fun c=>?_) fun c=>?_
   ·have c:u.mode=0∧u.p.full=true:=by simpa using c
    refine w_deref (w_setTo h b (BbrLs.lsM n1 n2 n3 n4 n5 n6 ({ u with mode:=1 })) rfl rfl rfl fun w h=>?_)
    refine hK () { u with mode:=1 } w ⟨{ hu with mode:=by simp },?_⟩ h.fin ?_
    ·rw [← heq]
     have e1:mM1 u={ u with mode:=1 }:=by unfold mM1;rw [if_pos c]
     rw [e1]
     unfold mM1
     rw [if_neg (by simp)]
    ·rw [if_pos c.1,if_neg (by simp)];omega
   have c:¬ (u.mode=0∧u.p.full=true):=by simpa using c
   have e1:mM1 u=u:=by unfold mM1;rw [if_neg c]
   rw [e1]
   refine w_join h (fun _=>(blk b (BbrLs.lsM n1 n2 n3 n4 n5 n6 u)^blk n1 (BbrLs.lsW u.w)^blk n2 (BbrLs.lsR u.r)^blk n3 (BbrLs.lsP u.p)^blk n4 (BbrLs.lsC u.c)^blk n5 (BbrLs.lsB u.b)^blk n6 (BbrLs.lsL u.q))^blk x (Ks.mk K_u8b s)) (fun y:Bool=>y=decide (u.mode=1∧u.b.best > 0∧sFli s≤mBdp u 256)) (fun (y:Bool) w hy h=>?_) ?_
   ·rw [hy]
    refine w_ite (fun c2=>?_) fun c2=>?_
    ·have c2:u.mode=1∧u.b.best > 0∧sFli s≤mBdp u 256:=by simpa using c2
     have e:mM2 u s=mCruise u (sNow s):=by unfold mM2;rw [if_pos c2]
     rw [e]
     refine w_ld h rfl ?_
     refine w_call (cruise_tri b n1 n2 n3 n4 n5 n6 u (sNow s)) h fun _ w h=>?_
     exact h.fin
    ·have c2:¬ (u.mode=1∧u.b.best > 0∧sFli s≤mBdp u 256):=by simpa using c2
     have e:mM2 u s=u:=by unfold mM2;rw [if_neg c2]
     rw [e]
     exact h.fin
   ·repeat' (first
     | (refine w_drw h fun w h=>?_)
     | (refine w_deref ?_)
     | (refine w_ldAll h rfl ?_)
     | (refine w_ld h rfl ?_)
     | (refine w_chkAll h ?_)
     | (refine w_chk h rfl ?_)
     | (refine w_setAll h (by rfl) fun w h=>?_)
     | (refine w_new h fun n w h=>?_)
     | (refine w_leave h fun w h=>?_)
     | (refine w_set h rfl fun w h=>?_;dsimp only [upd,over] at h))
    refine w_ite (fun c2=>?_) fun c2=>?_
    ·have c2:u.mode=1:=by simpa using c2
     repeat' (first
      | (refine w_drw h fun w h=>?_)
      | (refine w_deref ?_)
      | (refine w_ldAll h rfl ?_)
      | (refine w_ld h rfl ?_)
      | (refine w_chkAll h ?_)
      | (refine w_chk h rfl ?_)
      | (refine w_setAll h (by rfl) fun w h=>?_)
      | (refine w_new h fun n w h=>?_)
      | (refine w_leave h fun w h=>?_)
      | (refine w_set h rfl fun w h=>?_;dsimp only [upd,over] at h)
      | (refine w_call (bbest_tri n5 u.b) h fun r w h=>?_;obtain ⟨hr,h⟩:=h.purP;(try dsimp only at hr h);try rw [hr]))
     refine w_ite (fun c3=>?_) fun c3=>?_
     ·have c3:u.b.best > 0:=by simpa using c3
      repeat' (first
       | (refine w_drw h fun w h=>?_)
       | (refine w_deref ?_)
       | (refine w_ldAll h rfl ?_)
       | (refine w_ld h rfl ?_)
       | (refine w_chkAll h ?_)
       | (refine w_chk h rfl ?_)
       | (refine w_setAll h (by rfl) fun w h=>?_)
       | (refine w_new h fun n w h=>?_)
       | (refine w_leave h fun w h=>?_)
       | (refine w_set h rfl fun w h=>?_;dsimp only [upd,over] at h)
       | (refine w_call (bdpm_tri b n1 n2 n3 n4 n5 n6 u hu 256 (U_lit _)) h fun r w h=>?_;obtain ⟨hr,h⟩:=h.purP;(try dsimp only at hr h);try rw [hr]))
      exact ⟨by rw [Bool.eq_iff_iff];simp [c2,c3],h.fin⟩
     ·have c3:¬ u.b.best > 0:=by simpa using c3
      exact ⟨by simp [c3],h.fin⟩
    ·have c2:¬ u.mode=1:=by simpa using c2
     exact ⟨by simp [c2],h.fin⟩
  ·repeat' (first
    | (refine w_drw h fun w h=>?_)
    | (refine w_deref ?_)
    | (refine w_ldAll h rfl ?_)
    | (refine w_ld h rfl ?_)
    | (refine w_chkAll h ?_)
    | (refine w_chk h rfl ?_)
    | (refine w_setAll h (by rfl) fun w h=>?_)
    | (refine w_new h fun n w h=>?_)
    | (refine w_leave h fun w h=>?_)
    | (refine w_set h rfl fun w h=>?_;dsimp only [upd,over] at h))
   refine w_ite (fun c=>?_) fun c=>?_
   ·have c:u.mode=0:=by simpa using c
    repeat' (first
     | (refine w_drw h fun w h=>?_)
     | (refine w_deref ?_)
     | (refine w_ldAll h rfl ?_)
     | (refine w_ld h rfl ?_)
     | (refine w_chkAll h ?_)
     | (refine w_chk h rfl ?_)
     | (refine w_setAll h (by rfl) fun w h=>?_)
     | (refine w_new h fun n w h=>?_)
     | (refine w_leave h fun w h=>?_)
     | (refine w_set h rfl fun w h=>?_;dsimp only [upd,over] at h)
     | (refine w_call (full_tri n3 u.p) h fun r w h=>?_;obtain ⟨hr,h⟩:=h.purP;(try dsimp only at hr h);try rw [hr]))
    exact ⟨by rw [Bool.eq_iff_iff];simp [c],h.fin⟩
   ·have c:¬ u.mode=0:=by simpa using c
    exact ⟨by simp [c],h.fin⟩
theorem look_tri:Tri Tryz.prog N_bbr_Model_look [.lf (.ptr (some ⟨b,0⟩)),.agg (Ks.mk K_u8b s),.lf (.bool o)] [] (blk b (BbrLs.lsM n1 n2 n3 n4 n5 n6 m)^blk n1 (BbrLs.lsW m.w)^blk n2 (BbrLs.lsR m.r)^blk n3 (BbrLs.lsP m.p)^blk n4 (BbrLs.lsC m.c)^blk n5 (BbrLs.lsB m.b)^blk n6 (BbrLs.lsL m.q)) (fun _=>blk b (BbrLs.lsM n1 n2 n3 n4 n5 n6 ((mLook m s o)))^blk n1 (BbrLs.lsW ((mLook m s o).w))^blk n2 (BbrLs.lsR ((mLook m s o).r))^blk n3 (BbrLs.lsP ((mLook m s o).p))^blk n4 (BbrLs.lsC ((mLook m s o).c))^blk n5 (BbrLs.lsB ((mLook m s o).b))^blk n6 (BbrLs.lsL ((mLook m s o).q))) :=
 tri_0 (call_bbr_Model_look _ _ _) fun w0 S R h=>by
  unfold W_bbr_Model_look
  refine w_new h fun x w h=>?_
  have h:Own w0 S R w ((blk b (BbrLs.lsM n1 n2 n3 n4 n5 n6 m)^blk n1 (BbrLs.lsW m.w)^blk n2 (BbrLs.lsR m.r)^blk n3 (BbrLs.lsP m.p)^blk n4 (BbrLs.lsC m.c)^blk n5 (BbrLs.lsB m.b)^blk n6 (BbrLs.lsL m.q))^blk x (Ks.mk K_u8b s)):=h.fin
  repeat' (first
   | (refine w_drw h fun w h=>?_)
   | (refine w_deref ?_)
   | (refine w_ldAll h rfl ?_)
   | (refine w_ld h rfl ?_)
   | (refine w_chkAll h ?_)
   | (refine w_chk h rfl ?_)
   | (refine w_setAll h (by rfl) fun w h=>?_)
   | (refine w_new h fun n w h=>?_)
   | (refine w_leave h fun w h=>?_)
   | (refine w_set h rfl fun w h=>?_;dsimp only [upd,over] at h)
   | (refine w_call (floor_tri b n1 n2 n3 n4 n5 n6 m hm) h fun r w h=>?_;obtain ⟨hr,h⟩:=h.purP;(try dsimp only at hr h);try rw [hr])
   | (refine w_call (bupd_tri n5 m.b hm.b (sNow s) (sRtt s) (sFli s) (mFloor m) o hs.now hs.rtt) h fun r w h=>?_;obtain ⟨hr,h⟩:=h.purP;(try dsimp only at hr h);try rw [hr]))
  have e:mLook m s o=mProbed { m with b:=(mPr m s o).2 } (mPr m s o).1 (sNow s):=rfl
  rw [e]
  have h:Own w0 S R w ((blk b (BbrLs.lsM n1 n2 n3 n4 n5 n6 (({ m with b:=(mPr m s o).2 })))^blk n1 (BbrLs.lsW (({ m with b:=(mPr m s o).2 }).w))^blk n2 (BbrLs.lsR (({ m with b:=(mPr m s o).2 }).r))^blk n3 (BbrLs.lsP (({ m with b:=(mPr m s o).2 }).p))^blk n4 (BbrLs.lsC (({ m with b:=(mPr m s o).2 }).c))^blk n5 (BbrLs.lsB (({ m with b:=(mPr m s o).2 }).b))^blk n6 (BbrLs.lsL (({ m with b:=(mPr m s o).2 }).q)))^blk x (Ks.mk K_u8b s)):=h.fin
  change ite' (mPr m s o).1.1 _ (ite' (mPr m s o).1.2 _ _) w
  generalize (mPr m s o).1=r at *
  generalize { m with b:=(mPr m s o).2 }=u at *
  refine w_ite (fun c=>?_) fun c=>?_
  ·have c:r.1=true:=c
   have e:mProbed u r (sNow s)={ u with sav:=if u.win > u.sav then u.win else u.sav,mode:=3 }:=by unfold mProbed;rw [if_pos c]
   rw [e]
   refine w_drw h fun w h=>w_deref (w_deref (w_ld h rfl (w_ld h rfl (w_deref ?_))))
   refine w_setTo h b (BbrLs.lsM n1 n2 n3 n4 n5 n6 ({ u with sav:=if u.win > u.sav then u.win else u.sav })) rfl rfl rfl fun w h=>?_
   refine w_deref (w_setTo h b (BbrLs.lsM n1 n2 n3 n4 n5 n6 ({ u with sav:=if u.win > u.sav then u.win else u.sav,mode:=3 })) rfl rfl rfl fun w h=>?_)
   exact h.fin
  have c:r.1=false:=c
  refine w_ite (fun c2=>?_) fun c2=>?_
  ·have c2:r.2=true:=c2
   have e:mProbed u r (sNow s)=if u.p.full then mCruise { mBack u with mode:=0 } (sNow s) else { mBack u with mode:=0 }:=by unfold mProbed;rw [if_neg (by rw [c];simp),if_pos c2]
   rw [e]
   refine w_call (back_tri b n1 n2 n3 n4 n5 n6 u) h fun _ w h=>?_
   refine w_deref (w_setTo h b (BbrLs.lsM n1 n2 n3 n4 n5 n6 ({ mBack u with mode:=0 })) rfl rfl rfl fun w h=>?_)
   refine w_deref (w_ld h rfl ?_)
   refine w_call (full_tri n3 u.p) h fun r w h=>?_
   obtain ⟨hr,h⟩:=h.purP;rw [hr]
   refine w_ite (fun c3=>?_) fun c3=>?_
   ·have c3:u.p.full=true:=c3
    rw [if_pos c3]
    refine w_ld h rfl ?_
    refine w_call (cruise_tri b n1 n2 n3 n4 n5 n6 { mBack u with mode:=0 } (sNow s)) h fun _ w h=>?_
    exact h.fin
   ·have c3:u.p.full=false:=c3
    rw [if_neg (by rw [c3];simp)]
    exact h.fin
  ·have c2:r.2=false:=c2
   have e:mProbed u r (sNow s)=u:=by unfold mProbed;rw [if_neg (by rw [c];simp),if_neg (by rw [c2];simp)]
   rw [e]
   exact h.fin
theorem rec_tri:Tri Tryz.prog N_bbr_Model_recover [.lf (.ptr (some ⟨b,0⟩)),.agg (Ks.mk K_u8b s),.lf (.bool o)] [] (blk b (BbrLs.lsM n1 n2 n3 n4 n5 n6 m)^blk n1 (BbrLs.lsW m.w)^blk n2 (BbrLs.lsR m.r)^blk n3 (BbrLs.lsP m.p)^blk n4 (BbrLs.lsC m.c)^blk n5 (BbrLs.lsB m.b)^blk n6 (BbrLs.lsL m.q)) (fun _=>blk b (BbrLs.lsM n1 n2 n3 n4 n5 n6 ((mRecover m s o)))^blk n1 (BbrLs.lsW ((mRecover m s o).w))^blk n2 (BbrLs.lsR ((mRecover m s o).r))^blk n3 (BbrLs.lsP ((mRecover m s o).p))^blk n4 (BbrLs.lsC ((mRecover m s o).c))^blk n5 (BbrLs.lsB ((mRecover m s o).b))^blk n6 (BbrLs.lsL ((mRecover m s o).q))) :=
 tri_0 (call_bbr_Model_recover _ _ _) fun w0 S R h=>by
  unfold W_bbr_Model_recover
  refine w_new h fun x w h=>?_
  have h:Own w0 S R w ((blk b (BbrLs.lsM n1 n2 n3 n4 n5 n6 m)^blk n1 (BbrLs.lsW m.w)^blk n2 (BbrLs.lsR m.r)^blk n3 (BbrLs.lsP m.p)^blk n4 (BbrLs.lsC m.c)^blk n5 (BbrLs.lsB m.b)^blk n6 (BbrLs.lsL m.q))^blk x (Ks.mk K_u8b s)):=h.fin
  refine w_join h (fun _=>(blk b (BbrLs.lsM n1 n2 n3 n4 n5 n6 m)^blk n1 (BbrLs.lsW m.w)^blk n2 (BbrLs.lsR m.r)^blk n3 (BbrLs.lsP m.p)^blk n4 (BbrLs.lsC m.c)^blk n5 (BbrLs.lsB m.b)^blk n6 (BbrLs.lsL m.q))^blk x (Ks.mk K_u8b s)) (fun y:Bool=>y=decide (sLost s > 0∧m.rec'=false)) (fun (y:Bool) w hy h=>?_) ?_
  ·rw [hy]
   refine w_ite (fun c=>?_) fun c=>?_
   ·have c:sLost s > 0∧m.rec'=false:=by simpa using c
    have e:mRecover m s o={ m with rec':=true,first:=true,til:=addI (sDel s) (sFli s),sav:=if m.win > m.sav then m.win else m.sav }:=by unfold mRecover;rw [if_pos c]
    rw [e]
    refine w_ld h rfl (w_ld h rfl ?_)
    refine w_call (satadd_tri (sDel s) (sFli s) hs.del hs.fli) (h.le ((star_comm _ _).trans (star_mono Le.rfl (star_emp _)))) fun r w h=>?_
    obtain ⟨hr,h⟩:=h.purP;rw [hr]
    refine w_deref (w_setTo h b (BbrLs.lsM n1 n2 n3 n4 n5 n6 ({ m with rec':=true })) rfl rfl rfl fun w h=>?_)
    refine w_deref (w_setTo h b (BbrLs.lsM n1 n2 n3 n4 n5 n6 ({ m with rec':=true,first:=true })) rfl rfl rfl fun w h=>?_)
    refine w_deref (w_setTo h b (BbrLs.lsM n1 n2 n3 n4 n5 n6 ({ m with rec':=true,first:=true,til:=addI (sDel s) (sFli s) })) rfl rfl rfl fun w h=>?_)
    refine w_drw h fun w h=>w_deref (w_deref (w_ld h rfl (w_ld h rfl (w_deref ?_))))
    refine w_setTo h b (BbrLs.lsM n1 n2 n3 n4 n5 n6 ({ m with rec':=true,first:=true,til:=addI (sDel s) (sFli s),sav:=if m.win > m.sav then m.win else m.sav })) rfl rfl rfl fun w h=>?_
    exact h.fin
   have c:¬ (sLost s > 0∧m.rec'=false):=by simpa using c
   refine w_deref (w_ld h rfl ?_)
   refine w_ite (fun c2=>?_) fun c2=>?_
   ·have c2:m.rec'=true:=c2
    have e:mRecover m s o=if sDel s < m.til then { m with first:=m.first && !o } else mOver { m with first:=m.first && !o }:=by unfold mRecover;rw [if_neg c,if_pos c2]
    rw [e]
    refine w_deref (w_ld h rfl (w_deref ?_))
    refine w_setTo h b (BbrLs.lsM n1 n2 n3 n4 n5 n6 ({ m with first:=m.first && !o })) rfl rfl rfl fun w h=>?_
    refine w_drw h fun w h=>w_ld h rfl (w_deref (w_ld h rfl ?_))
    refine w_ite (fun c3=>?_) fun c3=>?_
    ·have c3:sDel s < m.til:=by simpa using c3
     rw [if_pos c3]
     exact h.fin
    have c3:¬ sDel s < m.til:=by simpa using c3
    rw [if_neg c3]
    have h:Own w0 S R w ((blk b (BbrLs.lsM n1 n2 n3 n4 n5 n6 (({ m with first:=m.first && !o })))^blk n1 (BbrLs.lsW (({ m with first:=m.first && !o }).w))^blk n2 (BbrLs.lsR (({ m with first:=m.first && !o }).r))^blk n3 (BbrLs.lsP (({ m with first:=m.first && !o }).p))^blk n4 (BbrLs.lsC (({ m with first:=m.first && !o }).c))^blk n5 (BbrLs.lsB (({ m with first:=m.first && !o }).b))^blk n6 (BbrLs.lsL (({ m with first:=m.first && !o }).q)))^blk x (Ks.mk K_u8b s)):=h.fin
    generalize { m with first:=m.first && !o }=u at *
    refine w_deref (w_setTo h b (BbrLs.lsM n1 n2 n3 n4 n5 n6 ({ u with rec':=false })) rfl rfl rfl fun w h=>?_)
    refine w_deref (w_setTo h b (BbrLs.lsM n1 n2 n3 n4 n5 n6 ({ u with rec':=false,first:=false })) rfl rfl rfl fun w h=>?_)
    refine w_deref (w_ld h rfl ?_)
    refine w_ite (fun c4=>?_) fun c4=>?_
    ·have c4:u.mode≠3:=by simpa using c4
     have e:mOver u=mBack { u with rec':=false,first:=false }:=by unfold mOver;rw [if_pos c4]
     rw [e]
     refine w_call (back_tri b n1 n2 n3 n4 n5 n6 { u with rec':=false,first:=false }) h fun _ w h=>?_
     exact h.fin
    ·have c4:¬ u.mode≠3:=by simpa using c4
     have e:mOver u={ u with rec':=false,first:=false }:=by unfold mOver;rw [if_neg c4]
     rw [e]
     exact h.fin
   ·have c2:m.rec'=false:=c2
    have e:mRecover m s o=m:=by unfold mRecover;rw [if_neg c,if_neg (by rw [c2];simp)]
    rw [e]
    exact h.fin
  ·refine w_ld h rfl ?_
   refine w_ite (fun c=>?_) fun c=>?_
   ·have c:sLost s > 0:=by simpa using c
    refine w_deref (w_ld h rfl ?_)
    exact ⟨by rw [Bool.eq_iff_iff];simp [c],h⟩
   ·have c:¬ sLost s > 0:=by simpa using c
    exact ⟨by simp [c],h⟩
omit hs in
theorem pace_tri:Tri Tryz.prog N_bbr_Model_pace [.lf (.ptr (some ⟨b,0⟩))] [] (blk b (BbrLs.lsM n1 n2 n3 n4 n5 n6 m)^blk n1 (BbrLs.lsW m.w)^blk n2 (BbrLs.lsR m.r)^blk n3 (BbrLs.lsP m.p)^blk n4 (BbrLs.lsC m.c)^blk n5 (BbrLs.lsB m.b)^blk n6 (BbrLs.lsL m.q)) (fun _=>blk b (BbrLs.lsM n1 n2 n3 n4 n5 n6 ((mPace m)))^blk n1 (BbrLs.lsW ((mPace m).w))^blk n2 (BbrLs.lsR ((mPace m).r))^blk n3 (BbrLs.lsP ((mPace m).p))^blk n4 (BbrLs.lsC ((mPace m).c))^blk n5 (BbrLs.lsB ((mPace m).b))^blk n6 (BbrLs.lsL ((mPace m).q))) :=
 tri_0 (call_bbr_Model_pace _) fun w0 S R h=>by
  unfold W_bbr_Model_pace
  have h:Own w0 S R w0 ((blk b (BbrLs.lsM n1 n2 n3 n4 n5 n6 m)^blk n1 (BbrLs.lsW m.w)^blk n2 (BbrLs.lsR m.r)^blk n3 (BbrLs.lsP m.p)^blk n4 (BbrLs.lsC m.c)^blk n5 (BbrLs.lsB m.b)^blk n6 (BbrLs.lsL m.q))^emp):=h.le (star_emp _)
  repeat' (first
   | (refine w_drw h fun w h=>?_)
   | (refine w_deref ?_)
   | (refine w_ldAll h rfl ?_)
   | (refine w_ld h rfl ?_)
   | (refine w_chkAll h ?_)
   | (refine w_chk h rfl ?_)
   | (refine w_setAll h (by rfl) fun w h=>?_)
   | (refine w_new h fun n w h=>?_)
   | (refine w_leave h fun w h=>?_)
   | (refine w_set h rfl fun w h=>?_;dsimp only [upd,over] at h)
   | (refine w_call (bw_tri b n1 n2 n3 n4 n5 n6 m) h fun r w h=>?_;obtain ⟨hr,h⟩:=h.purP;(try dsimp only at hr h);try rw [hr]))
  refine w_ite (fun c=>?_) fun c=>?_
  ·have c:mBw m=0:=by simpa using c
   have e:mPace m=m:=by unfold mPace;rw [if_pos c]
   rw [e]
   exact h.fin
  have c:¬ mBw m=0:=by simpa using c
  repeat' (first
   | (refine w_drw h fun w h=>?_)
   | (refine w_deref ?_)
   | (refine w_ldAll h rfl ?_)
   | (refine w_ld h rfl ?_)
   | (refine w_chkAll h ?_)
   | (refine w_chk h rfl ?_)
   | (refine w_setAll h (by rfl) fun w h=>?_)
   | (refine w_new h fun n w h=>?_)
   | (refine w_leave h fun w h=>?_)
   | (refine w_set h rfl fun w h=>?_;dsimp only [upd,over] at h)
   | (refine w_call (bw_tri b n1 n2 n3 n4 n5 n6 m) h fun r w h=>?_;obtain ⟨hr,h⟩:=h.purP;(try dsimp only at hr h);try rw [hr])
   | (refine w_call (gainm_tri b n1 n2 n3 n4 n5 n6 m) h fun r w h=>?_;obtain ⟨hr,h⟩:=h.purP;(try dsimp only at hr h);try rw [hr])
   | (refine w_call (rate_tri (mBw m) (mGain m) hm.bw (U_gain m)) h fun r w h=>?_;obtain ⟨hr,h⟩:=h.purP;(try dsimp only at hr h);try rw [hr]))
  have e:mPace m=if m.p.full=true∨mRt m > m.rate then { m with rate:=mRt m } else m:=by unfold mPace;rw [if_neg c]
  rw [e]
  have h:Own w0 S R _ (blk b (BbrLs.lsM n1 n2 n3 n4 n5 n6 m)^blk n1 (BbrLs.lsW m.w)^blk n2 (BbrLs.lsR m.r)^blk n3 (BbrLs.lsP m.p)^blk n4 (BbrLs.lsC m.c)^blk n5 (BbrLs.lsB m.b)^blk n6 (BbrLs.lsL m.q)):=h.fin
  refine w_join h (fun _=>blk b (BbrLs.lsM n1 n2 n3 n4 n5 n6 m)^blk n1 (BbrLs.lsW m.w)^blk n2 (BbrLs.lsR m.r)^blk n3 (BbrLs.lsP m.p)^blk n4 (BbrLs.lsC m.c)^blk n5 (BbrLs.lsB m.b)^blk n6 (BbrLs.lsL m.q)) (fun y:Bool=>y=decide (m.p.full=true∨mRt m > m.rate)) (fun (y:Bool) w hy h=>?_) ?_
  ·rw [hy]
   refine w_ite (fun c2=>?_) fun c2=>?_
   ·have c2:m.p.full=true∨mRt m > m.rate:=by simpa using c2
    rw [if_pos c2]
    refine w_deref (w_setTo h b (BbrLs.lsM n1 n2 n3 n4 n5 n6 ({ m with rate:=mRt m })) rfl rfl rfl fun w h=>?_)
    exact h.fin
   ·have c2:¬ (m.p.full=true∨mRt m > m.rate):=by simpa using c2
    rw [if_neg c2]
    exact h.fin
  ·repeat' (first
    | (refine w_drw h fun w h=>?_)
    | (refine w_deref ?_)
    | (refine w_ldAll h rfl ?_)
    | (refine w_ld h rfl ?_)
    | (refine w_chkAll h ?_)
    | (refine w_chk h rfl ?_)
    | (refine w_setAll h (by rfl) fun w h=>?_)
    | (refine w_new h fun n w h=>?_)
    | (refine w_leave h fun w h=>?_)
    | (refine w_set h rfl fun w h=>?_;dsimp only [upd,over] at h)
    | (refine w_call (full_tri n3 m.p) h fun r w h=>?_;obtain ⟨hr,h⟩:=h.purP;(try dsimp only at hr h);try rw [hr]))
   refine w_ite (fun c2=>?_) fun c2=>?_
   ·have c2:m.p.full=true:=c2
    exact ⟨by simp [c2],h.fin⟩
   ·have c2:m.p.full=false:=c2
    repeat' (first
     | (refine w_drw h fun w h=>?_)
     | (refine w_deref ?_)
     | (refine w_ldAll h rfl ?_)
     | (refine w_ld h rfl ?_)
     | (refine w_chkAll h ?_)
     | (refine w_chk h rfl ?_)
     | (refine w_setAll h (by rfl) fun w h=>?_)
     | (refine w_new h fun n w h=>?_)
     | (refine w_leave h fun w h=>?_)
     | (refine w_set h rfl fun w h=>?_;dsimp only [upd,over] at h))
    exact ⟨by rw [Bool.eq_iff_iff];simp [c2,mRt],h.fin⟩
end
end BbrO

namespace BbrU
open Arith ArithC _root_.Go.X.Target BbrM BbrMm BbrP BbrW BbrQ BbrL BbrN BbrO
section
variable (b n1 n2 n3 n4 n5 n6 : Nat) (m : Md) (hm : OkM m) (s : Sm) (hs : OkS s) (tso : Int) (ht : U tso)
include hm hs ht
theorem window_tri:Tri Tryz.prog N_bbr_Model_window [.lf (.ptr (some ⟨b,0⟩)),.agg (Ks.mk K_u8b s),.lf (.int .u64 tso)] [] (blk b (BbrLs.lsM n1 n2 n3 n4 n5 n6 m)^blk n1 (BbrLs.lsW m.w)^blk n2 (BbrLs.lsR m.r)^blk n3 (BbrLs.lsP m.p)^blk n4 (BbrLs.lsC m.c)^blk n5 (BbrLs.lsB m.b)^blk n6 (BbrLs.lsL m.q)) (fun _=>blk b (BbrLs.lsM n1 n2 n3 n4 n5 n6 ((mWindow m s tso)))^blk n1 (BbrLs.lsW ((mWindow m s tso).w))^blk n2 (BbrLs.lsR ((mWindow m s tso).r))^blk n3 (BbrLs.lsP ((mWindow m s tso).p))^blk n4 (BbrLs.lsC ((mWindow m s tso).c))^blk n5 (BbrLs.lsB ((mWindow m s tso).b))^blk n6 (BbrLs.lsL ((mWindow m s tso).q))) :=
 tri_0 (call_bbr_Model_window _ _ _) fun w0 S R h=>by
  unfold W_bbr_Model_window
  refine w_new h fun x w h=>?_
  have h:Own w0 S R w ((blk b (BbrLs.lsM n1 n2 n3 n4 n5 n6 m)^blk n1 (BbrLs.lsW m.w)^blk n2 (BbrLs.lsR m.r)^blk n3 (BbrLs.lsP m.p)^blk n4 (BbrLs.lsC m.c)^blk n5 (BbrLs.lsB m.b)^blk n6 (BbrLs.lsL m.q))^blk x (Ks.mk K_u8b s)^emp):=h.fin
  refine w_drw h fun w h=>w_deref (w_ld h rfl (w_deref (w_ld h rfl (w_ld h rfl ?_))))
  refine w_call (satsub_tri m.win (sLost s) hm.win hs.lost) h fun r w h=>?_
  obtain ⟨hr,h⟩:=h.purP;rw [hr]
  refine w_chk h rfl ?_
  refine w_deref (w_setTo h b (BbrLs.lsM n1 n2 n3 n4 n5 n6 ((mW1 m s))) rfl rfl rfl fun w h=>?_)
  have e:mWindow m s tso=mW4 (mW3 (mW2 (mW1 m s) s tso)):=rfl
  rw [e]
  have h:Own w0 S R w ((blk b (BbrLs.lsM n1 n2 n3 n4 n5 n6 ((mW1 m s)))^blk n1 (BbrLs.lsW ((mW1 m s).w))^blk n2 (BbrLs.lsR ((mW1 m s).r))^blk n3 (BbrLs.lsP ((mW1 m s).p))^blk n4 (BbrLs.lsC ((mW1 m s).c))^blk n5 (BbrLs.lsB ((mW1 m s).b))^blk n6 (BbrLs.lsL ((mW1 m s).q)))^blk x (Ks.mk K_u8b s)):=h.fin
  have hu:=hm.w1 hs
  generalize mW1 m s=u at *
  refine w_join h (fun _=>(blk b (BbrLs.lsM n1 n2 n3 n4 n5 n6 ((mW2 u s tso)))^blk n1 (BbrLs.lsW ((mW2 u s tso).w))^blk n2 (BbrLs.lsR ((mW2 u s tso).r))^blk n3 (BbrLs.lsP ((mW2 u s tso).p))^blk n4 (BbrLs.lsC ((mW2 u s tso).c))^blk n5 (BbrLs.lsB ((mW2 u s tso).b))^blk n6 (BbrLs.lsL ((mW2 u s tso).q)))^blk x (Ks.mk K_u8b s)) (fun _=>True) (fun _ w _ h=>?_) ?_
  ·have hv:=hu.w2 hs ht
   generalize mW2 u s tso=v at *
   refine w_drw h fun w h=>w_deref (w_ld h rfl ?_)
   refine w_call (floor_tri b n1 n2 n3 n4 n5 n6 v hv) h fun r w h=>?_
   obtain ⟨hr,h⟩:=h.purP;rw [hr]
   refine w_chk h rfl ?_
   refine w_deref (w_setTo h b (BbrLs.lsM n1 n2 n3 n4 n5 n6 ((mW3 v))) rfl rfl rfl fun w h=>?_)
   refine w_deref (w_ld h rfl ?_)
   have h:Own w0 S R w ((blk b (BbrLs.lsM n1 n2 n3 n4 n5 n6 ((mW3 v)))^blk n1 (BbrLs.lsW ((mW3 v).w))^blk n2 (BbrLs.lsR ((mW3 v).r))^blk n3 (BbrLs.lsP ((mW3 v).p))^blk n4 (BbrLs.lsC ((mW3 v).c))^blk n5 (BbrLs.lsB ((mW3 v).b))^blk n6 (BbrLs.lsL ((mW3 v).q)))^blk x (Ks.mk K_u8b s)):=h.fin
   have hy:=hv.w3
   generalize mW3 v=y at *
   refine w_ite (fun c=>?_) fun c=>?_
   ·have c:y.mode=3:=by simpa using c
    have e:mW4 y={ y with win:=mFloor y }:=by unfold mW4;rw [if_pos c]
    rw [e]
    refine w_call (floor_tri b n1 n2 n3 n4 n5 n6 y hy) h fun r w h=>?_
    obtain ⟨hr,h⟩:=h.purP;rw [hr]
    refine w_deref (w_setTo h b (BbrLs.lsM n1 n2 n3 n4 n5 n6 ({ y with win:=mFloor y })) rfl rfl rfl fun w h=>?_)
    exact h.fin
   ·have c:¬ y.mode=3:=by simpa using c
    have e:mW4 y=y:=by unfold mW4;rw [if_neg c]
    rw [e]
    exact h.fin
  ·refine w_deref (w_ld h rfl ?_)
   refine w_ite (fun c=>?_) fun c=>?_
   ·have c:u.first=true:=c
    have e:mW2 u s tso={ u with win:=if addI (sFli s) (sAck s) > u.win then addI (sFli s) (sAck s) else u.win }:=by unfold mW2;rw [if_pos c]
    rw [e]
    refine w_drw h fun w h=>w_deref (w_ld h rfl (w_ld h rfl (w_ld h rfl ?_)))
    refine w_call (satadd_tri (sFli s) (sAck s) hs.fli hs.ack) (h.le (star_mono Le.rfl (star_emp _))) fun r w h=>?_
    obtain ⟨hr,h⟩:=h.purP;rw [hr]
    refine w_chk h rfl (w_deref ?_)
    refine w_setTo h b (BbrLs.lsM n1 n2 n3 n4 n5 n6 ({ u with win:=if addI (sFli s) (sAck s) > u.win then addI (sFli s) (sAck s) else u.win })) rfl rfl rfl fun w h=>?_
    exact ⟨trivial,h.fin⟩
   have c:¬ u.first=true:=by rw [show u.first=false from c];simp
   refine w_ld h rfl ?_
   refine w_ite (fun c2=>?_) fun c2=>?_
   ·have c2:sAck s > 0:=by simpa using c2
    have e:mW2 u s tso=if u.p.full then { u with win:=if mTar u tso < addI u.win (sAck s) then mTar u tso else addI u.win (sAck s) }
      else if u.win < mTar u tso∨sDel s < 10 * u.mss then { u with win:=addI u.win (sAck s) } else u:=by unfold mW2;rw [if_neg c,if_pos c2]
    rw [e]
    have h:Own w0 S R w ((blk b (BbrLs.lsM n1 n2 n3 n4 n5 n6 u)^blk n1 (BbrLs.lsW u.w)^blk n2 (BbrLs.lsR u.r)^blk n3 (BbrLs.lsP u.p)^blk n4 (BbrLs.lsC u.c)^blk n5 (BbrLs.lsB u.b)^blk n6 (BbrLs.lsL u.q))^blk x (Ks.mk K_u8b s)^emp):=h.le (star_mono Le.rfl (star_emp _))
    repeat' (first
     | (refine w_drw h fun w h=>?_)
     | (refine w_deref ?_)
     | (refine w_ldAll h rfl ?_)
     | (refine w_ld h rfl ?_)
     | (refine w_chkAll h ?_)
     | (refine w_chk h rfl ?_)
     | (refine w_setAll h (by rfl) fun w h=>?_)
     | (refine w_new h fun n w h=>?_)
     | (refine w_leave h fun w h=>?_)
     | (refine w_set h rfl fun w h=>?_;dsimp only [upd,over] at h)
     | (refine w_call (bw_tri b n1 n2 n3 n4 n5 n6 u) h fun r w h=>?_;obtain ⟨hr,h⟩:=h.purP;(try dsimp only at hr h);try rw [hr])
     | (refine w_call (bbest_tri n5 u.b) h fun r w h=>?_;obtain ⟨hr,h⟩:=h.purP;(try dsimp only at hr h);try rw [hr])
     | (refine w_call (wide_tri' b n1 n2 n3 n4 n5 n6 u) h fun r w h=>?_;obtain ⟨hr,h⟩:=h.purP;(try dsimp only at hr h);try rw [hr])
     | (refine w_call (Target.win_tri (mBw u) u.b.best (mWide u) tso u.mss hu.bw hu.b.best (U_wide u) ht hu.mssU) h fun r w h=>?_;obtain ⟨hr,h⟩:=h.purP;(try dsimp only at hr h);try rw [hr])
     | (refine w_call (full_tri n3 u.p) h fun r w h=>?_;obtain ⟨hr,h⟩:=h.purP;(try dsimp only at hr h);try rw [hr]))
    refine w_ite (fun c3=>?_) fun c3=>?_
    ·have c3:u.p.full=true:=c3
     rw [if_pos c3]
     refine w_drw h fun w h=>w_deref (w_ld h rfl (w_ld h rfl ?_))
     refine w_call (satadd_tri u.win (sAck s) hu.win hs.ack) h fun r w h=>?_
     obtain ⟨hr,h⟩:=h.purP;rw [hr]
     refine w_deref ?_
     refine w_setTo h b (BbrLs.lsM n1 n2 n3 n4 n5 n6 ({ u with win:=if mTar u tso < addI u.win (sAck s) then mTar u tso else addI u.win (sAck s) })) rfl rfl rfl fun w h=>?_
     exact ⟨trivial,h.fin⟩
    have c3:¬ u.p.full=true:=by rw [show u.p.full=false from c3];simp
    rw [if_neg c3]
    have hms:=hu.mss
    have h:Own w0 S R _ ((blk b (BbrLs.lsM n1 n2 n3 n4 n5 n6 u)^blk n1 (BbrLs.lsW u.w)^blk n2 (BbrLs.lsR u.r)^blk n3 (BbrLs.lsP u.p)^blk n4 (BbrLs.lsC u.c)^blk n5 (BbrLs.lsB u.b)^blk n6 (BbrLs.lsL u.q))^blk x (Ks.mk K_u8b s)^emp):=h.fin
    refine w_join h (fun _=>(blk b (BbrLs.lsM n1 n2 n3 n4 n5 n6 u)^blk n1 (BbrLs.lsW u.w)^blk n2 (BbrLs.lsR u.r)^blk n3 (BbrLs.lsP u.p)^blk n4 (BbrLs.lsC u.c)^blk n5 (BbrLs.lsB u.b)^blk n6 (BbrLs.lsL u.q))^blk x (Ks.mk K_u8b s)^emp) (fun y:Bool=>y=decide (u.win < mTar u tso∨sDel s < 10 * u.mss)) (fun (y:Bool) w hy h=>?_) ?_
    ·rw [hy]
     refine w_ite (fun c4=>?_) fun c4=>?_
     ·have c4:u.win < mTar u tso∨sDel s < 10 * u.mss:=by simpa using c4
      rw [if_pos c4]
      refine w_drw h fun w h=>w_deref (w_ld h rfl (w_ld h rfl ?_))
      refine w_call (satadd_tri u.win (sAck s) hu.win hs.ack) h fun r w h=>?_
      obtain ⟨hr,h⟩:=h.purP;rw [hr]
      refine w_deref ?_
      refine w_setTo h b (BbrLs.lsM n1 n2 n3 n4 n5 n6 ({ u with win:=addI u.win (sAck s) })) rfl rfl rfl fun w h=>?_
      exact ⟨trivial,h.fin⟩
     ·have c4:¬ (u.win < mTar u tso∨sDel s < 10 * u.mss):=by simpa using c4
      rw [if_neg c4]
      exact ⟨trivial,h.fin⟩
    ·refine w_drw h fun w h=>w_deref (w_ld h rfl ?_)
     refine w_ite (fun c4=>?_) fun c4=>?_
     ·have c4:u.win < mTar u tso:=of_decide_eq_true c4
      exact ⟨by simp [c4],h⟩
     ·have c4:¬ u.win < mTar u tso:=of_decide_eq_false c4
      refine w_ld h rfl (w_deref (w_ld h rfl ?_))
      rw [wu (n:=10 * u.mss) (by omega) (by omega)]
      exact ⟨by rw [Bool.eq_iff_iff];simp [c4],h⟩
   ·have c2:¬ sAck s > 0:=by simpa using c2
    have e:mW2 u s tso=u:=by unfold mW2;rw [if_neg c,if_neg c2]
    rw [e]
    exact ⟨trivial,h⟩
theorem upd_tri:Tri Tryz.prog N_bbr_Model_Update [.lf (.ptr (some ⟨b,0⟩)),.agg (Ks.mk K_u8b s),.lf (.int .u64 tso)] [.agg K_i2u6b2] (blk b (BbrLs.lsM n1 n2 n3 n4 n5 n6 m)^blk n1 (BbrLs.lsW m.w)^blk n2 (BbrLs.lsR m.r)^blk n3 (BbrLs.lsP m.p)^blk n4 (BbrLs.lsC m.c)^blk n5 (BbrLs.lsB m.b)^blk n6 (BbrLs.lsL m.q)) (fun r=>pur (r=mSt (mUpd m s tso)) (blk b (BbrLs.lsM n1 n2 n3 n4 n5 n6 ((mUpd m s tso)))^blk n1 (BbrLs.lsW ((mUpd m s tso).w))^blk n2 (BbrLs.lsR ((mUpd m s tso).r))^blk n3 (BbrLs.lsP ((mUpd m s tso).p))^blk n4 (BbrLs.lsC ((mUpd m s tso).c))^blk n5 (BbrLs.lsB ((mUpd m s tso).b))^blk n6 (BbrLs.lsL ((mUpd m s tso).q)))) :=
 tri_0 (call_bbr_Model_Update _ _ _) fun w0 S R h=>by
  unfold W_bbr_Model_Update
  refine w_new h fun x w h=>?_
  refine w_new h fun y w h=>?_
  refine w_ite (fun c=>(by cases c)) fun _=>?_
  have h:Own w0 S R w ((blk b (BbrLs.lsM n1 n2 n3 n4 n5 n6 m)^blk n1 (BbrLs.lsW m.w)^blk n2 (BbrLs.lsR m.r)^blk n3 (BbrLs.lsP m.p)^blk n4 (BbrLs.lsC m.c)^blk n5 (BbrLs.lsB m.b)^blk n6 (BbrLs.lsL m.q))^blk x (Ks.mk K_u8b s)^blk y [.int .i64 0,.int .i64 0,.int .u64 0,.int .u64 0,.int .u64 0,.int .u64 0,.int .u64 0,.int .u64 0,.bool false,.bool false]):=h.fin
  refine w_drw h fun w h=>w_ldAll (x:=s) h rfl (w_deref (w_ld h rfl ?_))
  refine w_call (rupd_tri n2 m.r s) h fun r w h=>?_
  obtain ⟨hr,h⟩:=h.purP;rw [hr]
  refine w_drw h fun w h=>w_ldAll (x:=s) h rfl (w_deref (w_ld h rfl ?_))
  refine w_call (lupd_tri n6 m.q hm.q (rB m.r s) s hs) h fun _ w h=>?_
  refine w_ldAll (x:=s) h rfl ?_
  have e:mUpd m s tso=mU3 (mU2 (mU1 m s) (rB m.r s) s) (rB m.r s) s tso:=rfl
  rw [e]
  have h:Own w0 S R w ((blk b (BbrLs.lsM n1 n2 n3 n4 n5 n6 ((mU1 m s)))^blk n1 (BbrLs.lsW ((mU1 m s).w))^blk n2 (BbrLs.lsR ((mU1 m s).r))^blk n3 (BbrLs.lsP ((mU1 m s).p))^blk n4 (BbrLs.lsC ((mU1 m s).c))^blk n5 (BbrLs.lsB ((mU1 m s).b))^blk n6 (BbrLs.lsL ((mU1 m s).q)))^blk x (Ks.mk K_u8b s)^blk y [.int .i64 0,.int .i64 0,.int .u64 0,.int .u64 0,.int .u64 0,.int .u64 0,.int .u64 0,.int .u64 0,.bool false,.bool false]):=h.fin
  have h1:=hm.u1 hs
  generalize rB m.r s=o at *
  generalize mU1 m s=u at *
  refine w_call (meas_tri b n1 n2 n3 n4 n5 n6 u h1 s hs) h fun _ w h=>?_
  have h2:=h1.meas hs
  have e:mU2 u o s=mLook (mM2 (mM1 (mPipe (mCyc (mMeas u s) s) o s)) s) s o:=rfl
  rw [e]
  generalize mMeas u s=v at *
  have h:Own w0 S R w ((blk b (BbrLs.lsM n1 n2 n3 n4 n5 n6 v)^blk n1 (BbrLs.lsW v.w)^blk n2 (BbrLs.lsR v.r)^blk n3 (BbrLs.lsP v.p)^blk n4 (BbrLs.lsC v.c)^blk n5 (BbrLs.lsB v.b)^blk n6 (BbrLs.lsL v.q))^blk x (Ks.mk K_u8b s)^blk y [.int .i64 0,.int .i64 0,.int .u64 0,.int .u64 0,.int .u64 0,.int .u64 0,.int .u64 0,.int .u64 0,.bool false,.bool false]):=h.fin
  refine w_join h (fun _=>(blk b (BbrLs.lsM n1 n2 n3 n4 n5 n6 ((mCyc v s)))^blk n1 (BbrLs.lsW ((mCyc v s).w))^blk n2 (BbrLs.lsR ((mCyc v s).r))^blk n3 (BbrLs.lsP ((mCyc v s).p))^blk n4 (BbrLs.lsC ((mCyc v s).c))^blk n5 (BbrLs.lsB ((mCyc v s).b))^blk n6 (BbrLs.lsL ((mCyc v s).q)))^blk x (Ks.mk K_u8b s)^blk y [.int .i64 0,.int .i64 0,.int .u64 0,.int .u64 0,.int .u64 0,.int .u64 0,.int .u64 0,.int .u64 0,.bool false,.bool false]) (fun _=>True) (fun _ w _ h=>?_) ?_
  ·have h3:=h2.cyc hs
   generalize mCyc v s=z at *
   repeat' (first
    | (refine w_drw h fun w h=>?_)
    | (refine w_deref ?_)
    | (refine w_ldAll h rfl ?_)
    | (refine w_ld h rfl ?_)
    | (refine w_chkAll h ?_)
    | (refine w_chk h rfl ?_)
    | (refine w_setAll h (by rfl) fun w h=>?_)
    | (refine w_new h fun n w h=>?_)
    | (refine w_leave h fun w h=>?_)
    | (refine w_set h rfl fun w h=>?_;dsimp only [upd,over] at h)
    | (refine w_call (best_tri n1 z.w) h fun r w h=>?_;obtain ⟨hr,h⟩:=h.purP;(try dsimp only at hr h);try rw [hr])
    | (refine w_call (pupd_tri n3 z.p h3.p o (sLim s) z.w.v0 h3.w.v0) h fun r w h=>?_;obtain ⟨hr,h⟩:=h.purP;(try dsimp only at hr h);try rw [hr]))
   have h4:OkM (mPipe z o s):=h3.pipe
   have h:Own w0 S R _ ((blk b (BbrLs.lsM n1 n2 n3 n4 n5 n6 ((mPipe z o s)))^blk n1 (BbrLs.lsW ((mPipe z o s).w))^blk n2 (BbrLs.lsR ((mPipe z o s).r))^blk n3 (BbrLs.lsP ((mPipe z o s).p))^blk n4 (BbrLs.lsC ((mPipe z o s).c))^blk n5 (BbrLs.lsB ((mPipe z o s).b))^blk n6 (BbrLs.lsL ((mPipe z o s).q)))^blk x (Ks.mk K_u8b s)^blk y [.int .i64 0,.int .i64 0,.int .u64 0,.int .u64 0,.int .u64 0,.int .u64 0,.int .u64 0,.int .u64 0,.bool false,.bool false]):=h.fin
   generalize mPipe z o s=a at *
   refine w_call (modes_tri b n1 n2 n3 n4 n5 n6 a h4 s hs) h fun _ w h=>?_
   have h5:=h4.m1.m2 hs
   generalize mM2 (mM1 a) s=a at *
   refine w_ldAll (x:=s) h rfl ?_
   refine w_call (look_tri b n1 n2 n3 n4 n5 n6 a h5 s hs o) h fun _ w h=>?_
   have h6:OkM (mLook a s o):=h5.look hs
   generalize mLook a s o=a at *
   refine w_call (pace_tri b n1 n2 n3 n4 n5 n6 a h6) h fun _ w h=>?_
   have e:mU3 a o s tso=mWindow (mRecover (mPace a) s o) s tso:=rfl
   rw [e]
   have h7:=h6.pace
   generalize mPace a=a at *
   refine w_ldAll (x:=s) h rfl ?_
   refine w_call (rec_tri b n1 n2 n3 n4 n5 n6 a h7 s hs o) h fun _ w h=>?_
   have h8:OkM (mRecover a s o):=h7.recover hs
   generalize mRecover a s o=a at *
   refine w_ldAll (x:=s) h rfl ?_
   refine w_call (window_tri b n1 n2 n3 n4 n5 n6 a h8 s hs tso ht) h fun _ w h=>?_
   generalize mWindow a s tso=a at *
   refine w_call (state_tri b n1 n2 n3 n4 n5 n6 a) h fun r w h=>?_
   obtain ⟨hr,h⟩:=h.purP;rw [hr]
   refine w_setAll h (by rfl) fun w h=>?_
   refine w_ldAll (x:=mSt a) h rfl ?_
   exact Own.retP rfl h.fin
  ·refine w_join h (fun _=>(blk b (BbrLs.lsM n1 n2 n3 n4 n5 n6 v)^blk n1 (BbrLs.lsW v.w)^blk n2 (BbrLs.lsR v.r)^blk n3 (BbrLs.lsP v.p)^blk n4 (BbrLs.lsC v.c)^blk n5 (BbrLs.lsB v.b)^blk n6 (BbrLs.lsL v.q))^blk x (Ks.mk K_u8b s)^blk y [.int .i64 0,.int .i64 0,.int .u64 0,.int .u64 0,.int .u64 0,.int .u64 0,.int .u64 0,.int .u64 0,.bool false,.bool false]) (fun y:Bool=>y=decide (v.mode=2∧v.q.use=false)) (fun (y:Bool) w hy h=>?_) ?_
   ·rw [hy]
    refine w_ite (fun c=>?_) fun c=>?_
    ·have c:v.mode=2∧v.q.use=false:=by simpa using c
     have e:mCyc v s={ v with c:=cU v.c (sNow s) v.b.best (sLost s) (sFli s) (mBdp v 320) (mBdp v 256) }:=by unfold mCyc;rw [if_pos c]
     rw [e]
     repeat' (first
      | (refine w_drw h fun w h=>?_)
      | (refine w_deref ?_)
      | (refine w_ldAll h rfl ?_)
      | (refine w_ld h rfl ?_)
      | (refine w_chkAll h ?_)
      | (refine w_chk h rfl ?_)
      | (refine w_setAll h (by rfl) fun w h=>?_)
      | (refine w_new h fun n w h=>?_)
      | (refine w_leave h fun w h=>?_)
      | (refine w_set h rfl fun w h=>?_;dsimp only [upd,over] at h)
      | (refine w_call (bbest_tri n5 v.b) h fun r w h=>?_;obtain ⟨hr,h⟩:=h.purP;(try dsimp only at hr h);try rw [hr])
      | (refine w_call (bdpm_tri b n1 n2 n3 n4 n5 n6 v h2 320 (U_lit _)) h fun r w h=>?_;obtain ⟨hr,h⟩:=h.purP;(try dsimp only at hr h);try rw [hr])
      | (refine w_call (bdpm_tri b n1 n2 n3 n4 n5 n6 v h2 256 (U_lit _)) h fun r w h=>?_;obtain ⟨hr,h⟩:=h.purP;(try dsimp only at hr h);try rw [hr]))
     refine w_call (cupd_tri n4 v.c h2.c (sNow s) v.b.best (sLost s) (sFli s) (mBdp v 320) (mBdp v 256) hs.now) h fun _ w h=>?_
     exact ⟨trivial,h.fin⟩
    ·have c:¬ (v.mode=2∧v.q.use=false):=by simpa using c
     have e:mCyc v s=v:=by unfold mCyc;rw [if_neg c]
     rw [e]
     exact ⟨trivial,h.fin⟩
   ·repeat' (first
     | (refine w_drw h fun w h=>?_)
     | (refine w_deref ?_)
     | (refine w_ldAll h rfl ?_)
     | (refine w_ld h rfl ?_)
     | (refine w_chkAll h ?_)
     | (refine w_chk h rfl ?_)
     | (refine w_setAll h (by rfl) fun w h=>?_)
     | (refine w_new h fun n w h=>?_)
     | (refine w_leave h fun w h=>?_)
     | (refine w_set h rfl fun w h=>?_;dsimp only [upd,over] at h))
    refine w_ite (fun c=>?_) fun c=>?_
    ·have c:v.mode=2:=by simpa using c
     repeat' (first
      | (refine w_drw h fun w h=>?_)
      | (refine w_deref ?_)
      | (refine w_ldAll h rfl ?_)
      | (refine w_ld h rfl ?_)
      | (refine w_chkAll h ?_)
      | (refine w_chk h rfl ?_)
      | (refine w_setAll h (by rfl) fun w h=>?_)
      | (refine w_new h fun n w h=>?_)
      | (refine w_leave h fun w h=>?_)
      | (refine w_set h rfl fun w h=>?_;dsimp only [upd,over] at h)
      | (refine w_call (pol_tri b n1 n2 n3 n4 n5 n6 v) h fun r w h=>?_;obtain ⟨hr,h⟩:=h.purP;(try dsimp only at hr h);try rw [hr]))
     exact ⟨by rw [Bool.eq_iff_iff];simp [c],h.fin⟩
    ·have c:¬ v.mode=2:=by simpa using c
     exact ⟨by simp [c],h.fin⟩
end
end BbrU

end Go.X
