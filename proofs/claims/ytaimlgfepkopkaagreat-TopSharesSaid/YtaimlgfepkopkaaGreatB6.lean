/- Contracts and plain facts: BbrO BbrU SockA SockB SockM SockC SockD SockE. -/
import Derived.Test.YtaimlgfepkopkaaGreatB0
import Derived.Test.YtaimlgfepkopkaaGreatB1
import Derived.Test.YtaimlgfepkopkaaGreatB4
import Derived.Test.YtaimlgfepkopkaaGreatB5
import Derived.Test.YtaimlgfepkopkaaGreatK
import Derived.Test.YtaimlgfepkopkaaGreatF0
import Derived.Test.YtaimlgfepkopkaaGreatF1
import Derived.Test.YtaimlgfepkopkaaGreatF2
set_option linter.unusedVariables false
set_option linter.unusedSimpArgs false
set_option linter.unusedSectionVars false
namespace Go.X
open Go.Proofs
namespace BbrO
open Arith ArithC _root_.Go.X.Target BbrM BbrMm BbrP BbrW BbrQ BbrL BbrN
section
variable (b n1 n2 n3 n4 n5 n6 : Nat) (m : Md) (hm : OkM m) (s : Sm) (hs : OkS s) (o : Bool)
include hm hs
theorem meas_tri:Tri Tryz.prog N_bbr_Model_measure [.lf (.ptr (some ⟨b,0⟩)),.agg (Ks.mk K_u8b s)] [] (blk b (BbrLs.lsM n1 n2 n3 n4 n5 n6 m)^blk n1 (BbrLs.lsW m.w)^blk n2 (BbrLs.lsR m.r)^blk n3 (BbrLs.lsP m.p)^blk n4 (BbrLs.lsC m.c)^blk n5 (BbrLs.lsB m.b)^blk n6 (BbrLs.lsL m.q)) (fun _=>blk b (BbrLs.lsM n1 n2 n3 n4 n5 n6 ((mMeas m s)))^blk n1 (BbrLs.lsW ((mMeas m s).w))^blk n2 (BbrLs.lsR ((mMeas m s).r))^blk n3 (BbrLs.lsP ((mMeas m s).p))^blk n4 (BbrLs.lsC ((mMeas m s).c))^blk n5 (BbrLs.lsB ((mMeas m s).b))^blk n6 (BbrLs.lsL ((mMeas m s).q))) :=
 tri_0 (call_bbr_Model_measure _ _) fun w0 S R h=>by
  unfold W_bbr_Model_measure
  refine w_new h fun x w h=>?_
  have h:Own w0 S R w ((blk b (BbrLs.lsM n1 n2 n3 n4 n5 n6 m)^blk n1 (BbrLs.lsW m.w)^blk n2 (BbrLs.lsR m.r)^blk n3 (BbrLs.lsP m.p)^blk n4 (BbrLs.lsC m.c)^blk n5 (BbrLs.lsB m.b)^blk n6 (BbrLs.lsL m.q))^blk x (Ks.mk K_u8b s)):=h.fin
  refine w_join h (fun _=>(blk b (BbrLs.lsM n1 n2 n3 n4 n5 n6 m)^blk n1 (BbrLs.lsW m.w)^blk n2 (BbrLs.lsR m.r)^blk n3 (BbrLs.lsP m.p)^blk n4 (BbrLs.lsC m.c)^blk n5 (BbrLs.lsB m.b)^blk n6 (BbrLs.lsL m.q))^blk x (Ks.mk K_u8b s)) (fun _=>¬ (sAck s=0∨sTim s=0)) (fun _ w c h=>?_) ?_
  ·repeat' (first
    | (refine w_drw h fun w h=>?_)
    | (refine w_deref ?_)
    | (refine w_ldAll h rfl ?_)
    | (refine w_ld h rfl ?_)
    | (refine w_chkAll h ?_)
    | (refine w_chk h rfl ?_)
    | (refine w_setAll h (by rfl) fun w h=>?_)
    | (refine w_new h fun n w h=>?_)
    | (refine w_leave h fun w h=>?_)
    | (refine w_set h rfl fun w h=>?_;dsimp only [upd,over] at h)
    | (refine w_call (satsub_tri (sDel s) (sPri s) hs.del hs.pri) h fun r w h=>?_;obtain ⟨hr,h⟩:=h.purP;(try dsimp only at hr h);try rw [hr])
    | (refine w_call (md_tri (subI (sDel s) (sPri s)) 1000000000 (sTim s) (U_sub hs.del hs.pri) (U_lit _) hs.tim) h fun r w h=>?_;obtain ⟨hr,h⟩:=h.purP;(try dsimp only at hr h);try rw [hr]))
   have hU:U (mK s):=U_md (U_sub hs.del hs.pri) (U_lit _) hs.tim
   refine w_join h (fun _=>(blk b (BbrLs.lsM n1 n2 n3 n4 n5 n6 m)^blk n1 (BbrLs.lsW m.w)^blk n2 (BbrLs.lsR m.r)^blk n3 (BbrLs.lsP m.p)^blk n4 (BbrLs.lsC m.c)^blk n5 (BbrLs.lsB m.b)^blk n6 (BbrLs.lsL m.q))^blk x (Ks.mk K_u8b s)) (fun y:Bool=>y=decide (sLim s=false∨mK s ≥ m.w.v0)) (fun (y:Bool) w hy h=>?_) ?_
   ·rw [hy]
    refine w_ite (fun c2=>?_) fun c2=>?_
    ·have c2:sLim s=false∨mK s ≥ m.w.v0:=by simpa using c2
     have e:mMeas m s={ m with w:=wUpd m.w m.r.n (mK s) }:=by unfold mMeas;rw [if_neg c,if_pos c2]
     rw [e]
     repeat' (first
      | (refine w_drw h fun w h=>?_)
      | (refine w_deref ?_)
      | (refine w_ldAll h rfl ?_)
      | (refine w_ld h rfl ?_)
      | (refine w_chkAll h ?_)
      | (refine w_chk h rfl ?_)
      | (refine w_setAll h (by rfl) fun w h=>?_)
      | (refine w_new h fun n w h=>?_)
      | (refine w_leave h fun w h=>?_)
      | (refine w_set h rfl fun w h=>?_;dsimp only [upd,over] at h)
      | (refine w_call (count_tri n2 m.r) h fun r w h=>?_;obtain ⟨hr,h⟩:=h.purP;(try dsimp only at hr h);try rw [hr])
      | (refine w_call (maxupd_tri n1 m.w hm.w m.r.n (mK s) hm.r.n hU) h fun r w h=>?_;obtain ⟨hr,h⟩:=h.purP;(try dsimp only at hr h);try rw [hr]))
     exact h.fin
    ·have c2:¬ (sLim s=false∨mK s ≥ m.w.v0):=by simpa using c2
     have e:mMeas m s=m:=by unfold mMeas;rw [if_neg c,if_neg c2]
     rw [e]
     exact h.fin
   ·repeat' (first
     | (refine w_drw h fun w h=>?_)
     | (refine w_deref ?_)
     | (refine w_ldAll h rfl ?_)
     | (refine w_ld h rfl ?_)
     | (refine w_chkAll h ?_)
     | (refine w_chk h rfl ?_)
     | (refine w_setAll h (by rfl) fun w h=>?_)
     | (refine w_new h fun n w h=>?_)
     | (refine w_leave h fun w h=>?_)
     | (refine w_set h rfl fun w h=>?_;dsimp only [upd,over] at h))
    refine w_ite (fun c2=>?_) fun c2=>?_
    ·have c2:sLim s=false:=by simpa using c2
     exact ⟨by simp [c2],h.fin⟩
    ·have c2:sLim s=true:=by simpa using c2
     repeat' (first
      | (refine w_drw h fun w h=>?_)
      | (refine w_deref ?_)
      | (refine w_ldAll h rfl ?_)
      | (refine w_ld h rfl ?_)
      | (refine w_chkAll h ?_)
      | (refine w_chk h rfl ?_)
      | (refine w_setAll h (by rfl) fun w h=>?_)
      | (refine w_new h fun n w h=>?_)
      | (refine w_leave h fun w h=>?_)
      | (refine w_set h rfl fun w h=>?_;dsimp only [upd,over] at h)
      | (refine w_call (best_tri n1 m.w) h fun r w h=>?_;obtain ⟨hr,h⟩:=h.purP;(try dsimp only at hr h);try rw [hr]))
     exact ⟨by rw [Bool.eq_iff_iff];simp [c2,mK],h.fin⟩
  ·repeat' (first
    | (refine w_drw h fun w h=>?_)
    | (refine w_deref ?_)
    | (refine w_ldAll h rfl ?_)
    | (refine w_ld h rfl ?_)
    | (refine w_chkAll h ?_)
    | (refine w_chk h rfl ?_)
    | (refine w_setAll h (by rfl) fun w h=>?_)
    | (refine w_new h fun n w h=>?_)
    | (refine w_leave h fun w h=>?_)
    | (refine w_set h rfl fun w h=>?_;dsimp only [upd,over] at h))
   refine w_ite (fun c=>?_) fun c=>?_
   ·have c:sAck s=0:=by simpa using c
    have e:mMeas m s=m:=by unfold mMeas;rw [if_pos (.inl c)]
    rw [e]
    exact h.fin
   repeat' (first
    | (refine w_drw h fun w h=>?_)
    | (refine w_deref ?_)
    | (refine w_ldAll h rfl ?_)
    | (refine w_ld h rfl ?_)
    | (refine w_chkAll h ?_)
    | (refine w_chk h rfl ?_)
    | (refine w_setAll h (by rfl) fun w h=>?_)
    | (refine w_new h fun n w h=>?_)
    | (refine w_leave h fun w h=>?_)
    | (refine w_set h rfl fun w h=>?_;dsimp only [upd,over] at h))
   have c:¬ sAck s=0:=by simpa using c
   refine w_ite (fun c2=>?_) fun c2=>?_
   ·have c2:sTim s=0:=by simpa using c2
    have e:mMeas m s=m:=by unfold mMeas;rw [if_pos (.inr c2)]
    rw [e]
    exact h.fin
   ·have c2:¬ sTim s=0:=by simpa using c2
    exact ⟨fun hh=>hh.elim c c2,h.fin⟩
theorem modes_tri:Tri Tryz.prog N_bbr_Model_modes [.lf (.ptr (some ⟨b,0⟩)),.agg (Ks.mk K_u8b s)] [] (blk b (BbrLs.lsM n1 n2 n3 n4 n5 n6 m)^blk n1 (BbrLs.lsW m.w)^blk n2 (BbrLs.lsR m.r)^blk n3 (BbrLs.lsP m.p)^blk n4 (BbrLs.lsC m.c)^blk n5 (BbrLs.lsB m.b)^blk n6 (BbrLs.lsL m.q)) (fun _=>blk b (BbrLs.lsM n1 n2 n3 n4 n5 n6 ((mM2 (mM1 m) s)))^blk n1 (BbrLs.lsW ((mM2 (mM1 m) s).w))^blk n2 (BbrLs.lsR ((mM2 (mM1 m) s).r))^blk n3 (BbrLs.lsP ((mM2 (mM1 m) s).p))^blk n4 (BbrLs.lsC ((mM2 (mM1 m) s).c))^blk n5 (BbrLs.lsB ((mM2 (mM1 m) s).b))^blk n6 (BbrLs.lsL ((mM2 (mM1 m) s).q))) :=
 tri_0 (call_bbr_Model_modes _ _) fun w0 S R h=>by
  unfold W_bbr_Model_modes
  refine w_new h fun x w h=>?_
  have h:Own w0 S R w ((blk b (BbrLs.lsM n1 n2 n3 n4 n5 n6 m)^blk n1 (BbrLs.lsW m.w)^blk n2 (BbrLs.lsR m.r)^blk n3 (BbrLs.lsP m.p)^blk n4 (BbrLs.lsC m.c)^blk n5 (BbrLs.lsB m.b)^blk n6 (BbrLs.lsL m.q))^blk x (Ks.mk K_u8b s)):=h.fin
  refine w_loopE (fun (_:Unit) (u:Md)=>(blk b (BbrLs.lsM n1 n2 n3 n4 n5 n6 u)^blk n1 (BbrLs.lsW u.w)^blk n2 (BbrLs.lsR u.r)^blk n3 (BbrLs.lsP u.p)^blk n4 (BbrLs.lsC u.c)^blk n5 (BbrLs.lsB u.b)^blk n6 (BbrLs.lsL u.q))^blk x (Ks.mk K_u8b s)) (fun _ u=>(OkM u∧mM1 u=mM1 m)) (fun _ u=>if u.mode=0 then 1 else 0) m h ⟨hm,rfl⟩ ?_
  rintro K _ u w ⟨hu,heq⟩ h hK
  rw [← heq]
  refine w_join h (fun _=>(blk b (BbrLs.lsM n1 n2 n3 n4 n5 n6 u)^blk n1 (BbrLs.lsW u.w)^blk n2 (BbrLs.lsR u.r)^blk n3 (BbrLs.lsP u.p)^blk n4 (BbrLs.lsC u.c)^blk n5 (BbrLs.lsB u.b)^blk n6 (BbrLs.lsL u.q))^blk x (Ks.mk K_u8b s)) (fun y:Bool=>y=decide (u.mode=0∧u.p.full=true)) (fun (y:Bool) w hy h=>?_) ?_
  ·rw [hy]
   refine w_ite (fun c=>?_) fun c=>?_
   ·have c:u.mode=0∧u.p.full=true:=by simpa using c
    refine w_deref (w_setTo h b (BbrLs.lsM n1 n2 n3 n4 n5 n6 ({ u with mode:=1 })) rfl rfl rfl fun w h=>?_)
    refine hK () { u with mode:=1 } w ⟨{ hu with mode:=by simp },?_⟩ h.fin ?_
    ·rw [← heq]
     have e1:mM1 u={ u with mode:=1 }:=by unfold mM1;rw [if_pos c]
     rw [e1]
     unfold mM1
     rw [if_neg (by simp)]
    ·rw [if_pos c.1,if_neg (by simp)];omega
   have c:¬ (u.mode=0∧u.p.full=true):=by simpa using c
   have e1:mM1 u=u:=by unfold mM1;rw [if_neg c]
   rw [e1]
   refine w_join h (fun _=>(blk b (BbrLs.lsM n1 n2 n3 n4 n5 n6 u)^blk n1 (BbrLs.lsW u.w)^blk n2 (BbrLs.lsR u.r)^blk n3 (BbrLs.lsP u.p)^blk n4 (BbrLs.lsC u.c)^blk n5 (BbrLs.lsB u.b)^blk n6 (BbrLs.lsL u.q))^blk x (Ks.mk K_u8b s)) (fun y:Bool=>y=decide (u.mode=1∧u.b.best > 0∧sFli s≤mBdp u 256)) (fun (y:Bool) w hy h=>?_) ?_
   ·rw [hy]
    refine w_ite (fun c2=>?_) fun c2=>?_
    ·have c2:u.mode=1∧u.b.best > 0∧sFli s≤mBdp u 256:=by simpa using c2
     have e:mM2 u s=mCruise u (sNow s):=by unfold mM2;rw [if_pos c2]
     rw [e]
     refine w_ld h rfl ?_
     refine w_call (cruise_tri b n1 n2 n3 n4 n5 n6 u (sNow s)) h fun _ w h=>?_
     exact h.fin
    ·have c2:¬ (u.mode=1∧u.b.best > 0∧sFli s≤mBdp u 256):=by simpa using c2
     have e:mM2 u s=u:=by unfold mM2;rw [if_neg c2]
     rw [e]
     exact h.fin
   ·repeat' (first
     | (refine w_drw h fun w h=>?_)
     | (refine w_deref ?_)
     | (refine w_ldAll h rfl ?_)
     | (refine w_ld h rfl ?_)
     | (refine w_chkAll h ?_)
     | (refine w_chk h rfl ?_)
     | (refine w_setAll h (by rfl) fun w h=>?_)
     | (refine w_new h fun n w h=>?_)
     | (refine w_leave h fun w h=>?_)
     | (refine w_set h rfl fun w h=>?_;dsimp only [upd,over] at h))
    refine w_ite (fun c2=>?_) fun c2=>?_
    ·have c2:u.mode=1:=by simpa using c2
     repeat' (first
      | (refine w_drw h fun w h=>?_)
      | (refine w_deref ?_)
      | (refine w_ldAll h rfl ?_)
      | (refine w_ld h rfl ?_)
      | (refine w_chkAll h ?_)
      | (refine w_chk h rfl ?_)
      | (refine w_setAll h (by rfl) fun w h=>?_)
      | (refine w_new h fun n w h=>?_)
      | (refine w_leave h fun w h=>?_)
      | (refine w_set h rfl fun w h=>?_;dsimp only [upd,over] at h)
      | (refine w_call (bbest_tri n5 u.b) h fun r w h=>?_;obtain ⟨hr,h⟩:=h.purP;(try dsimp only at hr h);try rw [hr]))
     refine w_ite (fun c3=>?_) fun c3=>?_
     ·have c3:u.b.best > 0:=by simpa using c3
      repeat' (first
       | (refine w_drw h fun w h=>?_)
       | (refine w_deref ?_)
       | (refine w_ldAll h rfl ?_)
       | (refine w_ld h rfl ?_)
       | (refine w_chkAll h ?_)
       | (refine w_chk h rfl ?_)
       | (refine w_setAll h (by rfl) fun w h=>?_)
       | (refine w_new h fun n w h=>?_)
       | (refine w_leave h fun w h=>?_)
       | (refine w_set h rfl fun w h=>?_;dsimp only [upd,over] at h)
       | (refine w_call (bdpm_tri b n1 n2 n3 n4 n5 n6 u hu 256 (U_lit _)) h fun r w h=>?_;obtain ⟨hr,h⟩:=h.purP;(try dsimp only at hr h);try rw [hr]))
      exact ⟨by rw [Bool.eq_iff_iff];simp [c2,c3],h.fin⟩
     ·have c3:¬ u.b.best > 0:=by simpa using c3
      exact ⟨by simp [c3],h.fin⟩
    ·have c2:¬ u.mode=1:=by simpa using c2
     exact ⟨by simp [c2],h.fin⟩
  ·repeat' (first
    | (refine w_drw h fun w h=>?_)
    | (refine w_deref ?_)
    | (refine w_ldAll h rfl ?_)
    | (refine w_ld h rfl ?_)
    | (refine w_chkAll h ?_)
    | (refine w_chk h rfl ?_)
    | (refine w_setAll h (by rfl) fun w h=>?_)
    | (refine w_new h fun n w h=>?_)
    | (refine w_leave h fun w h=>?_)
    | (refine w_set h rfl fun w h=>?_;dsimp only [upd,over] at h))
   refine w_ite (fun c=>?_) fun c=>?_
   ·have c:u.mode=0:=by simpa using c
    repeat' (first
     | (refine w_drw h fun w h=>?_)
     | (refine w_deref ?_)
     | (refine w_ldAll h rfl ?_)
     | (refine w_ld h rfl ?_)
     | (refine w_chkAll h ?_)
     | (refine w_chk h rfl ?_)
     | (refine w_setAll h (by rfl) fun w h=>?_)
     | (refine w_new h fun n w h=>?_)
     | (refine w_leave h fun w h=>?_)
     | (refine w_set h rfl fun w h=>?_;dsimp only [upd,over] at h)
     | (refine w_call (full_tri n3 u.p) h fun r w h=>?_;obtain ⟨hr,h⟩:=h.purP;(try dsimp only at hr h);try rw [hr]))
    exact ⟨by rw [Bool.eq_iff_iff];simp [c],h.fin⟩
   ·have c:¬ u.mode=0:=by simpa using c
    exact ⟨by simp [c],h.fin⟩
theorem look_tri:Tri Tryz.prog N_bbr_Model_look [.lf (.ptr (some ⟨b,0⟩)),.agg (Ks.mk K_u8b s),.lf (.bool o)] [] (blk b (BbrLs.lsM n1 n2 n3 n4 n5 n6 m)^blk n1 (BbrLs.lsW m.w)^blk n2 (BbrLs.lsR m.r)^blk n3 (BbrLs.lsP m.p)^blk n4 (BbrLs.lsC m.c)^blk n5 (BbrLs.lsB m.b)^blk n6 (BbrLs.lsL m.q)) (fun _=>blk b (BbrLs.lsM n1 n2 n3 n4 n5 n6 ((mLook m s o)))^blk n1 (BbrLs.lsW ((mLook m s o).w))^blk n2 (BbrLs.lsR ((mLook m s o).r))^blk n3 (BbrLs.lsP ((mLook m s o).p))^blk n4 (BbrLs.lsC ((mLook m s o).c))^blk n5 (BbrLs.lsB ((mLook m s o).b))^blk n6 (BbrLs.lsL ((mLook m s o).q))) :=
 tri_0 (call_bbr_Model_look _ _ _) fun w0 S R h=>by
  unfold W_bbr_Model_look
  refine w_new h fun x w h=>?_
  have h:Own w0 S R w ((blk b (BbrLs.lsM n1 n2 n3 n4 n5 n6 m)^blk n1 (BbrLs.lsW m.w)^blk n2 (BbrLs.lsR m.r)^blk n3 (BbrLs.lsP m.p)^blk n4 (BbrLs.lsC m.c)^blk n5 (BbrLs.lsB m.b)^blk n6 (BbrLs.lsL m.q))^blk x (Ks.mk K_u8b s)):=h.fin
  repeat' (first
   | (refine w_drw h fun w h=>?_)
   | (refine w_deref ?_)
   | (refine w_ldAll h rfl ?_)
   | (refine w_ld h rfl ?_)
   | (refine w_chkAll h ?_)
   | (refine w_chk h rfl ?_)
   | (refine w_setAll h (by rfl) fun w h=>?_)
   | (refine w_new h fun n w h=>?_)
   | (refine w_leave h fun w h=>?_)
   | (refine w_set h rfl fun w h=>?_;dsimp only [upd,over] at h)
   | (refine w_call (floor_tri b n1 n2 n3 n4 n5 n6 m hm) h fun r w h=>?_;obtain ⟨hr,h⟩:=h.purP;(try dsimp only at hr h);try rw [hr])
   | (refine w_call (bupd_tri n5 m.b hm.b (sNow s) (sRtt s) (sFli s) (mFloor m) o hs.now hs.rtt) h fun r w h=>?_;obtain ⟨hr,h⟩:=h.purP;(try dsimp only at hr h);try rw [hr]))
  have e:mLook m s o=mProbed { m with b:=(mPr m s o).2 } (mPr m s o).1 (sNow s):=rfl
  rw [e]
  have h:Own w0 S R w ((blk b (BbrLs.lsM n1 n2 n3 n4 n5 n6 (({ m with b:=(mPr m s o).2 })))^blk n1 (BbrLs.lsW (({ m with b:=(mPr m s o).2 }).w))^blk n2 (BbrLs.lsR (({ m with b:=(mPr m s o).2 }).r))^blk n3 (BbrLs.lsP (({ m with b:=(mPr m s o).2 }).p))^blk n4 (BbrLs.lsC (({ m with b:=(mPr m s o).2 }).c))^blk n5 (BbrLs.lsB (({ m with b:=(mPr m s o).2 }).b))^blk n6 (BbrLs.lsL (({ m with b:=(mPr m s o).2 }).q)))^blk x (Ks.mk K_u8b s)):=h.fin
  change ite' (mPr m s o).1.1 _ (ite' (mPr m s o).1.2 _ _) w
  generalize (mPr m s o).1=r at *
  generalize { m with b:=(mPr m s o).2 }=u at *
  refine w_ite (fun c=>?_) fun c=>?_
  ·have c:r.1=true:=c
   have e:mProbed u r (sNow s)={ u with sav:=if u.win > u.sav then u.win else u.sav,mode:=3 }:=by unfold mProbed;rw [if_pos c]
   rw [e]
   refine w_drw h fun w h=>w_deref (w_deref (w_ld h rfl (w_ld h rfl (w_deref ?_))))
   refine w_setTo h b (BbrLs.lsM n1 n2 n3 n4 n5 n6 ({ u with sav:=if u.win > u.sav then u.win else u.sav })) rfl rfl rfl fun w h=>?_
   refine w_deref (w_setTo h b (BbrLs.lsM n1 n2 n3 n4 n5 n6 ({ u with sav:=if u.win > u.sav then u.win else u.sav,mode:=3 })) rfl rfl rfl fun w h=>?_)
   exact h.fin
  have c:r.1=false:=c
  refine w_ite (fun c2=>?_) fun c2=>?_
  ·have c2:r.2=true:=c2
   have e:mProbed u r (sNow s)=if u.p.full then mCruise { mBack u with mode:=0 } (sNow s) else { mBack u with mode:=0 }:=by unfold mProbed;rw [if_neg (by rw [c];simp),if_pos c2]
   rw [e]
   refine w_call (back_tri b n1 n2 n3 n4 n5 n6 u) h fun _ w h=>?_
   refine w_deref (w_setTo h b (BbrLs.lsM n1 n2 n3 n4 n5 n6 ({ mBack u with mode:=0 })) rfl rfl rfl fun w h=>?_)
   refine w_deref (w_ld h rfl ?_)
   refine w_call (full_tri n3 u.p) h fun r w h=>?_
   obtain ⟨hr,h⟩:=h.purP;rw [hr]
   refine w_ite (fun c3=>?_) fun c3=>?_
   ·have c3:u.p.full=true:=c3
    rw [if_pos c3]
    refine w_ld h rfl ?_
    refine w_call (cruise_tri b n1 n2 n3 n4 n5 n6 { mBack u with mode:=0 } (sNow s)) h fun _ w h=>?_
    exact h.fin
   ·have c3:u.p.full=false:=c3
    rw [if_neg (by rw [c3];simp)]
    exact h.fin
  ·have c2:r.2=false:=c2
   have e:mProbed u r (sNow s)=u:=by unfold mProbed;rw [if_neg (by rw [c];simp),if_neg (by rw [c2];simp)]
   rw [e]
   exact h.fin
theorem rec_tri:Tri Tryz.prog N_bbr_Model_recover [.lf (.ptr (some ⟨b,0⟩)),.agg (Ks.mk K_u8b s),.lf (.bool o)] [] (blk b (BbrLs.lsM n1 n2 n3 n4 n5 n6 m)^blk n1 (BbrLs.lsW m.w)^blk n2 (BbrLs.lsR m.r)^blk n3 (BbrLs.lsP m.p)^blk n4 (BbrLs.lsC m.c)^blk n5 (BbrLs.lsB m.b)^blk n6 (BbrLs.lsL m.q)) (fun _=>blk b (BbrLs.lsM n1 n2 n3 n4 n5 n6 ((mRecover m s o)))^blk n1 (BbrLs.lsW ((mRecover m s o).w))^blk n2 (BbrLs.lsR ((mRecover m s o).r))^blk n3 (BbrLs.lsP ((mRecover m s o).p))^blk n4 (BbrLs.lsC ((mRecover m s o).c))^blk n5 (BbrLs.lsB ((mRecover m s o).b))^blk n6 (BbrLs.lsL ((mRecover m s o).q))) :=
 tri_0 (call_bbr_Model_recover _ _ _) fun w0 S R h=>by
  unfold W_bbr_Model_recover
  refine w_new h fun x w h=>?_
  have h:Own w0 S R w ((blk b (BbrLs.lsM n1 n2 n3 n4 n5 n6 m)^blk n1 (BbrLs.lsW m.w)^blk n2 (BbrLs.lsR m.r)^blk n3 (BbrLs.lsP m.p)^blk n4 (BbrLs.lsC m.c)^blk n5 (BbrLs.lsB m.b)^blk n6 (BbrLs.lsL m.q))^blk x (Ks.mk K_u8b s)):=h.fin
  refine w_join h (fun _=>(blk b (BbrLs.lsM n1 n2 n3 n4 n5 n6 m)^blk n1 (BbrLs.lsW m.w)^blk n2 (BbrLs.lsR m.r)^blk n3 (BbrLs.lsP m.p)^blk n4 (BbrLs.lsC m.c)^blk n5 (BbrLs.lsB m.b)^blk n6 (BbrLs.lsL m.q))^blk x (Ks.mk K_u8b s)) (fun y:Bool=>y=decide (sLost s > 0∧m.rec'=false)) (fun (y:Bool) w hy h=>?_) ?_
  ·rw [hy]
   refine w_ite (fun c=>?_) fun c=>?_
   ·have c:sLost s > 0∧m.rec'=false:=by simpa using c
    have e:mRecover m s o={ m with rec':=true,first:=true,til:=addI (sDel s) (sFli s),sav:=if m.win > m.sav then m.win else m.sav }:=by unfold mRecover;rw [if_pos c]
    rw [e]
    refine w_ld h rfl (w_ld h rfl ?_)
    refine w_call (satadd_tri (sDel s) (sFli s) hs.del hs.fli) (h.le ((star_comm _ _).trans (star_mono Le.rfl (star_emp _)))) fun r w h=>?_
    obtain ⟨hr,h⟩:=h.purP;rw [hr]
    refine w_deref (w_setTo h b (BbrLs.lsM n1 n2 n3 n4 n5 n6 ({ m with rec':=true })) rfl rfl rfl fun w h=>?_)
    refine w_deref (w_setTo h b (BbrLs.lsM n1 n2 n3 n4 n5 n6 ({ m with rec':=true,first:=true })) rfl rfl rfl fun w h=>?_)
    refine w_deref (w_setTo h b (BbrLs.lsM n1 n2 n3 n4 n5 n6 ({ m with rec':=true,first:=true,til:=addI (sDel s) (sFli s) })) rfl rfl rfl fun w h=>?_)
    refine w_drw h fun w h=>w_deref (w_deref (w_ld h rfl (w_ld h rfl (w_deref ?_))))
    refine w_setTo h b (BbrLs.lsM n1 n2 n3 n4 n5 n6 ({ m with rec':=true,first:=true,til:=addI (sDel s) (sFli s),sav:=if m.win > m.sav then m.win else m.sav })) rfl rfl rfl fun w h=>?_
    exact h.fin
   have c:¬ (sLost s > 0∧m.rec'=false):=by simpa using c
   refine w_deref (w_ld h rfl ?_)
   refine w_ite (fun c2=>?_) fun c2=>?_
   ·have c2:m.rec'=true:=c2
    have e:mRecover m s o=if sDel s < m.til then { m with first:=m.first && !o } else mOver { m with first:=m.first && !o }:=by unfold mRecover;rw [if_neg c,if_pos c2]
    rw [e]
    refine w_deref (w_ld h rfl (w_deref ?_))
    refine w_setTo h b (BbrLs.lsM n1 n2 n3 n4 n5 n6 ({ m with first:=m.first && !o })) rfl rfl rfl fun w h=>?_
    refine w_drw h fun w h=>w_ld h rfl (w_deref (w_ld h rfl ?_))
    refine w_ite (fun c3=>?_) fun c3=>?_
    ·have c3:sDel s < m.til:=by simpa using c3
     rw [if_pos c3]
     exact h.fin
    have c3:¬ sDel s < m.til:=by simpa using c3
    rw [if_neg c3]
    have h:Own w0 S R w ((blk b (BbrLs.lsM n1 n2 n3 n4 n5 n6 (({ m with first:=m.first && !o })))^blk n1 (BbrLs.lsW (({ m with first:=m.first && !o }).w))^blk n2 (BbrLs.lsR (({ m with first:=m.first && !o }).r))^blk n3 (BbrLs.lsP (({ m with first:=m.first && !o }).p))^blk n4 (BbrLs.lsC (({ m with first:=m.first && !o }).c))^blk n5 (BbrLs.lsB (({ m with first:=m.first && !o }).b))^blk n6 (BbrLs.lsL (({ m with first:=m.first && !o }).q)))^blk x (Ks.mk K_u8b s)):=h.fin
    generalize { m with first:=m.first && !o }=u at *
    refine w_deref (w_setTo h b (BbrLs.lsM n1 n2 n3 n4 n5 n6 ({ u with rec':=false })) rfl rfl rfl fun w h=>?_)
    refine w_deref (w_setTo h b (BbrLs.lsM n1 n2 n3 n4 n5 n6 ({ u with rec':=false,first:=false })) rfl rfl rfl fun w h=>?_)
    refine w_deref (w_ld h rfl ?_)
    refine w_ite (fun c4=>?_) fun c4=>?_
    ·have c4:u.mode≠3:=by simpa using c4
     have e:mOver u=mBack { u with rec':=false,first:=false }:=by unfold mOver;rw [if_pos c4]
     rw [e]
     refine w_call (back_tri b n1 n2 n3 n4 n5 n6 { u with rec':=false,first:=false }) h fun _ w h=>?_
     exact h.fin
    ·have c4:¬ u.mode≠3:=by simpa using c4
     have e:mOver u={ u with rec':=false,first:=false }:=by unfold mOver;rw [if_neg c4]
     rw [e]
     exact h.fin
   ·have c2:m.rec'=false:=c2
    have e:mRecover m s o=m:=by unfold mRecover;rw [if_neg c,if_neg (by rw [c2];simp)]
    rw [e]
    exact h.fin
  ·refine w_ld h rfl ?_
   refine w_ite (fun c=>?_) fun c=>?_
   ·have c:sLost s > 0:=by simpa using c
    refine w_deref (w_ld h rfl ?_)
    exact ⟨by rw [Bool.eq_iff_iff];simp [c],h⟩
   ·have c:¬ sLost s > 0:=by simpa using c
    exact ⟨by simp [c],h⟩
omit hs in
theorem pace_tri:Tri Tryz.prog N_bbr_Model_pace [.lf (.ptr (some ⟨b,0⟩))] [] (blk b (BbrLs.lsM n1 n2 n3 n4 n5 n6 m)^blk n1 (BbrLs.lsW m.w)^blk n2 (BbrLs.lsR m.r)^blk n3 (BbrLs.lsP m.p)^blk n4 (BbrLs.lsC m.c)^blk n5 (BbrLs.lsB m.b)^blk n6 (BbrLs.lsL m.q)) (fun _=>blk b (BbrLs.lsM n1 n2 n3 n4 n5 n6 ((mPace m)))^blk n1 (BbrLs.lsW ((mPace m).w))^blk n2 (BbrLs.lsR ((mPace m).r))^blk n3 (BbrLs.lsP ((mPace m).p))^blk n4 (BbrLs.lsC ((mPace m).c))^blk n5 (BbrLs.lsB ((mPace m).b))^blk n6 (BbrLs.lsL ((mPace m).q))) :=
 tri_0 (call_bbr_Model_pace _) fun w0 S R h=>by
  unfold W_bbr_Model_pace
  have h:Own w0 S R w0 ((blk b (BbrLs.lsM n1 n2 n3 n4 n5 n6 m)^blk n1 (BbrLs.lsW m.w)^blk n2 (BbrLs.lsR m.r)^blk n3 (BbrLs.lsP m.p)^blk n4 (BbrLs.lsC m.c)^blk n5 (BbrLs.lsB m.b)^blk n6 (BbrLs.lsL m.q))^emp):=h.le (star_emp _)
  repeat' (first
   | (refine w_drw h fun w h=>?_)
   | (refine w_deref ?_)
   | (refine w_ldAll h rfl ?_)
   | (refine w_ld h rfl ?_)
   | (refine w_chkAll h ?_)
   | (refine w_chk h rfl ?_)
   | (refine w_setAll h (by rfl) fun w h=>?_)
   | (refine w_new h fun n w h=>?_)
   | (refine w_leave h fun w h=>?_)
   | (refine w_set h rfl fun w h=>?_;dsimp only [upd,over] at h)
   | (refine w_call (bw_tri b n1 n2 n3 n4 n5 n6 m) h fun r w h=>?_;obtain ⟨hr,h⟩:=h.purP;(try dsimp only at hr h);try rw [hr]))
  refine w_ite (fun c=>?_) fun c=>?_
  ·have c:mBw m=0:=by simpa using c
   have e:mPace m=m:=by unfold mPace;rw [if_pos c]
   rw [e]
   exact h.fin
  have c:¬ mBw m=0:=by simpa using c
  repeat' (first
   | (refine w_drw h fun w h=>?_)
   | (refine w_deref ?_)
   | (refine w_ldAll h rfl ?_)
   | (refine w_ld h rfl ?_)
   | (refine w_chkAll h ?_)
   | (refine w_chk h rfl ?_)
   | (refine w_setAll h (by rfl) fun w h=>?_)
   | (refine w_new h fun n w h=>?_)
   | (refine w_leave h fun w h=>?_)
   | (refine w_set h rfl fun w h=>?_;dsimp only [upd,over] at h)
   | (refine w_call (bw_tri b n1 n2 n3 n4 n5 n6 m) h fun r w h=>?_;obtain ⟨hr,h⟩:=h.purP;(try dsimp only at hr h);try rw [hr])
   | (refine w_call (gainm_tri b n1 n2 n3 n4 n5 n6 m) h fun r w h=>?_;obtain ⟨hr,h⟩:=h.purP;(try dsimp only at hr h);try rw [hr])
   | (refine w_call (rate_tri (mBw m) (mGain m) hm.bw (U_gain m)) h fun r w h=>?_;obtain ⟨hr,h⟩:=h.purP;(try dsimp only at hr h);try rw [hr]))
  have e:mPace m=if m.p.full=true∨mRt m > m.rate then { m with rate:=mRt m } else m:=by unfold mPace;rw [if_neg c]
  rw [e]
  have h:Own w0 S R _ (blk b (BbrLs.lsM n1 n2 n3 n4 n5 n6 m)^blk n1 (BbrLs.lsW m.w)^blk n2 (BbrLs.lsR m.r)^blk n3 (BbrLs.lsP m.p)^blk n4 (BbrLs.lsC m.c)^blk n5 (BbrLs.lsB m.b)^blk n6 (BbrLs.lsL m.q)):=h.fin
  refine w_join h (fun _=>blk b (BbrLs.lsM n1 n2 n3 n4 n5 n6 m)^blk n1 (BbrLs.lsW m.w)^blk n2 (BbrLs.lsR m.r)^blk n3 (BbrLs.lsP m.p)^blk n4 (BbrLs.lsC m.c)^blk n5 (BbrLs.lsB m.b)^blk n6 (BbrLs.lsL m.q)) (fun y:Bool=>y=decide (m.p.full=true∨mRt m > m.rate)) (fun (y:Bool) w hy h=>?_) ?_
  ·rw [hy]
   refine w_ite (fun c2=>?_) fun c2=>?_
   ·have c2:m.p.full=true∨mRt m > m.rate:=by simpa using c2
    rw [if_pos c2]
    refine w_deref (w_setTo h b (BbrLs.lsM n1 n2 n3 n4 n5 n6 ({ m with rate:=mRt m })) rfl rfl rfl fun w h=>?_)
    exact h.fin
   ·have c2:¬ (m.p.full=true∨mRt m > m.rate):=by simpa using c2
    rw [if_neg c2]
    exact h.fin
  ·repeat' (first
    | (refine w_drw h fun w h=>?_)
    | (refine w_deref ?_)
    | (refine w_ldAll h rfl ?_)
    | (refine w_ld h rfl ?_)
    | (refine w_chkAll h ?_)
    | (refine w_chk h rfl ?_)
    | (refine w_setAll h (by rfl) fun w h=>?_)
    | (refine w_new h fun n w h=>?_)
    | (refine w_leave h fun w h=>?_)
    | (refine w_set h rfl fun w h=>?_;dsimp only [upd,over] at h)
    | (refine w_call (full_tri n3 m.p) h fun r w h=>?_;obtain ⟨hr,h⟩:=h.purP;(try dsimp only at hr h);try rw [hr]))
   refine w_ite (fun c2=>?_) fun c2=>?_
   ·have c2:m.p.full=true:=c2
    exact ⟨by simp [c2],h.fin⟩
   ·have c2:m.p.full=false:=c2
    repeat' (first
     | (refine w_drw h fun w h=>?_)
     | (refine w_deref ?_)
     | (refine w_ldAll h rfl ?_)
     | (refine w_ld h rfl ?_)
     | (refine w_chkAll h ?_)
     | (refine w_chk h rfl ?_)
     | (refine w_setAll h (by rfl) fun w h=>?_)
     | (refine w_new h fun n w h=>?_)
     | (refine w_leave h fun w h=>?_)
     | (refine w_set h rfl fun w h=>?_;dsimp only [upd,over] at h))
    exact ⟨by rw [Bool.eq_iff_iff];simp [c2,mRt],h.fin⟩
end
end BbrO

namespace BbrU
open Arith ArithC _root_.Go.X.Target BbrM BbrMm BbrP BbrW BbrQ BbrL BbrN BbrO
section
variable (b n1 n2 n3 n4 n5 n6 : Nat) (m : Md) (hm : OkM m) (s : Sm) (hs : OkS s) (tso : Int) (ht : U tso)
include hm hs ht
theorem window_tri:Tri Tryz.prog N_bbr_Model_window [.lf (.ptr (some ⟨b,0⟩)),.agg (Ks.mk K_u8b s),.lf (.int .u64 tso)] [] (blk b (BbrLs.lsM n1 n2 n3 n4 n5 n6 m)^blk n1 (BbrLs.lsW m.w)^blk n2 (BbrLs.lsR m.r)^blk n3 (BbrLs.lsP m.p)^blk n4 (BbrLs.lsC m.c)^blk n5 (BbrLs.lsB m.b)^blk n6 (BbrLs.lsL m.q)) (fun _=>blk b (BbrLs.lsM n1 n2 n3 n4 n5 n6 ((mWindow m s tso)))^blk n1 (BbrLs.lsW ((mWindow m s tso).w))^blk n2 (BbrLs.lsR ((mWindow m s tso).r))^blk n3 (BbrLs.lsP ((mWindow m s tso).p))^blk n4 (BbrLs.lsC ((mWindow m s tso).c))^blk n5 (BbrLs.lsB ((mWindow m s tso).b))^blk n6 (BbrLs.lsL ((mWindow m s tso).q))) :=
 tri_0 (call_bbr_Model_window _ _ _) fun w0 S R h=>by
  unfold W_bbr_Model_window
  refine w_new h fun x w h=>?_
  have h:Own w0 S R w ((blk b (BbrLs.lsM n1 n2 n3 n4 n5 n6 m)^blk n1 (BbrLs.lsW m.w)^blk n2 (BbrLs.lsR m.r)^blk n3 (BbrLs.lsP m.p)^blk n4 (BbrLs.lsC m.c)^blk n5 (BbrLs.lsB m.b)^blk n6 (BbrLs.lsL m.q))^blk x (Ks.mk K_u8b s)^emp):=h.fin
  refine w_drw h fun w h=>w_deref (w_ld h rfl (w_deref (w_ld h rfl (w_ld h rfl ?_))))
  refine w_call (satsub_tri m.win (sLost s) hm.win hs.lost) h fun r w h=>?_
  obtain ⟨hr,h⟩:=h.purP;rw [hr]
  refine w_chk h rfl ?_
  refine w_deref (w_setTo h b (BbrLs.lsM n1 n2 n3 n4 n5 n6 ((mW1 m s))) rfl rfl rfl fun w h=>?_)
  have e:mWindow m s tso=mW4 (mW3 (mW2 (mW1 m s) s tso)):=rfl
  rw [e]
  have h:Own w0 S R w ((blk b (BbrLs.lsM n1 n2 n3 n4 n5 n6 ((mW1 m s)))^blk n1 (BbrLs.lsW ((mW1 m s).w))^blk n2 (BbrLs.lsR ((mW1 m s).r))^blk n3 (BbrLs.lsP ((mW1 m s).p))^blk n4 (BbrLs.lsC ((mW1 m s).c))^blk n5 (BbrLs.lsB ((mW1 m s).b))^blk n6 (BbrLs.lsL ((mW1 m s).q)))^blk x (Ks.mk K_u8b s)):=h.fin
  have hu:=hm.w1 hs
  generalize mW1 m s=u at *
  refine w_join h (fun _=>(blk b (BbrLs.lsM n1 n2 n3 n4 n5 n6 ((mW2 u s tso)))^blk n1 (BbrLs.lsW ((mW2 u s tso).w))^blk n2 (BbrLs.lsR ((mW2 u s tso).r))^blk n3 (BbrLs.lsP ((mW2 u s tso).p))^blk n4 (BbrLs.lsC ((mW2 u s tso).c))^blk n5 (BbrLs.lsB ((mW2 u s tso).b))^blk n6 (BbrLs.lsL ((mW2 u s tso).q)))^blk x (Ks.mk K_u8b s)) (fun _=>True) (fun _ w _ h=>?_) ?_
  ·have hv:=hu.w2 hs ht
   generalize mW2 u s tso=v at *
   refine w_drw h fun w h=>w_deref (w_ld h rfl ?_)
   refine w_call (floor_tri b n1 n2 n3 n4 n5 n6 v hv) h fun r w h=>?_
   obtain ⟨hr,h⟩:=h.purP;rw [hr]
   refine w_chk h rfl ?_
   refine w_deref (w_setTo h b (BbrLs.lsM n1 n2 n3 n4 n5 n6 ((mW3 v))) rfl rfl rfl fun w h=>?_)
   refine w_deref (w_ld h rfl ?_)
   have h:Own w0 S R w ((blk b (BbrLs.lsM n1 n2 n3 n4 n5 n6 ((mW3 v)))^blk n1 (BbrLs.lsW ((mW3 v).w))^blk n2 (BbrLs.lsR ((mW3 v).r))^blk n3 (BbrLs.lsP ((mW3 v).p))^blk n4 (BbrLs.lsC ((mW3 v).c))^blk n5 (BbrLs.lsB ((mW3 v).b))^blk n6 (BbrLs.lsL ((mW3 v).q)))^blk x (Ks.mk K_u8b s)):=h.fin
   have hy:=hv.w3
   generalize mW3 v=y at *
   refine w_ite (fun c=>?_) fun c=>?_
   ·have c:y.mode=3:=by simpa using c
    have e:mW4 y={ y with win:=mFloor y }:=by unfold mW4;rw [if_pos c]
    rw [e]
    refine w_call (floor_tri b n1 n2 n3 n4 n5 n6 y hy) h fun r w h=>?_
    obtain ⟨hr,h⟩:=h.purP;rw [hr]
    refine w_deref (w_setTo h b (BbrLs.lsM n1 n2 n3 n4 n5 n6 ({ y with win:=mFloor y })) rfl rfl rfl fun w h=>?_)
    exact h.fin
   ·have c:¬ y.mode=3:=by simpa using c
    have e:mW4 y=y:=by unfold mW4;rw [if_neg c]
    rw [e]
    exact h.fin
  ·refine w_deref (w_ld h rfl ?_)
   refine w_ite (fun c=>?_) fun c=>?_
   ·have c:u.first=true:=c
    have e:mW2 u s tso={ u with win:=if addI (sFli s) (sAck s) > u.win then addI (sFli s) (sAck s) else u.win }:=by unfold mW2;rw [if_pos c]
    rw [e]
    refine w_drw h fun w h=>w_deref (w_ld h rfl (w_ld h rfl (w_ld h rfl ?_)))
    refine w_call (satadd_tri (sFli s) (sAck s) hs.fli hs.ack) (h.le (star_mono Le.rfl (star_emp _))) fun r w h=>?_
    obtain ⟨hr,h⟩:=h.purP;rw [hr]
    refine w_chk h rfl (w_deref ?_)
    refine w_setTo h b (BbrLs.lsM n1 n2 n3 n4 n5 n6 ({ u with win:=if addI (sFli s) (sAck s) > u.win then addI (sFli s) (sAck s) else u.win })) rfl rfl rfl fun w h=>?_
    exact ⟨trivial,h.fin⟩
   have c:¬ u.first=true:=by rw [show u.first=false from c];simp
   refine w_ld h rfl ?_
   refine w_ite (fun c2=>?_) fun c2=>?_
   ·have c2:sAck s > 0:=by simpa using c2
    have e:mW2 u s tso=if u.p.full then { u with win:=if mTar u tso < addI u.win (sAck s) then mTar u tso else addI u.win (sAck s) }
      else if u.win < mTar u tso∨sDel s < 10 * u.mss then { u with win:=addI u.win (sAck s) } else u:=by unfold mW2;rw [if_neg c,if_pos c2]
    rw [e]
    have h:Own w0 S R w ((blk b (BbrLs.lsM n1 n2 n3 n4 n5 n6 u)^blk n1 (BbrLs.lsW u.w)^blk n2 (BbrLs.lsR u.r)^blk n3 (BbrLs.lsP u.p)^blk n4 (BbrLs.lsC u.c)^blk n5 (BbrLs.lsB u.b)^blk n6 (BbrLs.lsL u.q))^blk x (Ks.mk K_u8b s)^emp):=h.le (star_mono Le.rfl (star_emp _))
    repeat' (first
     | (refine w_drw h fun w h=>?_)
     | (refine w_deref ?_)
     | (refine w_ldAll h rfl ?_)
     | (refine w_ld h rfl ?_)
     | (refine w_chkAll h ?_)
     | (refine w_chk h rfl ?_)
     | (refine w_setAll h (by rfl) fun w h=>?_)
     | (refine w_new h fun n w h=>?_)
     | (refine w_leave h fun w h=>?_)
     | (refine w_set h rfl fun w h=>?_;dsimp only [upd,over] at h)
     | (refine w_call (bw_tri b n1 n2 n3 n4 n5 n6 u) h fun r w h=>?_;obtain ⟨hr,h⟩:=h.purP;(try dsimp only at hr h);try rw [hr])
     | (refine w_call (bbest_tri n5 u.b) h fun r w h=>?_;obtain ⟨hr,h⟩:=h.purP;(try dsimp only at hr h);try rw [hr])
     | (refine w_call (wide_tri' b n1 n2 n3 n4 n5 n6 u) h fun r w h=>?_;obtain ⟨hr,h⟩:=h.purP;(try dsimp only at hr h);try rw [hr])
     | (refine w_call (Target.win_tri (mBw u) u.b.best (mWide u) tso u.mss hu.bw hu.b.best (U_wide u) ht hu.mssU) h fun r w h=>?_;obtain ⟨hr,h⟩:=h.purP;(try dsimp only at hr h);try rw [hr])
     | (refine w_call (full_tri n3 u.p) h fun r w h=>?_;obtain ⟨hr,h⟩:=h.purP;(try dsimp only at hr h);try rw [hr]))
    refine w_ite (fun c3=>?_) fun c3=>?_
    ·have c3:u.p.full=true:=c3
     rw [if_pos c3]
     refine w_drw h fun w h=>w_deref (w_ld h rfl (w_ld h rfl ?_))
     refine w_call (satadd_tri u.win (sAck s) hu.win hs.ack) h fun r w h=>?_
     obtain ⟨hr,h⟩:=h.purP;rw [hr]
     refine w_deref ?_
     refine w_setTo h b (BbrLs.lsM n1 n2 n3 n4 n5 n6 ({ u with win:=if mTar u tso < addI u.win (sAck s) then mTar u tso else addI u.win (sAck s) })) rfl rfl rfl fun w h=>?_
     exact ⟨trivial,h.fin⟩
    have c3:¬ u.p.full=true:=by rw [show u.p.full=false from c3];simp
    rw [if_neg c3]
    have hms:=hu.mss
    have h:Own w0 S R _ ((blk b (BbrLs.lsM n1 n2 n3 n4 n5 n6 u)^blk n1 (BbrLs.lsW u.w)^blk n2 (BbrLs.lsR u.r)^blk n3 (BbrLs.lsP u.p)^blk n4 (BbrLs.lsC u.c)^blk n5 (BbrLs.lsB u.b)^blk n6 (BbrLs.lsL u.q))^blk x (Ks.mk K_u8b s)^emp):=h.fin
    refine w_join h (fun _=>(blk b (BbrLs.lsM n1 n2 n3 n4 n5 n6 u)^blk n1 (BbrLs.lsW u.w)^blk n2 (BbrLs.lsR u.r)^blk n3 (BbrLs.lsP u.p)^blk n4 (BbrLs.lsC u.c)^blk n5 (BbrLs.lsB u.b)^blk n6 (BbrLs.lsL u.q))^blk x (Ks.mk K_u8b s)^emp) (fun y:Bool=>y=decide (u.win < mTar u tso∨sDel s < 10 * u.mss)) (fun (y:Bool) w hy h=>?_) ?_
    ·rw [hy]
     refine w_ite (fun c4=>?_) fun c4=>?_
     ·have c4:u.win < mTar u tso∨sDel s < 10 * u.mss:=by simpa using c4
      rw [if_pos c4]
      refine w_drw h fun w h=>w_deref (w_ld h rfl (w_ld h rfl ?_))
      refine w_call (satadd_tri u.win (sAck s) hu.win hs.ack) h fun r w h=>?_
      obtain ⟨hr,h⟩:=h.purP;rw [hr]
      refine w_deref ?_
      refine w_setTo h b (BbrLs.lsM n1 n2 n3 n4 n5 n6 ({ u with win:=addI u.win (sAck s) })) rfl rfl rfl fun w h=>?_
      exact ⟨trivial,h.fin⟩
     ·have c4:¬ (u.win < mTar u tso∨sDel s < 10 * u.mss):=by simpa using c4
      rw [if_neg c4]
      exact ⟨trivial,h.fin⟩
    ·refine w_drw h fun w h=>w_deref (w_ld h rfl ?_)
     refine w_ite (fun c4=>?_) fun c4=>?_
     ·have c4:u.win < mTar u tso:=of_decide_eq_true c4
      exact ⟨by simp [c4],h⟩
     ·have c4:¬ u.win < mTar u tso:=of_decide_eq_false c4
      refine w_ld h rfl (w_deref (w_ld h rfl ?_))
      rw [wu (n:=10 * u.mss) (by omega) (by omega)]
      exact ⟨by rw [Bool.eq_iff_iff];simp [c4],h⟩
   ·have c2:¬ sAck s > 0:=by simpa using c2
    have e:mW2 u s tso=u:=by unfold mW2;rw [if_neg c,if_neg c2]
    rw [e]
    exact ⟨trivial,h⟩
theorem upd_tri:Tri Tryz.prog N_bbr_Model_Update [.lf (.ptr (some ⟨b,0⟩)),.agg (Ks.mk K_u8b s),.lf (.int .u64 tso)] [.agg K_i2u6b2] (blk b (BbrLs.lsM n1 n2 n3 n4 n5 n6 m)^blk n1 (BbrLs.lsW m.w)^blk n2 (BbrLs.lsR m.r)^blk n3 (BbrLs.lsP m.p)^blk n4 (BbrLs.lsC m.c)^blk n5 (BbrLs.lsB m.b)^blk n6 (BbrLs.lsL m.q)) (fun r=>pur (r=mSt (mUpd m s tso)) (blk b (BbrLs.lsM n1 n2 n3 n4 n5 n6 ((mUpd m s tso)))^blk n1 (BbrLs.lsW ((mUpd m s tso).w))^blk n2 (BbrLs.lsR ((mUpd m s tso).r))^blk n3 (BbrLs.lsP ((mUpd m s tso).p))^blk n4 (BbrLs.lsC ((mUpd m s tso).c))^blk n5 (BbrLs.lsB ((mUpd m s tso).b))^blk n6 (BbrLs.lsL ((mUpd m s tso).q)))) :=
 tri_0 (call_bbr_Model_Update _ _ _) fun w0 S R h=>by
  unfold W_bbr_Model_Update
  refine w_new h fun x w h=>?_
  refine w_new h fun y w h=>?_
  refine w_ite (fun c=>(by cases c)) fun _=>?_
  have h:Own w0 S R w ((blk b (BbrLs.lsM n1 n2 n3 n4 n5 n6 m)^blk n1 (BbrLs.lsW m.w)^blk n2 (BbrLs.lsR m.r)^blk n3 (BbrLs.lsP m.p)^blk n4 (BbrLs.lsC m.c)^blk n5 (BbrLs.lsB m.b)^blk n6 (BbrLs.lsL m.q))^blk x (Ks.mk K_u8b s)^blk y [.int .i64 0,.int .i64 0,.int .u64 0,.int .u64 0,.int .u64 0,.int .u64 0,.int .u64 0,.int .u64 0,.bool false,.bool false]):=h.fin
  refine w_drw h fun w h=>w_ldAll (x:=s) h rfl (w_deref (w_ld h rfl ?_))
  refine w_call (rupd_tri n2 m.r s) h fun r w h=>?_
  obtain ⟨hr,h⟩:=h.purP;rw [hr]
  refine w_drw h fun w h=>w_ldAll (x:=s) h rfl (w_deref (w_ld h rfl ?_))
  refine w_call (lupd_tri n6 m.q hm.q (rB m.r s) s hs) h fun _ w h=>?_
  refine w_ldAll (x:=s) h rfl ?_
  have e:mUpd m s tso=mU3 (mU2 (mU1 m s) (rB m.r s) s) (rB m.r s) s tso:=rfl
  rw [e]
  have h:Own w0 S R w ((blk b (BbrLs.lsM n1 n2 n3 n4 n5 n6 ((mU1 m s)))^blk n1 (BbrLs.lsW ((mU1 m s).w))^blk n2 (BbrLs.lsR ((mU1 m s).r))^blk n3 (BbrLs.lsP ((mU1 m s).p))^blk n4 (BbrLs.lsC ((mU1 m s).c))^blk n5 (BbrLs.lsB ((mU1 m s).b))^blk n6 (BbrLs.lsL ((mU1 m s).q)))^blk x (Ks.mk K_u8b s)^blk y [.int .i64 0,.int .i64 0,.int .u64 0,.int .u64 0,.int .u64 0,.int .u64 0,.int .u64 0,.int .u64 0,.bool false,.bool false]):=h.fin
  have h1:=hm.u1 hs
  generalize rB m.r s=o at *
  generalize mU1 m s=u at *
  refine w_call (meas_tri b n1 n2 n3 n4 n5 n6 u h1 s hs) h fun _ w h=>?_
  have h2:=h1.meas hs
  have e:mU2 u o s=mLook (mM2 (mM1 (mPipe (mCyc (mMeas u s) s) o s)) s) s o:=rfl
  rw [e]
  generalize mMeas u s=v at *
  have h:Own w0 S R w ((blk b (BbrLs.lsM n1 n2 n3 n4 n5 n6 v)^blk n1 (BbrLs.lsW v.w)^blk n2 (BbrLs.lsR v.r)^blk n3 (BbrLs.lsP v.p)^blk n4 (BbrLs.lsC v.c)^blk n5 (BbrLs.lsB v.b)^blk n6 (BbrLs.lsL v.q))^blk x (Ks.mk K_u8b s)^blk y [.int .i64 0,.int .i64 0,.int .u64 0,.int .u64 0,.int .u64 0,.int .u64 0,.int .u64 0,.int .u64 0,.bool false,.bool false]):=h.fin
  refine w_join h (fun _=>(blk b (BbrLs.lsM n1 n2 n3 n4 n5 n6 ((mCyc v s)))^blk n1 (BbrLs.lsW ((mCyc v s).w))^blk n2 (BbrLs.lsR ((mCyc v s).r))^blk n3 (BbrLs.lsP ((mCyc v s).p))^blk n4 (BbrLs.lsC ((mCyc v s).c))^blk n5 (BbrLs.lsB ((mCyc v s).b))^blk n6 (BbrLs.lsL ((mCyc v s).q)))^blk x (Ks.mk K_u8b s)^blk y [.int .i64 0,.int .i64 0,.int .u64 0,.int .u64 0,.int .u64 0,.int .u64 0,.int .u64 0,.int .u64 0,.bool false,.bool false]) (fun _=>True) (fun _ w _ h=>?_) ?_
  ·have h3:=h2.cyc hs
   generalize mCyc v s=z at *
   repeat' (first
    | (refine w_drw h fun w h=>?_)
    | (refine w_deref ?_)
    | (refine w_ldAll h rfl ?_)
    | (refine w_ld h rfl ?_)
    | (refine w_chkAll h ?_)
    | (refine w_chk h rfl ?_)
    | (refine w_setAll h (by rfl) fun w h=>?_)
    | (refine w_new h fun n w h=>?_)
    | (refine w_leave h fun w h=>?_)
    | (refine w_set h rfl fun w h=>?_;dsimp only [upd,over] at h)
    | (refine w_call (best_tri n1 z.w) h fun r w h=>?_;obtain ⟨hr,h⟩:=h.purP;(try dsimp only at hr h);try rw [hr])
    | (refine w_call (pupd_tri n3 z.p h3.p o (sLim s) z.w.v0 h3.w.v0) h fun r w h=>?_;obtain ⟨hr,h⟩:=h.purP;(try dsimp only at hr h);try rw [hr]))
   have h4:OkM (mPipe z o s):=h3.pipe
   have h:Own w0 S R _ ((blk b (BbrLs.lsM n1 n2 n3 n4 n5 n6 ((mPipe z o s)))^blk n1 (BbrLs.lsW ((mPipe z o s).w))^blk n2 (BbrLs.lsR ((mPipe z o s).r))^blk n3 (BbrLs.lsP ((mPipe z o s).p))^blk n4 (BbrLs.lsC ((mPipe z o s).c))^blk n5 (BbrLs.lsB ((mPipe z o s).b))^blk n6 (BbrLs.lsL ((mPipe z o s).q)))^blk x (Ks.mk K_u8b s)^blk y [.int .i64 0,.int .i64 0,.int .u64 0,.int .u64 0,.int .u64 0,.int .u64 0,.int .u64 0,.int .u64 0,.bool false,.bool false]):=h.fin
   generalize mPipe z o s=a at *
   refine w_call (modes_tri b n1 n2 n3 n4 n5 n6 a h4 s hs) h fun _ w h=>?_
   have h5:=h4.m1.m2 hs
   generalize mM2 (mM1 a) s=a at *
   refine w_ldAll (x:=s) h rfl ?_
   refine w_call (look_tri b n1 n2 n3 n4 n5 n6 a h5 s hs o) h fun _ w h=>?_
   have h6:OkM (mLook a s o):=h5.look hs
   generalize mLook a s o=a at *
   refine w_call (pace_tri b n1 n2 n3 n4 n5 n6 a h6) h fun _ w h=>?_
   have e:mU3 a o s tso=mWindow (mRecover (mPace a) s o) s tso:=rfl
   rw [e]
   have h7:=h6.pace
   generalize mPace a=a at *
   refine w_ldAll (x:=s) h rfl ?_
   refine w_call (rec_tri b n1 n2 n3 n4 n5 n6 a h7 s hs o) h fun _ w h=>?_
   have h8:OkM (mRecover a s o):=h7.recover hs
   generalize mRecover a s o=a at *
   refine w_ldAll (x:=s) h rfl ?_
   refine w_call (window_tri b n1 n2 n3 n4 n5 n6 a h8 s hs tso ht) h fun _ w h=>?_
   generalize mWindow a s tso=a at *
   refine w_call (state_tri b n1 n2 n3 n4 n5 n6 a) h fun r w h=>?_
   obtain ⟨hr,h⟩:=h.purP;rw [hr]
   refine w_setAll h (by rfl) fun w h=>?_
   refine w_ldAll (x:=mSt a) h rfl ?_
   exact Own.retP rfl h.fin
  ·refine w_join h (fun _=>(blk b (BbrLs.lsM n1 n2 n3 n4 n5 n6 v)^blk n1 (BbrLs.lsW v.w)^blk n2 (BbrLs.lsR v.r)^blk n3 (BbrLs.lsP v.p)^blk n4 (BbrLs.lsC v.c)^blk n5 (BbrLs.lsB v.b)^blk n6 (BbrLs.lsL v.q))^blk x (Ks.mk K_u8b s)^blk y [.int .i64 0,.int .i64 0,.int .u64 0,.int .u64 0,.int .u64 0,.int .u64 0,.int .u64 0,.int .u64 0,.bool false,.bool false]) (fun y:Bool=>y=decide (v.mode=2∧v.q.use=false)) (fun (y:Bool) w hy h=>?_) ?_
   ·rw [hy]
    refine w_ite (fun c=>?_) fun c=>?_
    ·have c:v.mode=2∧v.q.use=false:=by simpa using c
     have e:mCyc v s={ v with c:=cU v.c (sNow s) v.b.best (sLost s) (sFli s) (mBdp v 320) (mBdp v 256) }:=by unfold mCyc;rw [if_pos c]
     rw [e]
     repeat' (first
      | (refine w_drw h fun w h=>?_)
      | (refine w_deref ?_)
      | (refine w_ldAll h rfl ?_)
      | (refine w_ld h rfl ?_)
      | (refine w_chkAll h ?_)
      | (refine w_chk h rfl ?_)
      | (refine w_setAll h (by rfl) fun w h=>?_)
      | (refine w_new h fun n w h=>?_)
      | (refine w_leave h fun w h=>?_)
      | (refine w_set h rfl fun w h=>?_;dsimp only [upd,over] at h)
      | (refine w_call (bbest_tri n5 v.b) h fun r w h=>?_;obtain ⟨hr,h⟩:=h.purP;(try dsimp only at hr h);try rw [hr])
      | (refine w_call (bdpm_tri b n1 n2 n3 n4 n5 n6 v h2 320 (U_lit _)) h fun r w h=>?_;obtain ⟨hr,h⟩:=h.purP;(try dsimp only at hr h);try rw [hr])
      | (refine w_call (bdpm_tri b n1 n2 n3 n4 n5 n6 v h2 256 (U_lit _)) h fun r w h=>?_;obtain ⟨hr,h⟩:=h.purP;(try dsimp only at hr h);try rw [hr]))
     refine w_call (cupd_tri n4 v.c h2.c (sNow s) v.b.best (sLost s) (sFli s) (mBdp v 320) (mBdp v 256) hs.now) h fun _ w h=>?_
     exact ⟨trivial,h.fin⟩
    ·have c:¬ (v.mode=2∧v.q.use=false):=by simpa using c
     have e:mCyc v s=v:=by unfold mCyc;rw [if_neg c]
     rw [e]
     exact ⟨trivial,h.fin⟩
   ·repeat' (first
     | (refine w_drw h fun w h=>?_)
     | (refine w_deref ?_)
     | (refine w_ldAll h rfl ?_)
     | (refine w_ld h rfl ?_)
     | (refine w_chkAll h ?_)
     | (refine w_chk h rfl ?_)
     | (refine w_setAll h (by rfl) fun w h=>?_)
     | (refine w_new h fun n w h=>?_)
     | (refine w_leave h fun w h=>?_)
     | (refine w_set h rfl fun w h=>?_;dsimp only [upd,over] at h))
    refine w_ite (fun c=>?_) fun c=>?_
    ·have c:v.mode=2:=by simpa using c
     repeat' (first
      | (refine w_drw h fun w h=>?_)
      | (refine w_deref ?_)
      | (refine w_ldAll h rfl ?_)
      | (refine w_ld h rfl ?_)
      | (refine w_chkAll h ?_)
      | (refine w_chk h rfl ?_)
      | (refine w_setAll h (by rfl) fun w h=>?_)
      | (refine w_new h fun n w h=>?_)
      | (refine w_leave h fun w h=>?_)
      | (refine w_set h rfl fun w h=>?_;dsimp only [upd,over] at h)
      | (refine w_call (pol_tri b n1 n2 n3 n4 n5 n6 v) h fun r w h=>?_;obtain ⟨hr,h⟩:=h.purP;(try dsimp only at hr h);try rw [hr]))
     exact ⟨by rw [Bool.eq_iff_iff];simp [c],h.fin⟩
    ·have c:¬ v.mode=2:=by simpa using c
     exact ⟨by simp [c],h.fin⟩
end
end BbrU

namespace SockA
open Arith ArithC
abbrev Bf:=Int × Int × Int × Int
abbrev KBf:Ks:=[.int .u64,.int .u64,.int .u64,.int .u64]
abbrev bW (b:Bf):Int:=b.1
abbrev bN (b:Bf):Int:=b.2.1
abbrev bU (b:Bf):Int:=b.2.2.1
abbrev bL (b:Bf):Int:=b.2.2.2
structure OkBf (b:Bf):Prop where
 u:0≤bU b
 un:bU b≤bN b
 nw:bN b≤bW b
 l:bW b - bU b≤bL b
 ll:bL b≤1073741824
 w:bW b≤4611686018427387904
def wrF (b:Bf) (n:Int):Int × Bf:=if n < 1 then (1,b) else if n > bL b - (bW b - bU b) then (5,b) else (0,(bW b+n,bN b,bU b,bL b))
def tkF (b:Bf) (most:Int):((Int × Int) × Bool) × Bf:=if most ≥ 1∧bW b - bN b≠0 then (((bN b,bN b+min (bW b - bN b) most),true),(bW b,bN b+min (bW b - bN b) most,bU b,bL b)) else (((0,0),false),b)
def akF (b:Bf) (upto:Int):Int × Bf:=if upto > bN b then (11,b) else (0,(bW b,bN b,if upto > bU b then upto else bU b,bL b))
theorem OkBf.ak {b:Bf} (h:OkBf b) (upto:Int):OkBf (akF b upto).2:=by
 have h1:=h.u
 have h2:=h.un
 have h3:=h.nw
 have h4:=h.l
 unfold akF
 split
 ·exact h
 ·refine ⟨?_,?_,h3,?_,h.ll,h.w⟩
  ·show 0≤if upto > bU b then upto else bU b
   split<;>omega
  ·show (if upto > bU b then upto else bU b)≤bN b
   split<;>omega
  ·show bW b - (if upto > bU b then upto else bU b)≤bL b
   split<;>omega
theorem bnew_tri (n:Int):Tri Tryz.prog N_buffer_New [.lf (.int .i64 n)] [.lf .ptr] emp (fun r=>ex fun p:Nat=>pur (r=some ⟨p,0⟩) (blk p (Ks.mk KBf (0,0,0,IntKind.u64.wrap (if (1073741824:Int) < (if (0:Int) > n then (0:Int) else n) then (1073741824:Int) else (if (0:Int) > n then (0:Int) else n)))))) :=
 tri_0 (call_buffer_New n) fun w0 S R h=>by
  unfold W_buffer_New
  refine w_new h fun p w h=>?_
  exact Own.retE p (Own.retP rfl h.keep)
theorem bunsent_tri (p:Nat) (b:Bf) (hb:OkBf b):Tri Tryz.prog N_buffer_Buffer_Unsent [.lf (.ptr (some ⟨p,0⟩))] [.lf (.int .u64)] (blk p (Ks.mk KBf b)) (fun r=>pur (r=bW b - bN b) (blk p (Ks.mk KBf b))) :=
 tri_0 (call_buffer_Buffer_Unsent (some ⟨p,0⟩)) fun w0 S R h=>by
  unfold W_buffer_Buffer_Unsent
  have h2:=hb.un
  have h3:=hb.nw
  have h4:=hb.u
  have h5:=hb.w
  refine w_ite (fun c=>(by simp at c)) fun _=>w_drw h fun w h=>w_deref (w_deref (w_ld h rfl (w_ld h rfl ?_)))
  exact Own.retP (wu (n:=bW b - bN b) (by omega) (by omega)) h
theorem bheld_tri (p:Nat) (b:Bf) (hb:OkBf b):Tri Tryz.prog N_buffer_Buffer_Held [.lf (.ptr (some ⟨p,0⟩))] [.lf (.int .u64)] (blk p (Ks.mk KBf b)) (fun r=>pur (r=bW b - bU b) (blk p (Ks.mk KBf b))) :=
 tri_0 (call_buffer_Buffer_Held (some ⟨p,0⟩)) fun w0 S R h=>by
  unfold W_buffer_Buffer_Held
  have h2:=hb.un
  have h3:=hb.nw
  have h4:=hb.u
  have h5:=hb.w
  refine w_ite (fun c=>(by simp at c)) fun _=>w_drw h fun w h=>w_deref (w_deref (w_ld h rfl (w_ld h rfl ?_)))
  exact Own.retP (wu (n:=bW b - bU b) (by omega) (by omega)) h
theorem bwrite_tri (p:Nat) (b:Bf) (hb:OkBf b) (n:Int) (hn:n < 9223372036854775808):Tri Tryz.prog N_buffer_Buffer_Write [.lf (.ptr (some ⟨p,0⟩)),.lf (.int .i64 n)] [.lf (.int .i64)] (blk p (Ks.mk KBf b)) (fun r=>pur (r=(wrF b n).1) (blk p (Ks.mk KBf (wrF b n).2))) :=
 tri_0 (call_buffer_Buffer_Write (some ⟨p,0⟩) n) fun w0 S R h=>by
  unfold W_buffer_Buffer_Write
  have h1:=hb.un
  have h2:=hb.nw
  have h3:=hb.u
  have h4:=hb.l
  have h5:=hb.ll
  have h6:=hb.w
  refine w_ite (fun c=>(by simp at c)) fun _=>w_ite (fun c=>?_) fun c=>?_
  ·have c:n < 1:=of_decide_eq_true c
   have e:wrF b n=(1,b):=by unfold wrF;rw [if_pos c]
   rw [e]
   exact Own.retP rfl h
  have c:¬ n < 1:=of_decide_eq_false c
  refine w_drw h fun w h=>w_deref (w_ld h rfl (w_call (bheld_tri p b hb) h fun r w h=>?_))
  obtain ⟨hr,h⟩:=h.purP;rw [hr]
  refine w_chk h rfl (w_ite (fun c2=>?_) fun c2=>?_)
  ·have c2:=of_decide_eq_true c2
   have c2:IntKind.u64.wrap n > IntKind.u64.wrap (bL b - (bW b - bU b)):=c2
   rw [wu (n:=n) (by omega) (by omega),wu (n:=bL b - (bW b - bU b)) (by omega) (by omega)] at c2
   have e:wrF b n=(5,b):=by unfold wrF;rw [if_neg c,if_pos c2]
   rw [e]
   exact Own.retP rfl h.fin
  ·have c2:=of_decide_eq_false c2
   have c2:¬ IntKind.u64.wrap n > IntKind.u64.wrap (bL b - (bW b - bU b)):=c2
   rw [wu (n:=n) (by omega) (by omega),wu (n:=bL b - (bW b - bU b)) (by omega) (by omega)] at c2
   have e:wrF b n=(0,(bW b+n,bN b,bU b,bL b)):=by unfold wrF;rw [if_neg c,if_neg c2]
   rw [e]
   have ew:IntKind.u64.wrap (bW b+IntKind.u64.wrap n)=bW b+n:=by rw [wu (n:=n) (by omega) (by omega)];exact wu (by omega) (by omega)
   refine w_deref (w_ld h rfl (w_deref ?_))
   rw [show IntKind.u64.wrap (b.1+IntKind.u64.wrap n)=bW b+n from ew]
   refine w_setTo h p (Ks.mk KBf (bW b+n,bN b,bU b,bL b)) rfl rfl rfl fun w h=>?_
   exact Own.retP rfl h.fin
theorem btake_tri (p:Nat) (b:Bf) (hb:OkBf b) (most:Int) (hm:most < 9223372036854775808):Tri Tryz.prog N_buffer_Buffer_Take [.lf (.ptr (some ⟨p,0⟩)),.lf (.int .i64 most)] [.agg [.int .u64,.int .u64],.lf .bool] (blk p (Ks.mk KBf b)) (fun r=>pur (r=(tkF b most).1) (blk p (Ks.mk KBf (tkF b most).2))) :=
 tri_0 (call_buffer_Buffer_Take (some ⟨p,0⟩) most) fun w0 S R h=>by
  unfold W_buffer_Buffer_Take
  have h1:=hb.un
  have h2:=hb.nw
  have h3:=hb.u
  have h6:=hb.w
  refine w_new h fun n1 w h=>w_new h fun n2 w h=>w_setAll h (by rfl) fun w h=>?_
  refine w_join h (fun _=>blk n1 [.int .u64 0,.int .u64 0]^blk n2 [.int .u64 (tkF b most).1.1.1,.int .u64 (tkF b most).1.1.2]^blk p (Ks.mk KBf (tkF b most).2)) (fun y:Bool=>y=(tkF b most).1.2) (fun (y:Bool) w hy h=>?_) ?_
  ·refine w_ldAll (b:=n2) (x:=(tkF b most).1.1) h rfl (w_setAll h (by rfl) fun w h=>w_ldAll (b:=n1) (x:=(tkF b most).1.1) h rfl ?_)
   refine Own.retP ?_ h.fin
   rw [hy]
  ·have no:∀ {w:World},¬ (most ≥ 1∧bW b - bN b≠0)→Own w0 S R w (blk n1 [.int .u64 0,.int .u64 0]^blk n2 [.int .u64 0,.int .u64 0]^blk p (Ks.mk KBf b))→(fun y:Bool=>y=(tkF b most).1.2) false∧Own w0 S R w (blk n1 [.int .u64 0,.int .u64 0]^blk n2 [.int .u64 (tkF b most).1.1.1,.int .u64 (tkF b most).1.1.2]^blk p (Ks.mk KBf (tkF b most).2)):=fun {w} c h=>by
    have e:tkF b most=(((0,0),false),b):=by unfold tkF;rw [if_neg c]
    rw [e]
    exact ⟨rfl,h⟩
   have h:Own w0 S R w (blk n1 [.int .u64 0,.int .u64 0]^blk n2 [.int .u64 0,.int .u64 0]^blk p (Ks.mk KBf b)):=h.fin
   refine w_loop (fun _:Bool=>blk n1 [.int .u64 0,.int .u64 0]^blk n2 [.int .u64 0,.int .u64 0]^blk p (Ks.mk KBf b)) (fun y:Bool=>y=false) (fun _=>0) h rfl ?_
   rintro (y:Bool) w hy h
   rw [hy]
   refine w_ite (fun c=>?_) fun c=>?_
   ·have c:most ≥ 1:=of_decide_eq_true c
    refine w_call (bunsent_tri p b hb) h fun r w h=>?_
    obtain ⟨hr,h⟩:=h.purP;rw [hr]
    have ek:(if bW b - bN b < IntKind.u64.wrap most then bW b - bN b else IntKind.u64.wrap most)=min (bW b - bN b) most:=by
     rw [wu (n:=most) (by omega) (by omega)]
     split<;>omega
    rw [ek]
    refine w_ite (fun c2=>?_) fun c2=>?_
    ·have c2:min (bW b - bN b) most=0:=by simpa using c2
     exact no (by omega) h.fin
    ·have c2:¬ min (bW b - bN b) most=0:=by simpa using c2
     have e:tkF b most=(((bN b,bN b+min (bW b - bN b) most),true),(bW b,bN b+min (bW b - bN b) most,bU b,bL b)):=by unfold tkF;rw [if_pos ⟨c,by omega⟩]
     have ew:IntKind.u64.wrap (bN b+min (bW b - bN b) most)=bN b+min (bW b - bN b) most:=wu (by omega) (by omega)
     rw [e]
     refine w_drw h fun w h=>w_deref (w_deref (w_ld h rfl (w_ld h rfl ?_)))
     rw [show IntKind.u64.wrap (b.2.1+min (bW b - bN b) most)=bN b+min (bW b - bN b) most from ew]
     refine w_setAll h (by rfl) fun w h=>w_deref (w_ld h rfl (w_deref ?_))
     rw [show IntKind.u64.wrap (b.2.1+min (bW b - bN b) most)=bN b+min (bW b - bN b) most from ew]
     refine w_setTo h p (Ks.mk KBf (bW b,bN b+min (bW b - bN b) most,bU b,bL b)) rfl rfl rfl fun w h=>?_
     exact ⟨rfl,h.fin⟩
   ·have c:¬ most ≥ 1:=of_decide_eq_false c
    exact no (fun x=>c x.1) h
theorem backed_tri (p:Nat) (b:Bf) (upto:Int):Tri Tryz.prog N_buffer_Buffer_Acked [.lf (.ptr (some ⟨p,0⟩)),.lf (.int .u64 upto)] [.lf (.int .i64)] (blk p (Ks.mk KBf b)) (fun r=>pur (r=(akF b upto).1) (blk p (Ks.mk KBf (akF b upto).2))) :=
 tri_0 (call_buffer_Buffer_Acked (some ⟨p,0⟩) upto) fun w0 S R h=>by
  unfold W_buffer_Buffer_Acked
  refine w_ite (fun c=>(by simp at c)) fun _=>w_deref (w_ld h rfl (w_ite (fun c=>?_) fun c=>?_))
  ·have c:upto > bN b:=of_decide_eq_true c
   have e:akF b upto=(11,b):=by unfold akF;rw [if_pos c]
   rw [e]
   exact Own.retP rfl h
  ·have c:¬ upto > bN b:=of_decide_eq_false c
   have e:akF b upto=(0,(bW b,bN b,if upto > bU b then upto else bU b,bL b)):=by unfold akF;rw [if_neg c]
   rw [e]
   refine w_deref (w_ld h rfl (w_deref (w_setTo h p (Ks.mk KBf (bW b,bN b,if upto > bU b then upto else bU b,bL b)) rfl rfl rfl fun w h=>?_)))
   exact Own.retP rfl h.fin
end SockA

namespace SockB
open Arith ArithC
abbrev Sp:=Int × Int × Int × Int × Bool × Int × Int × Int × Bool × Int × Int
abbrev KSp:Ks:=[.int .u64,.int .u64,.int .u64,.int .u64,.bool,.int .u64,.int .u64,.int .u64,.bool,.int .u64,.int .u64]
abbrev KSn:Ks:=[.int .u64,.int .u64,.int .u64,.int .u64,.bool]
abbrev Sn:=Int × Int × Int × Int × Bool
abbrev KSa:Ks:=[.int .u64,.int .u64,.int .u64,.int .u64,.int .u64,.int .u64,.int .u64,.int .u64,.bool]
abbrev Sa:=Int × Int × Int × Int × Int × Int × Int × Int × Bool
abbrev pD (s:Sp):Int:=s.1
abbrev pT (s:Sp):Int:=s.2.1
abbrev pF (s:Sp):Int:=s.2.2.1
abbrev pL (s:Sp):Int:=s.2.2.2.1
abbrev pH (s:Sp):Bool:=s.2.2.2.2.1
abbrev pG (s:Sp):Int:=s.2.2.2.2.2.1
abbrev pPd (s:Sp):Int:=s.2.2.2.2.2.2.1
abbrev pPt (s:Sp):Int:=s.2.2.2.2.2.2.2.1
abbrev pPl (s:Sp):Bool:=s.2.2.2.2.2.2.2.2.1
abbrev pSi (s:Sp):Int:=s.2.2.2.2.2.2.2.2.2.1
abbrev pAi (s:Sp):Int:=s.2.2.2.2.2.2.2.2.2.2
structure OkSp (s:Sp):Prop where
 d:U (pD s)
 t:U (pT s)
 f:U (pF s)
 l:U (pL s)
 g:U (pG s)
 pd:U (pPd s)
 pt:U (pPt s)
 si:U (pSi s)
 ai:U (pAi s)
def sp0:Sp:=(0,0,0,0,false,0,0,0,false,0,0)
theorem sp0_ok:OkSp sp0:=⟨U_lit 0,U_lit 0,U_lit 0,U_lit 0,U_lit 0,U_lit 0,U_lit 0,U_lit 0,U_lit 0⟩
def touch (s:Sp) (now flight:Int):Sp:=if flight=0 then (pD s,now,now,pL s,pH s,pG s,pPd s,pPt s,pPl s,pSi s,pAi s) else s
def sentP (s:Sp) (now flight:Int):Sn × Sp:=((now,pD (touch s now flight),pT (touch s now flight),pF (touch s now flight),decide (pL (touch s now flight)≠0)),touch s now flight)
def limitP (s:Sp) (flight:Int):Sp:=(pD s,pT s,pF s,(if addI (pD s) flight > 1 then addI (pD s) flight else 1),pH s,pG s,pPd s,pPt s,pPl s,pSi s,pAi s)
def longI (a b:Int):Int:=if b≤(if a≤0 then 0 else a) then (if a≤0 then 0 else a) else b
def takeP (s:Sp) (now lost flight:Int):Sa × Sp:=(if pH s then (now,pD s,pPd s,longI (pSi s) (subI now (pPt s)),pAi s,pG s,lost,flight,pPl s) else (now,pD s,0,0,0,0,lost,flight,false),(pD s,pT s,pF s,pL s,false,0,0,0,false,0,0))
theorem new_tri:Tri Tryz.prog N_sampler_New [] [.lf .ptr] emp (fun r=>ex fun p:Nat=>pur (r=some ⟨p,0⟩) (blk p (Ks.mk KSp sp0))) :=
 tri_0 call_sampler_New fun w0 S R h=>by
  unfold W_sampler_New
  refine w_new h fun p w h=>?_
  exact Own.retE p (Own.retP rfl h.keep)
theorem sent_tri (p:Nat) (s:Sp) (now flight:Int):Tri Tryz.prog N_sampler_Sampler_Sent [.lf (.ptr (some ⟨p,0⟩)),.lf (.int .u64 now),.lf (.int .u64 flight)] [.agg KSn] (blk p (Ks.mk KSp s)) (fun r=>pur (r=(sentP s now flight).1) (blk p (Ks.mk KSp (sentP s now flight).2))) :=
 tri_0 (call_sampler_Sampler_Sent (some ⟨p,0⟩) now flight) fun w0 S R h=>by
  unfold W_sampler_Sampler_Sent
  refine w_new h fun n1 w h=>w_ite (fun c=>(by simp at c)) fun _=>?_
  refine w_join h (fun _=>blk n1 [.int .u64 0,.int .u64 0,.int .u64 0,.int .u64 0,.bool false]^blk p (Ks.mk KSp (touch s now flight))) (fun _=>True) (fun _ w _ h=>?_) ?_
  ·refine w_drw h fun w h=>w_deref (w_deref (w_deref (w_deref (w_ld h rfl (w_ld h rfl (w_ld h rfl (w_ld h rfl ?_)))))))
   have eb:((touch s now flight).2.2.2.1 != (0:Int))=decide (pL (touch s now flight)≠0):=by
    rw [Bool.eq_iff_iff];simp
   rw [eb]
   refine w_setAll h (by rfl) fun w h=>w_ldAll (b:=n1) (x:=(sentP s now flight).1) h rfl ?_
   refine Own.retP rfl ?_
   rw [show (sentP s now flight).2=touch s now flight from rfl]
   exact h.fin
  ·refine w_ite (fun c=>?_) fun c=>?_
   ·have c:flight=0:=by simpa using c
    have e:touch s now flight=(pD s,now,now,pL s,pH s,pG s,pPd s,pPt s,pPl s,pSi s,pAi s):=by unfold touch;rw [if_pos c]
    rw [e]
    refine w_deref (w_setTo h p (Ks.mk KSp (pD s,pT s,now,pL s,pH s,pG s,pPd s,pPt s,pPl s,pSi s,pAi s)) rfl rfl rfl fun w h=>?_)
    refine w_deref (w_setTo h p (Ks.mk KSp (pD s,now,now,pL s,pH s,pG s,pPd s,pPt s,pPl s,pSi s,pAi s)) rfl rfl rfl fun w h=>?_)
    exact ⟨trivial,h.fin⟩
   ·have c:¬ flight=0:=by simpa using c
    have e:touch s now flight=s:=by unfold touch;rw [if_neg c]
    rw [e]
    exact ⟨trivial,h⟩
theorem limit_tri (p:Nat) (s:Sp) (hs:OkSp s) (flight:Int) (hf:U flight):Tri Tryz.prog N_sampler_Sampler_Limit [.lf (.ptr (some ⟨p,0⟩)),.lf (.int .u64 flight)] [] (blk p (Ks.mk KSp s)) (fun _=>blk p (Ks.mk KSp (limitP s flight))) :=
 tri_0 (call_sampler_Sampler_Limit (some ⟨p,0⟩) flight) fun w0 S R h=>by
  unfold W_sampler_Sampler_Limit
  refine w_ite (fun _=>?_) fun c=>(by simp at c)
  refine w_deref (w_ld h rfl (w_call (satadd_tri (pD s) flight hs.d hf) h fun r w h=>?_))
  obtain ⟨hr,h⟩:=h.purP;rw [hr]
  refine w_deref (w_setTo h p (Ks.mk KSp (limitP s flight)) rfl rfl rfl fun w h=>?_)
  exact h.fin
theorem longest_tri (sl:Sl) (a b:Int):Tri Tryz.prog N_sampler_longest [.lf (.sl sl)] [.lf (.int .u64)] (emp^rarr sl KU [a,b]) (fun r=>pur (r=longI a b) emp) :=
 tri_0 (call_sampler_longest sl) fun w0 S R h=>by
  unfold W_sampler_longest
  have h:Own w0 S R w0 (rarr sl KU [a,b]^emp):=h.fin
  have hs:sl.len=2:=(h.rd (s:=sl)).2
  have e1:IntKind.i64.wrap ((0:Int)+1)=1:=rfl
  have e2:IntKind.i64.wrap ((1:Int)+1)=2:=rfl
  obtain ⟨m,hm⟩:∃ m,m=if a≤0 then 0 else a:=⟨_,rfl⟩
  refine w_loop (fun _:Int × Int=>rarr sl KU [a,b]^emp) (fun y:Int × Int=>y=(0,0)∨y=(m,1)∨y=(longI a b,2)) (fun y:Int × Int=>(2 - y.2).toNat) h (.inl rfl) ?_
  rintro (y:Int × Int) w hy h
  rcases hy with rfl | rfl | rfl
  ·refine w_ite (fun _=>?_) fun c=>(by rw [hs] at c;cases c)
   refine w_idx (s:=sl) h (by decide) (by simp) (w_ldE h sl 0 (y:=a) rfl rfl ?_)
   dsimp only
   rw [e1]
   refine w_ite (fun c=>?_) fun c=>?_
   ·have c:a≤0:=of_decide_eq_true c
    rw [if_pos c] at hm
    exact ⟨⟨.inr (.inl (by rw [hm])),h⟩,by show (2 - (1:Int)).toNat < (2 - (0:Int)).toNat;omega⟩
   ·have c:¬ a≤0:=of_decide_eq_false c
    rw [if_neg c] at hm
    exact ⟨⟨.inr (.inl (by rw [hm])),h⟩,by show (2 - (1:Int)).toNat < (2 - (0:Int)).toNat;omega⟩
  ·refine w_ite (fun _=>?_) fun c=>(by rw [hs] at c;cases c)
   refine w_idx (s:=sl) h (show (0:Int)≤1 by decide) (by show 1 < 2;decide) (w_ldE h sl 1 (y:=b) rfl rfl ?_)
   dsimp only
   rw [e2]
   refine w_ite (fun c=>?_) fun c=>?_
   ·have c:b≤m:=of_decide_eq_true c
    have e:longI a b=m:=by unfold longI;rw [← hm,if_pos c]
    exact ⟨⟨.inr (.inr (by rw [e])),h⟩,by show (2 - (2:Int)).toNat < (2 - (1:Int)).toNat;omega⟩
   ·have c:¬ b≤m:=of_decide_eq_false c
    have e:longI a b=b:=by unfold longI;rw [← hm,if_neg c]
    exact ⟨⟨.inr (.inr (by rw [e])),h⟩,by show (2 - (2:Int)).toNat < (2 - (1:Int)).toNat;omega⟩
  ·refine w_ite (fun c=>(by rw [hs] at c;cases c)) fun _=>?_
   exact Own.retP rfl h.emp'
def clampM (m:Int):Int:=if 9000 < (if 100 > m then 100 else m) then 9000 else (if 100 > m then 100 else m)
theorem clampM_r (m:Int):100≤clampM m∧clampM m≤9000:=by unfold clampM;(repeat' split)<;>omega
def tsoF (rate mss:Int):Int:=(if (if rate / 1024 / clampM mss < 2 then 2 else rate / 1024 / clampM mss) > 65536 / clampM mss then 65536 / clampM mss else (if rate / 1024 / clampM mss < 2 then 2 else rate / 1024 / clampM mss)) * clampM mss
theorem tso_r (rate mss:Int) (hr:0≤rate):200≤tsoF rate mss∧tsoF rate mss≤65536:=by
 have hm:=clampM_r mss
 have hk:7≤65536 / clampM mss:=by rw [Int.le_ediv_iff_mul_le (by omega)];omega
 have hk2:65536 / clampM mss * clampM mss≤65536:=Int.ediv_mul_le _ (by omega)
 obtain ⟨y,hy⟩:∃ y,y=(if (if rate / 1024 / clampM mss < 2 then 2 else rate / 1024 / clampM mss) > 65536 / clampM mss then 65536 / clampM mss else (if rate / 1024 / clampM mss < 2 then 2 else rate / 1024 / clampM mss)):=⟨_,rfl⟩
 have hy2:2≤y∧y≤65536 / clampM mss:=by rw [hy];(repeat' split)<;>omega
 have e:tsoF rate mss=y * clampM mss:=by unfold tsoF;rw [← hy]
 rw [e]
 have h1:2 * clampM mss≤y * clampM mss:=Int.mul_le_mul_of_nonneg_right hy2.1 (by omega)
 have h2:y * clampM mss≤65536 / clampM mss * clampM mss:=Int.mul_le_mul_of_nonneg_right hy2.2 (by omega)
 omega
theorem tso_tri (rate mss:Int) (hr:U rate):Tri Tryz.prog N_tso_Size [.lf (.int .u64 rate),.lf (.int .i64 mss)] [.lf (.int .i64)] emp (fun r=>pur (r=tsoF rate mss) emp) :=
 tri_0 (call_tso_Size rate mss) fun w0 S R h=>by
  unfold W_tso_Size
  have hm:=clampM_r mss
  unfold U at hr
  have em:IntKind.u64.wrap (if (9000:Int) < (if (100:Int) > mss then (100:Int) else mss) then (9000:Int) else (if (100:Int) > mss then (100:Int) else mss))=clampM mss:=wu (n:=clampM mss) (by omega) (by omega)
  rw [em]
  have ht:=tso_r rate mss hr.1
  have hk:7≤65536 / clampM mss:=by rw [Int.le_ediv_iff_mul_le (by omega)];omega
  have hk9:65536 / clampM mss≤65536:=Int.ediv_le_self _ (by decide)
  have eq1:IntKind.u64.wrap (rate.tdiv 1024)=rate / 1024:=by rw [Int.tdiv_eq_ediv_of_nonneg hr.1];exact wu (by omega) (by omega)
  have hq0:0≤rate / 1024 / clampM mss:=Int.ediv_nonneg (by omega) (by omega)
  have hq1:rate / 1024 / clampM mss≤rate / 1024:=Int.ediv_le_self _ (by omega)
  have eq2:IntKind.u64.wrap ((rate / 1024).tdiv (clampM mss))=rate / 1024 / clampM mss:=by rw [Int.tdiv_eq_ediv_of_nonneg (by omega)];exact wu (by omega) (by omega)
  have eq3:IntKind.u64.wrap ((65536:Int).tdiv (clampM mss))=65536 / clampM mss:=by rw [Int.tdiv_eq_ediv_of_nonneg (by decide)];exact wu (by omega) (by omega)
  rw [eq1,eq2,eq3]
  obtain ⟨y0,hy0⟩:∃ y0,y0=rate / 1024 / clampM mss:=⟨_,rfl⟩
  obtain ⟨k,hkk⟩:∃ k,k=65536 / clampM mss:=⟨_,rfl⟩
  have et:tsoF rate mss=(if (if y0 < 2 then 2 else y0) > k then k else (if y0 < 2 then 2 else y0)) * clampM mss:=by unfold tsoF;rw [← hy0,← hkk]
  rw [← hy0,← hkk]
  rw [← hkk] at hk hk9
  refine ⟨by omega,?_⟩
  refine w_loop (fun _:Int=>emp) (fun y:Int=>0≤y∧(if (if y < 2 then 2 else y) > k then k else (if y < 2 then 2 else y))=(if (if y0 < 2 then 2 else y0) > k then k else (if y0 < 2 then 2 else y0))) (fun y:Int=>if y < 2 then 2 else if y > k then 1 else 0) h ⟨by rw [hy0];exact hq0,rfl⟩ ?_
  rintro (y:Int) w ⟨hy,hye⟩ h
  refine w_ite (fun c=>?_) fun c=>?_
  ·have c:y < 2:=of_decide_eq_true c
   refine ⟨⟨⟨by decide,?_⟩,h⟩,?_⟩
   ·rw [← hye,if_pos c];rfl
   ·rw [if_pos c,if_neg (by decide),if_neg (by omega)];decide
  ·have c:¬ y < 2:=of_decide_eq_false c
   rw [if_neg c] at hye
   refine ⟨by omega,w_ite (fun c2=>?_) fun c2=>?_⟩
   ·have c2:y > k:=of_decide_eq_true c2
    rw [if_pos c2] at hye
    refine ⟨by omega,⟨⟨by omega,?_⟩,h⟩,?_⟩
    ·rw [if_neg (show ¬ k < 2 by omega),if_neg (by omega)];exact hye
    ·rw [if_neg (show ¬ k < 2 by omega),if_neg (by omega),if_neg c,if_pos c2];decide
   ·have c2:¬ y > k:=of_decide_eq_false c2
    rw [if_neg c2] at hye
    refine Own.retP ?_ h
    rw [et,← hye] at ht ⊢
    rw [wu (n:=y * clampM mss) (by omega) (by omega),wi (n:=y * clampM mss) (by omega) (by omega)]
def belowF (rate tso most:Int):Int:=longI (2 * tso) (if most < rate / 1024 then most else rate / 1024)
theorem below_tri (rate tso most:Int) (hr:U rate) (ht:0≤tso∧tso≤65536) (hm:0≤most∧most≤1073741824):Tri Tryz.prog N_tsq_Limit [.lf (.int .u64 rate),.lf (.int .i64 tso),.lf (.int .i64 most)] [.lf (.int .u64)] emp (fun r=>pur (r=belowF rate tso most) emp) :=
 tri_0 (call_tsq_Limit rate tso most) fun w0 S R h=>by
  unfold W_tsq_Limit
  unfold U at hr
  have e1:IntKind.i64.wrap ((0:Int)+1)=1:=rfl
  have e2:IntKind.i64.wrap ((1:Int)+1)=2:=rfl
  have ea:IntKind.u64.wrap ((2:Int) * (IntKind.u64.wrap (if (0:Int) > tso then (0:Int) else tso)))=2 * tso:=by
   rw [if_neg (by omega),wu (n:=tso) (by omega) (by omega)]
   exact wu (by omega) (by omega)
  have eb:(if (IntKind.u64.wrap (if (0:Int) > most then (0:Int) else most)) < (IntKind.u64.wrap (rate.tdiv (1024:Int))) then (IntKind.u64.wrap (if (0:Int) > most then (0:Int) else most)) else (IntKind.u64.wrap (rate.tdiv (1024:Int))))=if most < rate / 1024 then most else rate / 1024:=by
   rw [if_neg (show ¬ (0:Int) > most by omega),wu (n:=most) (by omega) (by omega),Int.tdiv_eq_ediv_of_nonneg hr.1,wu (n:=rate / 1024) (by omega) (by omega)]
  rw [ea,eb]
  obtain ⟨x,hx⟩:∃ x,x=2 * tso:=⟨_,rfl⟩
  obtain ⟨z,hz⟩:∃ z,z=if most < rate / 1024 then most else rate / 1024:=⟨_,rfl⟩
  have eL:belowF rate tso most=longI x z:=by unfold belowF;rw [← hx,← hz]
  rw [← hx,← hz,eL]
  obtain ⟨m,hmm⟩:∃ m,m=if x≤0 then 0 else x:=⟨_,rfl⟩
  refine w_loop (fun _:Int × Int=>emp) (fun y:Int × Int=>y=(0,0)∨y=(m,1)∨y=(longI x z,2)) (fun y:Int × Int=>(2 - y.2).toNat) h (.inl rfl) ?_
  rintro (y:Int × Int) w hy h
  rcases hy with rfl | rfl | rfl
  ·refine w_ite (fun _=>?_) fun c=>(by cases c)
   refine ⟨⟨by show (0:Int)≤0;decide,by show (0:Int) < 2;decide⟩,(x:Int),rfl,?_⟩
   dsimp only
   rw [e1]
   refine w_ite (fun c=>?_) fun c=>?_
   ·have c:x≤0:=of_decide_eq_true c
    rw [if_pos c] at hmm
    exact ⟨⟨.inr (.inl (by rw [hmm])),h⟩,by show (2 - (1:Int)).toNat < (2 - (0:Int)).toNat;omega⟩
   ·have c:¬ x≤0:=of_decide_eq_false c
    rw [if_neg c] at hmm
    exact ⟨⟨.inr (.inl (by rw [hmm])),h⟩,by show (2 - (1:Int)).toNat < (2 - (0:Int)).toNat;omega⟩
  ·refine w_ite (fun _=>?_) fun c=>(by cases c)
   refine ⟨⟨by show (0:Int)≤1;decide,by show (1:Int) < 2;decide⟩,(z:Int),rfl,?_⟩
   dsimp only
   rw [e2]
   refine w_ite (fun c=>?_) fun c=>?_
   ·have c:z≤m:=of_decide_eq_true c
    have e:longI x z=m:=by unfold longI;rw [← hmm,if_pos c]
    exact ⟨⟨.inr (.inr (by rw [e])),h⟩,by show (2 - (2:Int)).toNat < (2 - (1:Int)).toNat;omega⟩
   ·have c:¬ z≤m:=of_decide_eq_false c
    have e:longI x z=z:=by unfold longI;rw [← hmm,if_neg c]
    exact ⟨⟨.inr (.inr (by rw [e])),h⟩,by show (2 - (2:Int)).toNat < (2 - (1:Int)).toNat;omega⟩
  ·refine w_ite (fun c=>(by cases c)) fun _=>?_
   exact Own.retP rfl h
theorem may_tri (out limit:Int):Tri Tryz.prog N_tsq_May [.lf (.int .u64 out),.lf (.int .u64 limit)] [.lf .bool] emp (fun r=>pur (r=decide (out < limit)) emp) :=
 tri_0 (call_tsq_May out limit) fun w0 S R h=>by
  unfold W_tsq_May
  exact Own.retP rfl h
end SockB

namespace SockM
open Arith ArithC Delays Board BbrM BbrMm SockA SockB
abbrev Sg:=Int × Int × Int × Int × Bool
abbrev noS:Sg:=(0,0,0,0,false)
structure Sk where
 id:Int
 mss:Int
 cap:Int
 bf:Bf
 bd:List Pc × Int
 sp:Sp
 md:Md
 out:Int
 nx:Int
def skTso (v:Sk):Int:=tsoF v.md.rate v.mss
def skFl (v:Sk):Int:=flightF v.bd.1
def mayS (v:Sk):Int × Sk :=
 if (lostF v.bd.1).2=false∧bW v.bf - bN v.bf=0 then (7,if skFl v < v.md.win then { v with sp:=limitP v.sp (skFl v) } else v)
 else if ¬ (skFl v < v.md.win∧v.out < belowF v.md.rate (skTso v) v.cap) then (5,v)
 else if (lostF v.bd.1).2=false∧(v.bd.1.length:Int) ≥ 4096 then (5,v) else (0,v)
def putS (v:Sk) (rg:Int × Int) (again:Bool) (now:Int):Sg × Sk :=
 ((v.id,rg.1,rg.2 - rg.1,(if v.nx > now then v.nx else now),again),{ v with nx:=addI (if v.nx > now then v.nx else now) (delayI (rg.2 - rg.1) v.md.rate),out:=v.out+(rg.2 - rg.1) })
abbrev touchS (v:Sk) (now:Int):Sk:={ v with sp:=(sentP v.sp now (skFl v)).2 }
def goS (v:Sk) (now:Int):Sg × Sk :=
 if (lostF v.bd.1).2 then putS { touchS v now with bd:=(againF v.bd.1 (sentP v.sp now (skFl v)).1,v.bd.2) } (lostF v.bd.1).1 true now
 else putS { touchS v now with bf:=(tkF v.bf (skTso v)).2,bd:=(sentF v.bd (tkF v.bf (skTso v)).1.1.1 (tkF v.bf (skTso v)).1.1.2 (sentP v.sp now (skFl v)).1).2 } (tkF v.bf (skTso v)).1.1 false now
def emitS (v:Sk) (now:Int):(Sg × Int) × Sk:=if (mayS v).1≠0 then ((noS,(mayS v).1),(mayS v).2) else (((goS v now).1,0),(goS v now).2)
def doneS (v:Sk) (n:Int):Int × Sk:=if n < 1∨n > v.out then (1,v) else (0,{ v with out:=v.out - n })
def writeS (v:Sk) (n:Int):Int × Sk:=((wrF v.bf n).1,{ v with bf:=(wrF v.bf n).2 })
def learnS (v:Sk) (now lost:Int):Sk:={ v with sp:=(takeP v.sp now lost (skFl v)).2,md:=mUpd v.md (takeP v.sp now lost (skFl v)).1 (skTso v) }
def loseS (v:Sk) (now:Int):Sk:=learnS { v with bd:=(v.bd.1.map loseP,v.bd.2) } now (flightF v.bd.1)
def newS (id mss cap:Int):Sk:=⟨id,clampM mss,cap,(0,0,0,1073741824),([],0),sp0,mNew (clampM mss),0,0⟩
end SockM

namespace SockC
open Arith ArithC Delays Board BbrM BbrMm SockA SockB SockM
abbrev N7:=Nat × Nat × Nat × Nat × Nat × Nat × Nat
def mdl (x:N7) (m:Md):SP:=match x with
 | (b,n1,n2,n3,n4,n5,n6)=>blk b (BbrLs.lsM n1 n2 n3 n4 n5 n6 m)^blk n1 (BbrLs.lsW m.w)^blk n2 (BbrLs.lsR m.r)^blk n3 (BbrLs.lsP m.p)^blk n4 (BbrLs.lsC m.c)^blk n5 (BbrLs.lsB m.b)^blk n6 (BbrLs.lsL m.q)
instance (x:N7) (m:Md):NoR (mdl x m):=by unfold mdl;infer_instance
theorem mst_tri (x:N7) (m:Md):Tri Tryz.prog N_bbr_Model_State [.lf (.ptr (some ⟨x.1,0⟩))] [.agg K_i2u6b2] (mdl x m) (fun r=>pur (r=mSt m) (mdl x m)):=by
 obtain ⟨b,n1,n2,n3,n4,n5,n6⟩:=x
 exact BbrN.state_tri b n1 n2 n3 n4 n5 n6 m
theorem mupd_tri (x:N7) (m:Md) (hm:OkM m) (s:Sm) (hs:OkS s) (tso:Int) (ht:U tso):Tri Tryz.prog N_bbr_Model_Update [.lf (.ptr (some ⟨x.1,0⟩)),.agg (Ks.mk K_u8b s),.lf (.int .u64 tso)] [.agg K_i2u6b2] (mdl x m) (fun r=>pur (r=mSt (mUpd m s tso)) (mdl x (mUpd m s tso))):=by
 obtain ⟨b,n1,n2,n3,n4,n5,n6⟩:=x
 exact BbrU.upd_tri b n1 n2 n3 n4 n5 n6 m hm s hs tso ht
theorem mnew_tri (n:Int):Tri Tryz.prog N_bbr_New [.lf (.int .u64 n)] [.lf .ptr] emp (fun r=>ex fun x:N7=>pur (r=some ⟨x.1,0⟩) (mdl x (mNew n))) :=
 (BbrN.new_tri n).le Le.rfl fun _ _ _ _ ⟨⟨b,n1,n2,n3,n4,n5,n6⟩,h1,h2⟩=>⟨(b,n1,n2,n3,n4,n5,n6),h1,h2⟩
abbrev sL (v:Sk) (pb pd ps pm:Nat):List Lf:=[.int .i64 v.id,.int .i64 v.mss,.int .i64 v.cap,.ptr (some ⟨pb,0⟩),.ptr (some ⟨pd,0⟩),.ptr (some ⟨ps,0⟩),.ptr (some ⟨pm,0⟩),.int .u64 v.out,.int .u64 v.nx]
def sck (p:Nat) (v:Sk):SP:=ex fun x:Nat × Nat × Nat × N7=>blk p (sL v x.1 x.2.1 x.2.2.1 x.2.2.2.1)^blk x.1 (Ks.mk KBf v.bf)^brd x.2.1 v.bd^blk x.2.2.1 (Ks.mk KSp v.sp)^mdl x.2.2.2 v.md
instance (p:Nat) (v:Sk):NoR (sck p v):=by unfold sck;infer_instance
section
variable {w0 w : World} {S0 R0 : Nat → Prop} {F G : SP}
theorem _root_.Go.X.Own.sck (h:Own w0 S0 R0 w F) (p:Nat) {v:Sk} [tk:TakeK SockC.sck p F v G]:∃ (pb pd ps:Nat) (x:N7),Own w0 S0 R0 w (blk p (sL v pb pd ps x.1)^blk pb (Ks.mk KBf v.bf)^brd pd v.bd^blk ps (Ks.mk KSp v.sp)^mdl x v.md^G):=by
 obtain ⟨x,h⟩:=(h.le tk.le).exP
 exact ⟨x.1,x.2.1,x.2.2.1,x.2.2.2,h.fin⟩
theorem _root_.Go.X.Own.mkSck (h:Own w0 S0 R0 w F) (p pb pd ps:Nat) (x:N7) (v:Sk) [tk:Take (blk p (sL v pb pd ps x.1)^blk pb (Ks.mk KBf v.bf)^brd pd v.bd^blk ps (Ks.mk KSp v.sp)^mdl x v.md) F G]:Own w0 S0 R0 w (SockC.sck p v^G) :=
 Own.toEx (f:=fun x:Nat × Nat × Nat × N7=>blk p (sL v x.1 x.2.1 x.2.2.1 x.2.2.2.1)^blk x.1 (Ks.mk KBf v.bf)^brd x.2.1 v.bd^blk x.2.2.1 (Ks.mk KSp v.sp)^mdl x.2.2.2 v.md) (pb,pd,ps,x) (h.le tk.le)
end
theorem flightO_tri (p pb pd ps:Nat) (x:N7) (v:Sk) (hl:v.bd.1.length≤4294967296):Tri Tryz.prog N_sock_Sock_Flight [.lf (.ptr (some ⟨p,0⟩))] [.lf (.int .u64)] (blk p (sL v pb pd ps x.1)^brd pd v.bd) (fun r=>pur (r=skFl v) (blk p (sL v pb pd ps x.1)^brd pd v.bd)) :=
 tri_0 (call_sock_Sock_Flight (some ⟨p,0⟩)) fun w0 S R h=>by
  unfold W_sock_Sock_Flight
  refine w_ite (fun c=>(by simp at c)) fun _=>?_
  refine w_deref (w_ld h rfl (w_call (Board.flight_tri pd v.bd hl) h fun r w h=>?_))
  obtain ⟨hr,h⟩:=h.purP;rw [hr]
  exact Own.retP rfl h.fin
theorem tsoO_tri (p pb pd ps:Nat) (x:N7) (v:Sk) (hm:OkM v.md):Tri Tryz.prog N_sock_Sock_Tso [.lf (.ptr (some ⟨p,0⟩))] [.lf (.int .i64)] (blk p (sL v pb pd ps x.1)^mdl x v.md) (fun r=>pur (r=skTso v) (blk p (sL v pb pd ps x.1)^mdl x v.md)) :=
 tri_0 (call_sock_Sock_Tso (some ⟨p,0⟩)) fun w0 S R h=>by
  unfold W_sock_Sock_Tso
  refine w_ite (fun c=>(by simp at c)) fun _=>?_
  refine w_drw h fun w h=>w_deref (w_deref (w_ld h rfl (w_ld h rfl (w_call (mst_tri x v.md) h fun r w h=>?_))))
  obtain ⟨hr,h⟩:=h.purP;rw [hr]
  refine w_chk h rfl (w_call (tso_tri (mSt v.md).2.2.1 v.mss hm.rate) h fun r w h=>?_)
  obtain ⟨hr,h⟩:=h.purP;rw [hr]
  exact Own.retP rfl h.fin
theorem model_tri (p:Nat) (v:Sk):Tri Tryz.prog N_sock_Sock_Model [.lf (.ptr (some ⟨p,0⟩))] [.agg K_i2u6b2] (sck p v) (fun r=>pur (r=mSt v.md) (sck p v)) :=
 tri_0 (call_sock_Sock_Model (some ⟨p,0⟩)) fun w0 S R h=>by
  unfold W_sock_Sock_Model
  refine w_new h fun n w h=>w_ite (fun c=>(by simp at c)) fun _=>?_
  obtain ⟨pb,pd,ps,x,h⟩:=h.sck p
  refine w_deref (w_ld h rfl (w_call (mst_tri x v.md) h fun r w h=>?_))
  obtain ⟨hr,h⟩:=h.purP;rw [hr]
  refine w_setAll h (by rfl) fun w h=>w_ldAll (b:=n) (x:=mSt v.md) h rfl ?_
  exact Own.retP rfl (h.mkSck p pb pd ps x v).fin
theorem write_tri (p:Nat) (v:Sk) (hb:OkBf v.bf) (n:Int) (hn:n < 9223372036854775808):Tri Tryz.prog N_sock_Sock_Write [.lf (.ptr (some ⟨p,0⟩)),.lf (.int .i64 n)] [.lf (.int .i64)] (sck p v) (fun r=>pur (r=(writeS v n).1) (sck p (writeS v n).2)) :=
 tri_0 (call_sock_Sock_Write (some ⟨p,0⟩) n) fun w0 S R h=>by
  unfold W_sock_Sock_Write
  refine w_ite (fun c=>(by simp at c)) fun _=>?_
  obtain ⟨pb,pd,ps,x,h⟩:=h.sck p
  refine w_deref (w_ld h rfl (w_call (bwrite_tri pb v.bf hb n hn) h fun r w h=>?_))
  obtain ⟨hr,h⟩:=h.purP;rw [hr]
  exact Own.retP rfl (h.mkSck p pb pd ps x { v with bf:=(wrF v.bf n).2 }).keep
theorem done_tri (p:Nat) (v:Sk) (ho:U v.out) (n:Int) (hn:n < 9223372036854775808):Tri Tryz.prog N_sock_Sock_Done [.lf (.ptr (some ⟨p,0⟩)),.lf (.int .i64 n)] [.lf (.int .i64)] (sck p v) (fun r=>pur (r=(doneS v n).1) (sck p (doneS v n).2)) :=
 tri_0 (call_sock_Sock_Done (some ⟨p,0⟩) n) fun w0 S R h=>by
  unfold W_sock_Sock_Done
  unfold U at ho
  obtain ⟨pb,pd,ps,x,h⟩:=(h.le (star_emp _)).sck p
  refine w_join h (fun _=>blk p (sL v pb pd ps x.1)^blk pb (Ks.mk KBf v.bf)^brd pd v.bd^blk ps (Ks.mk KSp v.sp)^mdl x v.md) (fun _=>¬ (n < 1∨n > v.out)) (fun _ w hx h=>?_) ?_
  ·have e:doneS v n=(0,{ v with out:=v.out - n }):=by unfold doneS;rw [if_neg hx]
   have ew:IntKind.u64.wrap (v.out - IntKind.u64.wrap n)=v.out - n:=by rw [wu (n:=n) (by omega) (by omega)];exact wu (by omega) (by omega)
   rw [e]
   refine w_deref (w_ld h rfl (w_deref ?_))
   rw [ew]
   refine w_setTo h p (sL { v with out:=v.out - n } pb pd ps x.1) rfl rfl rfl fun w h=>?_
   exact Own.retP rfl (h.mkSck p pb pd ps x { v with out:=v.out - n }).keep
  ·have bad:∀ {w:World},(n < 1∨n > v.out)→Own w0 S R w (blk p (sL v pb pd ps x.1)^blk pb (Ks.mk KBf v.bf)^brd pd v.bd^blk ps (Ks.mk KSp v.sp)^mdl x v.md^emp)→Own w0 S R w (pur ((1:Int)=(doneS v n).1) (sck p (doneS v n).2)):=fun {w} c h=>by
    have e:doneS v n=(1,v):=by unfold doneS;rw [if_pos c]
    rw [e]
    exact Own.retP rfl (h.mkSck p pb pd ps x v).keep
   refine w_ite (fun c=>(by simp at c)) fun _=>w_ite (fun c=>?_) fun c=>?_
   ·exact bad (.inl (of_decide_eq_true c)) h.fin
   ·have c:¬ n < 1:=of_decide_eq_false c
    refine w_deref (w_ld h rfl (w_ite (fun c2=>?_) fun c2=>?_))
    ·have c2:IntKind.u64.wrap n > v.out:=of_decide_eq_true c2
     rw [wu (n:=n) (by omega) (by omega)] at c2
     exact bad (.inr c2) h.fin
    ·have c2:¬ IntKind.u64.wrap n > v.out:=of_decide_eq_false c2
     rw [wu (n:=n) (by omega) (by omega)] at c2
     exact ⟨by omega,h.fin⟩
end SockC

namespace SockD
open Arith ArithC Delays Board BbrM BbrMm SockA SockB SockM SockC
theorem blen_tri (b:Nat) (v:List Pc × Int):Tri Tryz.prog N_board_Board_Len [.lf (.ptr (some ⟨b,0⟩))] [.lf (.int .i64)] (brd b v) (fun r=>pur (r=(v.1.length:Int)) (brd b v)) :=
 tri_0 (call_board_Board_Len (some ⟨b,0⟩)) fun w0 S R h=>by
  unfold W_board_Board_Len
  refine w_ite (fun c=>(by simp at c)) fun _=>?_
  obtain ⟨s,h⟩:=(h.le (star_emp _)).brd b
  have hs:=(h.rd (s:=s)).2
  refine w_deref (w_ld h rfl ?_)
  refine Own.retP ?_ (h.mkBrd b s v.1 v.2).keep
  show ((s.len:Nat):Int)=_
  rw [hs]
structure OkSk (v:Sk):Prop where
 bf:OkBf v.bf
 bl:v.bd.1.length≤4096
 sp:OkSp v.sp
 md:OkM v.md
 mss:100≤v.mss∧v.mss≤9000
 cap:0≤v.cap∧v.cap≤1073741824
 out:U v.out
 nx:U v.nx
 fl:U (skFl v)
theorem may_tri (p:Nat) (v:Sk) (hv:OkSk v):Tri Tryz.prog N_sock_Sock_may [.lf (.ptr (some ⟨p,0⟩))] [.lf (.int .i64)] (sck p v) (fun r=>pur (r=(mayS v).1) (sck p (mayS v).2)) :=
 tri_0 (call_sock_Sock_may (some ⟨p,0⟩)) fun w0 S R h=>by
  unfold W_sock_Sock_may
  have hbl:v.bd.1.length≤4294967296:=by have:=hv.bl;omega
  have hts:=tso_r v.md.rate v.mss hv.md.rate.1
  obtain ⟨pb,pd,ps,x,h⟩:=(h.le (star_emp _)).sck p
  refine w_deref (w_ld h rfl (w_call (Lost_tri pd v.bd hbl) h fun r w h=>?_))
  obtain ⟨hr,h⟩:=h.purP;rw [hr]
  refine w_new h fun n4 w h=>w_setAll h (by rfl) fun w h=>w_deref (w_ld h rfl (w_call (mst_tri x v.md) h fun r w h=>?_))
  obtain ⟨hr,h⟩:=h.purP;rw [hr]
  refine w_new h fun n8 w h=>w_setAll h (by rfl) fun w h=>w_drw h fun w h=>w_ld (x:=v.md.win) h rfl (w_call (flightO_tri p pb pd ps x v hbl) h fun r w h=>?_)
  obtain ⟨hr,h⟩:=h.purP;rw [hr]
  refine w_chk h rfl ?_
  have h:Own w0 S R w (blk n8 (Ks.mk K_i2u6b2 (mSt v.md))^blk p (sL v pb pd ps x.1)^blk pb (Ks.mk KBf v.bf)^brd pd v.bd^blk ps (Ks.mk KSp v.sp)^mdl x v.md):=h.fin
  refine w_join h (fun _=>blk n8 (Ks.mk K_i2u6b2 (mSt v.md))^blk p (sL v pb pd ps x.1)^blk pb (Ks.mk KBf v.bf)^brd pd v.bd^blk ps (Ks.mk KSp v.sp)^mdl x v.md) (fun y:Bool=>y=true↔(lostF v.bd.1).2=false∧bW v.bf - bN v.bf=0) (fun (y:Bool) w hy h=>?_) ?_
  rotate_left
  ·refine w_ite (fun c=>?_) fun c=>?_
   ·have c:(lostF v.bd.1).2=false:=by simpa using c
    refine w_deref (w_ld h rfl (w_call (bunsent_tri pb v.bf hv.bf) h fun r w h=>?_))
    obtain ⟨hr,h⟩:=h.purP;rw [hr]
    refine ⟨?_,h.fin⟩
    show (bW v.bf - bN v.bf == 0)=true↔_
    rw [beq_iff_eq]
    exact ⟨fun e=>⟨c,e⟩,fun e=>e.2⟩
   ·have c:(lostF v.bd.1).2=true:=by simpa using c
    exact ⟨⟨fun e=>(by cases e),fun e=>(by rw [c] at e;cases e.1)⟩,h⟩
  ·refine w_ite (fun c=>?_) fun c=>?_
   ·have c:=hy.1 c
    have e:mayS v=(7,if skFl v < v.md.win then { v with sp:=limitP v.sp (skFl v) } else v):=by unfold mayS;rw [if_pos c]
    rw [e]
    refine w_ite (fun c2=>?_) fun c2=>?_
    ·have c2:skFl v < v.md.win:=of_decide_eq_true c2
     rw [if_pos c2]
     refine w_drw h fun w h=>w_deref (w_ld h rfl (w_call (flightO_tri p pb pd ps x v hbl) h fun r w h=>?_))
     obtain ⟨hr,h⟩:=h.purP;rw [hr]
     refine w_chk h rfl (w_call (limit_tri ps v.sp hv.sp (skFl v) hv.fl) h fun _ w h=>?_)
     exact Own.retP rfl (h.mkSck p pb pd ps x { v with sp:=limitP v.sp (skFl v) }).keep
    ·have c2:¬ skFl v < v.md.win:=of_decide_eq_false c2
     rw [if_neg c2]
     exact Own.retP rfl (h.mkSck p pb pd ps x v).keep
   ·have c1:¬ ((lostF v.bd.1).2=false∧bW v.bf - bN v.bf=0):=fun e=>by have:=hy.2 e;rw [c] at this;cases this
    refine w_join h (fun _=>blk n8 (Ks.mk K_i2u6b2 (mSt v.md))^blk p (sL v pb pd ps x.1)^blk pb (Ks.mk KBf v.bf)^brd pd v.bd^blk ps (Ks.mk KSp v.sp)^mdl x v.md) (fun y:Bool=>y=true↔¬ (skFl v < v.md.win∧v.out < belowF v.md.rate (skTso v) v.cap)) (fun (y:Bool) w hy h=>?_) ?_
    ·refine w_ite (fun c=>?_) fun c=>?_
     ·have e:mayS v=(5,v):=by unfold mayS;rw [if_neg c1,if_pos (hy.1 c)]
      rw [e]
      exact Own.retP rfl (h.mkSck p pb pd ps x v).keep
     ·have c2:¬ ¬ (skFl v < v.md.win∧v.out < belowF v.md.rate (skTso v) v.cap):=fun e=>by have:=hy.2 e;rw [c] at this;cases this
      refine w_ite (fun c3=>?_) fun c3=>?_
      ·have c3:(lostF v.bd.1).2=false:=by simpa using c3
       refine w_deref (w_ld h rfl (w_call (blen_tri pd v.bd) h fun r w h=>?_))
       obtain ⟨hr,h⟩:=h.purP;rw [hr]
       refine w_ite (fun c4=>?_) fun c4=>?_
       ·have c4:(v.bd.1.length:Int) ≥ 4096:=of_decide_eq_true c4
        have e:mayS v=(5,v):=by unfold mayS;rw [if_neg c1,if_neg c2,if_pos ⟨c3,c4⟩]
        rw [e]
        exact Own.retP rfl (h.mkSck p pb pd ps x v).keep
       ·have c4:¬ (v.bd.1.length:Int) ≥ 4096:=of_decide_eq_false c4
        have e:mayS v=(0,v):=by unfold mayS;rw [if_neg c1,if_neg c2,if_neg (fun e=>c4 e.2)]
        rw [e]
        exact Own.retP rfl (h.mkSck p pb pd ps x v).keep
      ·have c3:(lostF v.bd.1).2=true:=by simpa using c3
       have e:mayS v=(0,v):=by unfold mayS;rw [if_neg c1,if_neg c2,if_neg (fun e=>by rw [c3] at e;cases e.1)]
       rw [e]
       exact Own.retP rfl (h.mkSck p pb pd ps x v).keep
    ·refine w_drw h fun w h=>w_ite (fun c=>?_) fun c=>?_
     ·have c:¬ skFl v < v.md.win:=by simpa using c
      exact ⟨⟨fun _ e=>c e.1,fun _=>rfl⟩,h⟩
     ·have c:skFl v < v.md.win:=by simpa using c
      refine w_deref (w_ld (x:=v.md.rate) h rfl (w_deref (w_ld h rfl (w_ld h rfl (w_call (tsoO_tri p pb pd ps x v hv.md) h fun r w h=>?_)))))
      obtain ⟨hr,h⟩:=h.purP;rw [hr]
      refine w_chk h rfl (w_chk h rfl (w_chk h rfl (w_call (below_tri v.md.rate (skTso v) v.cap hv.md.rate ⟨by unfold skTso;omega,hts.2⟩ hv.cap) h fun r w h=>?_)))
      obtain ⟨hr,h⟩:=h.purP;rw [hr]
      refine w_chk h rfl (w_call (SockB.may_tri v.out (belowF v.md.rate (skTso v) v.cap)) h fun r w h=>?_)
      obtain ⟨hr,h⟩:=h.purP;rw [hr]
      refine ⟨?_,h.fin⟩
      show (!decide (v.out < belowF v.md.rate (skTso v) v.cap))=true↔_
      simp [c]
end SockD

namespace SockE
open Arith ArithC Delays Board BbrM BbrMm SockA SockB SockM SockC SockD
abbrev KS:Ks:=[.int .i64,.int .u64,.int .i64,.int .u64,.bool]
abbrev zS:List Lf:=[.int .i64 0,.int .u64 0,.int .i64 0,.int .u64 0,.bool false]
def finE (p n1 n14:Nat) (o:Int) (ag:Bool) (R:Rs.T [.agg KS,.lf (.int .i64)]→WP):WP :=
 drw <|
 deref (some ⟨p,0⟩) fun q27 =>
 ld [.int .u64] ⟨n14,0⟩ fun (x28:Int) =>
 ld [.int .u64] ⟨n14,1⟩ fun (x29:Int) =>
 ld [.int .u64] ⟨n14,0⟩ fun (x30:Int) =>
 deref (some ⟨p,0⟩) fun q31 =>
 ld [.int .i64] q27 fun (x32:Int) =>
 ld [.int .u64] ⟨q31.b,q31.o+8⟩ fun (x33:Int) =>
 new [.int .i64 (0:Int),.int .u64 (0:Int),.int .i64 (0:Int),.int .u64 (0:Int),.bool false] fun n34 =>
 chk ⟨q31.b,q31.o+8⟩ (Ks.mk [.int .u64] x33) <|
 chk q27 (Ks.mk [.int .i64] x32) <|
 chk ⟨n14,0⟩ (Ks.mk [.int .u64] x30) <|
 chk ⟨n14,1⟩ (Ks.mk [.int .u64] x29) <|
 chk ⟨n14,0⟩ (Ks.mk [.int .u64] x28) <|
 st ⟨n34,0⟩ [.int .i64 x32,.int .u64 x28,.int .i64 (IntKind.i64.wrap (IntKind.u64.wrap (x29 - x30))),.int .u64 (if x33 > o then x33 else o),.bool ag] <|
 drw <|
 ld [.int .u64] ⟨n34,3⟩ fun (x35:Int) =>
 ld [.int .i64] ⟨n34,2⟩ fun (x36:Int) =>
 deref (some ⟨p,0⟩) fun q37 =>
 ld [.ptr] ⟨q37.b,q37.o+6⟩ fun (x38:Option Pt) =>
 call Tryz.prog N_bbr_Model_State [.lf (.ptr x38)] [.agg K_i2u6b2] fun (r39:T_i2u6b2) =>
 chk ⟨n34,2⟩ (Ks.mk [.int .i64] x36) <|
 chk ⟨n34,3⟩ (Ks.mk [.int .u64] x35) <|
 call Tryz.prog N_delay_Of [.lf (.int .i64 x36),.lf (.int .u64 r39.2.2.1)] [.lf (.int .u64)] fun (r40:Int) =>
 chk ⟨n34,3⟩ (Ks.mk [.int .u64] x35) <|
 call Tryz.prog N_sat_Add [.lf (.int .u64 x35),.lf (.int .u64 r40)] [.lf (.int .u64)] fun (r41:Int) =>
 deref (some ⟨p,0⟩) fun q42 =>
 st ⟨q42.b,q42.o+8⟩ [.int .u64 r41] <|
 drw <|
 deref (some ⟨p,0⟩) fun q43 =>
 ld [.int .i64] ⟨n34,2⟩ fun (x44:Int) =>
 ld [.int .u64] ⟨q43.b,q43.o+7⟩ fun (x45:Int) =>
 deref (some ⟨p,0⟩) fun q46 =>
 st ⟨q46.b,q46.o+7⟩ [.int .u64 (IntKind.u64.wrap (x45+(IntKind.u64.wrap x44)))] <|
 ld KS ⟨n34,0⟩ fun (x47:Ks.T KS) =>
 st ⟨n1,0⟩ (Ks.mk KS x47) <|
 ld KS ⟨n1,0⟩ fun (x48:Ks.T KS) =>
 R (x48,(0:Int))
theorem w_fin {w0 w:World} {S0 R0:Nat→Prop} {G:SP} {R:Rs.T [.agg KS,.lf (.int .i64)]→WP} {p n1 n14 pb pd ps:Nat} {x:N7} {v:Sk} {now a b:Int} {ag:Bool} (hm:OkM v.md) (hn:U now) (hnx:U v.nx) (hab:0≤b - a∧b - a≤65536) (ho:0≤v.out∧v.out+65536 < 18446744073709551616)
  (h:Own w0 S0 R0 w (blk n1 zS^blk n14 [.int .u64 a,.int .u64 b]^(blk p (sL v pb pd ps x.1)^blk pb (Ks.mk KBf v.bf)^brd pd v.bd^blk ps (Ks.mk KSp v.sp)^mdl x v.md)^G))
  (k:∀ w',Own w0 S0 R0 w' (sck p (putS v (a,b) ag now).2^G)→R ((putS v (a,b) ag now).1,0) w'):finE p n1 n14 now ag R w:=by
 unfold finE
 have e1:IntKind.u64.wrap (b - a)=b - a:=wu (by omega) (by omega)
 have e2:IntKind.i64.wrap (b - a)=b - a:=wi (by omega) (by omega)
 have hst:U (if v.nx > now then v.nx else now):=by split;exact hnx;exact hn
 have hD:U (delayI (b - a) v.md.rate):=U_delay (by omega) hm.rate
 refine w_drw h fun w h=>w_deref (w_ld h rfl (w_ld h rfl (w_ld h rfl (w_deref (w_ld h rfl (w_ld h rfl (w_new h fun n34 w h=>?_)))))))
 refine w_chk h rfl (w_chk h rfl (w_chk h rfl (w_chk h rfl (w_chk h rfl ?_))))
 rw [e1,e2]
 refine w_setAll h (by rfl) fun w h=>w_drw h fun w h=>w_ld h rfl (w_ld h rfl (w_deref (w_ld h rfl (w_call (mst_tri x v.md) h fun r w h=>?_))))
 obtain ⟨hr,h⟩:=h.purP;rw [hr]
 refine w_chk h rfl (w_chk h rfl (w_call (delay_tri (b - a) v.md.rate (by omega) hm.rate) h fun r w h=>?_))
 obtain ⟨hr,h⟩:=h.purP;rw [hr]
 refine w_chk h rfl (w_call (satadd_tri _ _ hst hD) h fun r w h=>?_)
 obtain ⟨hr,h⟩:=h.purP;rw [hr]
 refine w_deref (w_setTo h p (sL { v with nx:=addI (if v.nx > now then v.nx else now) (delayI (b - a) v.md.rate) } pb pd ps x.1) rfl rfl rfl fun w h=>?_)
 have e3:IntKind.u64.wrap (v.out+IntKind.u64.wrap (b - a))=v.out+(b - a):=by rw [e1];exact wu (by omega) (by omega)
 refine w_drw h fun w h=>w_deref (w_ld h rfl (w_ld (x:=v.out) h rfl (w_deref ?_)))
 rw [e3]
 refine w_setTo h p (sL { v with nx:=addI (if v.nx > now then v.nx else now) (delayI (b - a) v.md.rate),out:=v.out+(b - a) } pb pd ps x.1) rfl rfl rfl fun w h=>?_
 refine w_ldAll (b:=n34) (x:=(putS v (a,b) ag now).1) h rfl (w_setAll h (by rfl) fun w h=>w_ldAll (b:=n1) (x:=(putS v (a,b) ag now).1) h rfl ?_)
 have h2:Own w0 S0 R0 w (sck p { v with nx:=addI (if v.nx > now then v.nx else now) (delayI (b - a) v.md.rate),out:=v.out+(b - a) }^G):=(h.mkSck p pb pd ps x { v with nx:=addI (if v.nx > now then v.nx else now) (delayI (b - a) v.md.rate),out:=v.out+(b - a) }).fin
 exact k w h2
end SockE

end Go.X
