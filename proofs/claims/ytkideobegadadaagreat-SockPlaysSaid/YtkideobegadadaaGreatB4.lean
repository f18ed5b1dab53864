/- Contracts and plain facts: BbrZ. -/
import Derived.Test.YtkideobegadadaaGreatB0
import Derived.Test.YtkideobegadadaaGreatB1
import Derived.Test.YtkideobegadadaaGreatB2
import Derived.Test.YtkideobegadadaaGreatB3
import Derived.Test.YtkideobegadadaaGreatK
import Derived.Test.YtkideobegadadaaGreatF0
import Derived.Test.YtkideobegadadaaGreatF1
import Derived.Test.YtkideobegadadaaGreatF2
set_option linter.unusedVariables false
set_option linter.unusedSimpArgs false
set_option linter.unusedSectionVars false
namespace Go.X
open Go.Proofs
namespace BbrZ
open Arith ArithC _root_.Go.X.Target BbrM BbrMm BbrV BbrX
abbrev wM (v:Rm) (m:Md):Rm:={ v with m:=m }
theorem floor_w {m:Md} (h:100≤m.mss∧m.mss≤9000):IntKind.u64.wrap (4 * m.mss)=mFloor m:=wu (by omega) (by omega)
theorem bU_excl (b:Pb) (now rtt fl floor:Int) (st:Bool) (h:(bU b now rtt st fl floor).1.1=true):(bU b now rtt st fl floor).1.2=false:=by
 unfold bU at *
 split
 ·rfl
 ·rename_i h1
  rw [if_neg h1] at h
  split at h<;>cases h
def rRest (m:Md) (s:Sm) (o:Bool):Md:=mLook (mM2 (mM1 (mPipe (mCyc m s) o s)) s) s o
theorem rcy_tri (b nw n1:Nat) (v:Rm) (hv:OkM v.m) (hR:Rel v) (s:Sm) (hs:OkS s) {w0 w:World} {S R:Nat→Prop} {K:WP} (h:Own w0 S R w (blk n1 (Ks.mk K_u8b s)^blk b [.int .u64 v.m.mss,.ptr (some ⟨nw,0⟩),.int .u64 v.m.r.n,.int .u64 v.m.r.nx,.int .u64 v.m.p.best,.int .i64 v.m.p.n,.bool v.m.p.full,.int .i64 v.m.c.ph,.int .u64 v.m.c.at',.int .u64 v.m.b.best,.int .u64 v.m.b.at',.bool v.m.b.on,.bool v.set,.bool v.m.b.rd,.int .u64 v.till,.bool v.m.q.use,.bool v.m.q.mea,.int .u64 v.m.q.bw,.int .i64 v.m.q.n,.int .u64 v.m.q.lost,.int .u64 v.m.q.t0,.int .u64 v.m.q.d0,.int .u64 v.m.q.l0,.int .i64 v.m.mode,.int .u64 v.m.rate,.int .u64 v.m.win,.int .u64 v.g,.bool v.m.rec',.bool v.m.first,.int .u64 v.m.til,.int .u64 v.m.sav]^blk nw [.int .u64 v.m.w.w,.int .u64 v.m.w.t0,.int .u64 v.m.w.t1,.int .u64 v.m.w.t2,.int .u64 v.m.w.v0,.int .u64 v.m.w.v1,.int .u64 v.m.w.v2,.int .u64 v.m.w.la,.bool false])) (k:∀ w,Own w0 S R w (blk n1 (Ks.mk K_u8b s)^blk b [.int .u64 (wM v (mCyc v.m s)).m.mss,.ptr (some ⟨nw,0⟩),.int .u64 (wM v (mCyc v.m s)).m.r.n,.int .u64 (wM v (mCyc v.m s)).m.r.nx,.int .u64 (wM v (mCyc v.m s)).m.p.best,.int .i64 (wM v (mCyc v.m s)).m.p.n,.bool (wM v (mCyc v.m s)).m.p.full,.int .i64 (wM v (mCyc v.m s)).m.c.ph,.int .u64 (wM v (mCyc v.m s)).m.c.at',.int .u64 (wM v (mCyc v.m s)).m.b.best,.int .u64 (wM v (mCyc v.m s)).m.b.at',.bool (wM v (mCyc v.m s)).m.b.on,.bool (wM v (mCyc v.m s)).set,.bool (wM v (mCyc v.m s)).m.b.rd,.int .u64 (wM v (mCyc v.m s)).till,.bool (wM v (mCyc v.m s)).m.q.use,.bool (wM v (mCyc v.m s)).m.q.mea,.int .u64 (wM v (mCyc v.m s)).m.q.bw,.int .i64 (wM v (mCyc v.m s)).m.q.n,.int .u64 (wM v (mCyc v.m s)).m.q.lost,.int .u64 (wM v (mCyc v.m s)).m.q.t0,.int .u64 (wM v (mCyc v.m s)).m.q.d0,.int .u64 (wM v (mCyc v.m s)).m.q.l0,.int .i64 (wM v (mCyc v.m s)).m.mode,.int .u64 (wM v (mCyc v.m s)).m.rate,.int .u64 (wM v (mCyc v.m s)).m.win,.int .u64 (wM v (mCyc v.m s)).g,.bool (wM v (mCyc v.m s)).m.rec',.bool (wM v (mCyc v.m s)).m.first,.int .u64 (wM v (mCyc v.m s)).m.til,.int .u64 (wM v (mCyc v.m s)).m.sav]^blk nw [.int .u64 (wM v (mCyc v.m s)).m.w.w,.int .u64 (wM v (mCyc v.m s)).m.w.t0,.int .u64 (wM v (mCyc v.m s)).m.w.t1,.int .u64 (wM v (mCyc v.m s)).m.w.t2,.int .u64 (wM v (mCyc v.m s)).m.w.v0,.int .u64 (wM v (mCyc v.m s)).m.w.v1,.int .u64 (wM v (mCyc v.m s)).m.w.v2,.int .u64 (wM v (mCyc v.m s)).m.w.la,.bool false])→K w) :
  join [] (fun J4=>join [.bool] (fun J6 =>
 deref (some ⟨b,0⟩) fun q8 =>
 ld [.int .i64] ⟨q8.b,q8.o+23⟩ fun (x9:Int) =>
 ite' (x9 == (2:Int)) (
 deref (some ⟨b,0⟩) fun q10 =>
 ld [.bool] ⟨q10.b,q10.o+15⟩ fun (x11:Bool) =>
 J6 (!x11)) <|
 J6 false) fun (y7:Bool) =>
 ite' y7 (
 drw <|
 deref (some ⟨b,0⟩) fun q12 =>
 ld [.int .u64] ⟨n1,0⟩ fun (x13:Int) =>
 ld [.int .u64] ⟨n1,6⟩ fun (x14:Int) =>
 ld [.int .u64] ⟨n1,7⟩ fun (x15:Int) =>
 call Tryz.prog N_canterref08_Model_bw [.lf (.ptr (some ⟨b,0⟩))] [.lf (.int .u64)] fun (r16:Int) =>
 chk ⟨n1,7⟩ (Ks.mk [.int .u64] x15) <|
 chk ⟨n1,6⟩ (Ks.mk [.int .u64] x14) <|
 chk ⟨n1,0⟩ (Ks.mk [.int .u64] x13) <|
 call Tryz.prog N_canterref01_Bdp [.lf (.int .u64 r16),.lf (.int .u64 v.m.b.best),.lf (.int .u64 (320:Int))] [.lf (.int .u64)] fun (r17:Int) =>
 chk ⟨n1,7⟩ (Ks.mk [.int .u64] x15) <|
 chk ⟨n1,6⟩ (Ks.mk [.int .u64] x14) <|
 chk ⟨n1,0⟩ (Ks.mk [.int .u64] x13) <|
 call Tryz.prog N_canterref08_Model_bw [.lf (.ptr (some ⟨b,0⟩))] [.lf (.int .u64)] fun (r18:Int) =>
 chk ⟨n1,7⟩ (Ks.mk [.int .u64] x15) <|
 chk ⟨n1,6⟩ (Ks.mk [.int .u64] x14) <|
 chk ⟨n1,0⟩ (Ks.mk [.int .u64] x13) <|
 call Tryz.prog N_canterref01_Bdp [.lf (.int .u64 r18),.lf (.int .u64 v.m.b.best),.lf (.int .u64 (256:Int))] [.lf (.int .u64)] fun (r19:Int) =>
 chk ⟨n1,7⟩ (Ks.mk [.int .u64] x15) <|
 chk ⟨n1,6⟩ (Ks.mk [.int .u64] x14) <|
 chk ⟨n1,0⟩ (Ks.mk [.int .u64] x13) <|
 call Tryz.prog N_canterref08_Cycle_Update [.lf (.ptr (some ⟨q12.b,q12.o+7⟩)),.lf (.int .u64 x13),.lf (.int .u64 v.m.b.best),.lf (.int .u64 x14),.lf (.int .u64 x15),.lf (.int .u64 r17),.lf (.int .u64 r19)] [.lf .bool] fun (r20:Bool) =>
 J4 ()) <|
 J4 ()) (fun _=>K) w:=by
 refine w_join h (fun _=>blk n1 (Ks.mk K_u8b s)^blk b [.int .u64 (wM v (mCyc v.m s)).m.mss,.ptr (some ⟨nw,0⟩),.int .u64 (wM v (mCyc v.m s)).m.r.n,.int .u64 (wM v (mCyc v.m s)).m.r.nx,.int .u64 (wM v (mCyc v.m s)).m.p.best,.int .i64 (wM v (mCyc v.m s)).m.p.n,.bool (wM v (mCyc v.m s)).m.p.full,.int .i64 (wM v (mCyc v.m s)).m.c.ph,.int .u64 (wM v (mCyc v.m s)).m.c.at',.int .u64 (wM v (mCyc v.m s)).m.b.best,.int .u64 (wM v (mCyc v.m s)).m.b.at',.bool (wM v (mCyc v.m s)).m.b.on,.bool (wM v (mCyc v.m s)).set,.bool (wM v (mCyc v.m s)).m.b.rd,.int .u64 (wM v (mCyc v.m s)).till,.bool (wM v (mCyc v.m s)).m.q.use,.bool (wM v (mCyc v.m s)).m.q.mea,.int .u64 (wM v (mCyc v.m s)).m.q.bw,.int .i64 (wM v (mCyc v.m s)).m.q.n,.int .u64 (wM v (mCyc v.m s)).m.q.lost,.int .u64 (wM v (mCyc v.m s)).m.q.t0,.int .u64 (wM v (mCyc v.m s)).m.q.d0,.int .u64 (wM v (mCyc v.m s)).m.q.l0,.int .i64 (wM v (mCyc v.m s)).m.mode,.int .u64 (wM v (mCyc v.m s)).m.rate,.int .u64 (wM v (mCyc v.m s)).m.win,.int .u64 (wM v (mCyc v.m s)).g,.bool (wM v (mCyc v.m s)).m.rec',.bool (wM v (mCyc v.m s)).m.first,.int .u64 (wM v (mCyc v.m s)).m.til,.int .u64 (wM v (mCyc v.m s)).m.sav]^blk nw [.int .u64 (wM v (mCyc v.m s)).m.w.w,.int .u64 (wM v (mCyc v.m s)).m.w.t0,.int .u64 (wM v (mCyc v.m s)).m.w.t1,.int .u64 (wM v (mCyc v.m s)).m.w.t2,.int .u64 (wM v (mCyc v.m s)).m.w.v0,.int .u64 (wM v (mCyc v.m s)).m.w.v1,.int .u64 (wM v (mCyc v.m s)).m.w.v2,.int .u64 (wM v (mCyc v.m s)).m.w.la,.bool false]) (fun _=>True) (fun _ w _ h=>k w h) ?_
 refine w_join h (fun _=>blk n1 (Ks.mk K_u8b s)^blk b [.int .u64 v.m.mss,.ptr (some ⟨nw,0⟩),.int .u64 v.m.r.n,.int .u64 v.m.r.nx,.int .u64 v.m.p.best,.int .i64 v.m.p.n,.bool v.m.p.full,.int .i64 v.m.c.ph,.int .u64 v.m.c.at',.int .u64 v.m.b.best,.int .u64 v.m.b.at',.bool v.m.b.on,.bool v.set,.bool v.m.b.rd,.int .u64 v.till,.bool v.m.q.use,.bool v.m.q.mea,.int .u64 v.m.q.bw,.int .i64 v.m.q.n,.int .u64 v.m.q.lost,.int .u64 v.m.q.t0,.int .u64 v.m.q.d0,.int .u64 v.m.q.l0,.int .i64 v.m.mode,.int .u64 v.m.rate,.int .u64 v.m.win,.int .u64 v.g,.bool v.m.rec',.bool v.m.first,.int .u64 v.m.til,.int .u64 v.m.sav]^blk nw [.int .u64 v.m.w.w,.int .u64 v.m.w.t0,.int .u64 v.m.w.t1,.int .u64 v.m.w.t2,.int .u64 v.m.w.v0,.int .u64 v.m.w.v1,.int .u64 v.m.w.v2,.int .u64 v.m.w.la,.bool false]) (fun y:Bool=>y=decide (v.m.mode=2∧v.m.q.use=false)) (fun (y:Bool) w hy h=>?_) ?_
 ·rw [hy]
  refine w_ite (fun c=>?_) fun c=>?_
  ·have c:v.m.mode=2∧v.m.q.use=false:=of_decide_eq_true c
   have e:mCyc v.m s={ v.m with c:=cU v.m.c (sNow s) v.m.b.best (sLost s) (sFli s) (mBdp v.m 320) (mBdp v.m 256) }:=by unfold mCyc;rw [if_pos c]
   rw [e]
   repeat' (first
    | (refine w_drw h fun w h=>?_)
    | (refine w_deref ?_)
    | (refine w_ldAll h rfl ?_)
    | (refine w_ld h rfl ?_)
    | (refine w_chkAll h ?_)
    | (refine w_chk h rfl ?_)
    | (refine w_setAll h (by rfl) fun w h=>?_)
    | (refine w_new h fun n w h=>?_)
    | (refine w_leave h fun w h=>?_)
    | (refine w_set h rfl fun w h=>?_;dsimp only [upd,over] at h)
    | (refine w_call (rbw_tri b nw v) h fun r w h=>?_;obtain ⟨hr,h⟩:=h.purP;(try dsimp only at hr h);try rw [hr])
    | (refine w_call (rbdp_tri _ _ _ hv.bw hv.b.best (U_lit 320)) h fun r w h=>?_;obtain ⟨hr,h⟩:=h.purP;(try dsimp only at hr h);try rw [hr])
    | (refine w_call (rbdp_tri _ _ _ hv.bw hv.b.best (U_lit 256)) h fun r w h=>?_;obtain ⟨hr,h⟩:=h.purP;(try dsimp only at hr h);try rw [hr]))
   refine w_call (rcupd_tri b nw v hv.c (sNow s) v.m.b.best (sLost s) (sFli s) (mBdp v.m 320) (mBdp v.m 256) hs.now) h fun r w h=>?_
   exact ⟨trivial,h.fin⟩
  ·have c:¬ (v.m.mode=2∧v.m.q.use=false):=of_decide_eq_false c
   have e:mCyc v.m s=v.m:=by unfold mCyc;rw [if_neg c]
   rw [e]
   exact ⟨trivial,h⟩
 ·repeat' (first
   | (refine w_drw h fun w h=>?_)
   | (refine w_deref ?_)
   | (refine w_ldAll h rfl ?_)
   | (refine w_ld h rfl ?_)
   | (refine w_chkAll h ?_)
   | (refine w_chk h rfl ?_)
   | (refine w_setAll h (by rfl) fun w h=>?_)
   | (refine w_new h fun n w h=>?_)
   | (refine w_leave h fun w h=>?_)
   | (refine w_set h rfl fun w h=>?_;dsimp only [upd,over] at h)
   | (refine w_ite (fun c=>?_) fun c=>?_))
  ·have c:v.m.mode=2:=by simpa using c
   exact ⟨by cases hh:v.m.q.use<;>simp [c],h⟩
  ·have c:¬ v.m.mode=2:=by simpa using c
   exact ⟨by simp [c],h⟩
theorem rcst2 (b nw n1:Nat) (v:Rm) (s:Sm) {w0 w:World} {S R:Nat→Prop} {K:WP} (h:Own w0 S R w (blk n1 (Ks.mk K_u8b s)^blk b [.int .u64 v.m.mss,.ptr (some ⟨nw,0⟩),.int .u64 v.m.r.n,.int .u64 v.m.r.nx,.int .u64 v.m.p.best,.int .i64 v.m.p.n,.bool v.m.p.full,.int .i64 v.m.c.ph,.int .u64 v.m.c.at',.int .u64 v.m.b.best,.int .u64 v.m.b.at',.bool v.m.b.on,.bool v.set,.bool v.m.b.rd,.int .u64 v.till,.bool v.m.q.use,.bool v.m.q.mea,.int .u64 v.m.q.bw,.int .i64 v.m.q.n,.int .u64 v.m.q.lost,.int .u64 v.m.q.t0,.int .u64 v.m.q.d0,.int .u64 v.m.q.l0,.int .i64 v.m.mode,.int .u64 v.m.rate,.int .u64 v.m.win,.int .u64 v.g,.bool v.m.rec',.bool v.m.first,.int .u64 v.m.til,.int .u64 v.m.sav]^blk nw [.int .u64 v.m.w.w,.int .u64 v.m.w.t0,.int .u64 v.m.w.t1,.int .u64 v.m.w.t2,.int .u64 v.m.w.v0,.int .u64 v.m.w.v1,.int .u64 v.m.w.v2,.int .u64 v.m.w.la,.bool false])) (k:∀ w,Own w0 S R w (blk n1 (Ks.mk K_u8b s)^blk b [.int .u64 (wM v (mCruise v.m (sNow s))).m.mss,.ptr (some ⟨nw,0⟩),.int .u64 (wM v (mCruise v.m (sNow s))).m.r.n,.int .u64 (wM v (mCruise v.m (sNow s))).m.r.nx,.int .u64 (wM v (mCruise v.m (sNow s))).m.p.best,.int .i64 (wM v (mCruise v.m (sNow s))).m.p.n,.bool (wM v (mCruise v.m (sNow s))).m.p.full,.int .i64 (wM v (mCruise v.m (sNow s))).m.c.ph,.int .u64 (wM v (mCruise v.m (sNow s))).m.c.at',.int .u64 (wM v (mCruise v.m (sNow s))).m.b.best,.int .u64 (wM v (mCruise v.m (sNow s))).m.b.at',.bool (wM v (mCruise v.m (sNow s))).m.b.on,.bool (wM v (mCruise v.m (sNow s))).set,.bool (wM v (mCruise v.m (sNow s))).m.b.rd,.int .u64 (wM v (mCruise v.m (sNow s))).till,.bool (wM v (mCruise v.m (sNow s))).m.q.use,.bool (wM v (mCruise v.m (sNow s))).m.q.mea,.int .u64 (wM v (mCruise v.m (sNow s))).m.q.bw,.int .i64 (wM v (mCruise v.m (sNow s))).m.q.n,.int .u64 (wM v (mCruise v.m (sNow s))).m.q.lost,.int .u64 (wM v (mCruise v.m (sNow s))).m.q.t0,.int .u64 (wM v (mCruise v.m (sNow s))).m.q.d0,.int .u64 (wM v (mCruise v.m (sNow s))).m.q.l0,.int .i64 (wM v (mCruise v.m (sNow s))).m.mode,.int .u64 (wM v (mCruise v.m (sNow s))).m.rate,.int .u64 (wM v (mCruise v.m (sNow s))).m.win,.int .u64 (wM v (mCruise v.m (sNow s))).g,.bool (wM v (mCruise v.m (sNow s))).m.rec',.bool (wM v (mCruise v.m (sNow s))).m.first,.int .u64 (wM v (mCruise v.m (sNow s))).m.til,.int .u64 (wM v (mCruise v.m (sNow s))).m.sav]^blk nw [.int .u64 (wM v (mCruise v.m (sNow s))).m.w.w,.int .u64 (wM v (mCruise v.m (sNow s))).m.w.t0,.int .u64 (wM v (mCruise v.m (sNow s))).m.w.t1,.int .u64 (wM v (mCruise v.m (sNow s))).m.w.t2,.int .u64 (wM v (mCruise v.m (sNow s))).m.w.v0,.int .u64 (wM v (mCruise v.m (sNow s))).m.w.v1,.int .u64 (wM v (mCruise v.m (sNow s))).m.w.v2,.int .u64 (wM v (mCruise v.m (sNow s))).m.w.la,.bool false])→K w) :
  (deref (some ⟨b,0⟩) fun q46 =>
 st ⟨q46.b,q46.o+23⟩ [.int .i64 (2:Int)] <|
 drw <|
 deref (some ⟨b,0⟩) fun q47 =>
 ld [.int .u64] ⟨n1,0⟩ fun (x48:Int) =>
 call Tryz.prog N_canterref08_Cycle_Start [.lf (.ptr (some ⟨q47.b,q47.o+7⟩)),.lf (.int .u64 x48),.lf (.int .i64 (2:Int))] [] fun (r49:Unit) =>
 K) w:=by
 repeat' (first
  | (refine w_drw h fun w h=>?_)
  | (refine w_deref ?_)
  | (refine w_ldAll h rfl ?_)
  | (refine w_ld h rfl ?_)
  | (refine w_chkAll h ?_)
  | (refine w_chk h rfl ?_)
  | (refine w_setAll h (by rfl) fun w h=>?_)
  | (refine w_new h fun n w h=>?_)
  | (refine w_leave h fun w h=>?_)
  | (refine w_set h rfl fun w h=>?_;dsimp only [upd,over] at h))
 have h:=(h.blkEq (b:=b) (L':=[.int .u64 (wM v { v.m with mode:=2 }).m.mss,.ptr (some ⟨nw,0⟩),.int .u64 (wM v { v.m with mode:=2 }).m.r.n,.int .u64 (wM v { v.m with mode:=2 }).m.r.nx,.int .u64 (wM v { v.m with mode:=2 }).m.p.best,.int .i64 (wM v { v.m with mode:=2 }).m.p.n,.bool (wM v { v.m with mode:=2 }).m.p.full,.int .i64 (wM v { v.m with mode:=2 }).m.c.ph,.int .u64 (wM v { v.m with mode:=2 }).m.c.at',.int .u64 (wM v { v.m with mode:=2 }).m.b.best,.int .u64 (wM v { v.m with mode:=2 }).m.b.at',.bool (wM v { v.m with mode:=2 }).m.b.on,.bool (wM v { v.m with mode:=2 }).set,.bool (wM v { v.m with mode:=2 }).m.b.rd,.int .u64 (wM v { v.m with mode:=2 }).till,.bool (wM v { v.m with mode:=2 }).m.q.use,.bool (wM v { v.m with mode:=2 }).m.q.mea,.int .u64 (wM v { v.m with mode:=2 }).m.q.bw,.int .i64 (wM v { v.m with mode:=2 }).m.q.n,.int .u64 (wM v { v.m with mode:=2 }).m.q.lost,.int .u64 (wM v { v.m with mode:=2 }).m.q.t0,.int .u64 (wM v { v.m with mode:=2 }).m.q.d0,.int .u64 (wM v { v.m with mode:=2 }).m.q.l0,.int .i64 (wM v { v.m with mode:=2 }).m.mode,.int .u64 (wM v { v.m with mode:=2 }).m.rate,.int .u64 (wM v { v.m with mode:=2 }).m.win,.int .u64 (wM v { v.m with mode:=2 }).g,.bool (wM v { v.m with mode:=2 }).m.rec',.bool (wM v { v.m with mode:=2 }).m.first,.int .u64 (wM v { v.m with mode:=2 }).m.til,.int .u64 (wM v { v.m with mode:=2 }).m.sav]) (by simp))
 have h:Own _ _ _ _ (blk n1 (Ks.mk K_u8b s)^blk b [.int .u64 (wM v { v.m with mode:=2 }).m.mss,.ptr (some ⟨nw,0⟩),.int .u64 (wM v { v.m with mode:=2 }).m.r.n,.int .u64 (wM v { v.m with mode:=2 }).m.r.nx,.int .u64 (wM v { v.m with mode:=2 }).m.p.best,.int .i64 (wM v { v.m with mode:=2 }).m.p.n,.bool (wM v { v.m with mode:=2 }).m.p.full,.int .i64 (wM v { v.m with mode:=2 }).m.c.ph,.int .u64 (wM v { v.m with mode:=2 }).m.c.at',.int .u64 (wM v { v.m with mode:=2 }).m.b.best,.int .u64 (wM v { v.m with mode:=2 }).m.b.at',.bool (wM v { v.m with mode:=2 }).m.b.on,.bool (wM v { v.m with mode:=2 }).set,.bool (wM v { v.m with mode:=2 }).m.b.rd,.int .u64 (wM v { v.m with mode:=2 }).till,.bool (wM v { v.m with mode:=2 }).m.q.use,.bool (wM v { v.m with mode:=2 }).m.q.mea,.int .u64 (wM v { v.m with mode:=2 }).m.q.bw,.int .i64 (wM v { v.m with mode:=2 }).m.q.n,.int .u64 (wM v { v.m with mode:=2 }).m.q.lost,.int .u64 (wM v { v.m with mode:=2 }).m.q.t0,.int .u64 (wM v { v.m with mode:=2 }).m.q.d0,.int .u64 (wM v { v.m with mode:=2 }).m.q.l0,.int .i64 (wM v { v.m with mode:=2 }).m.mode,.int .u64 (wM v { v.m with mode:=2 }).m.rate,.int .u64 (wM v { v.m with mode:=2 }).m.win,.int .u64 (wM v { v.m with mode:=2 }).g,.bool (wM v { v.m with mode:=2 }).m.rec',.bool (wM v { v.m with mode:=2 }).m.first,.int .u64 (wM v { v.m with mode:=2 }).m.til,.int .u64 (wM v { v.m with mode:=2 }).m.sav]^blk nw [.int .u64 (wM v { v.m with mode:=2 }).m.w.w,.int .u64 (wM v { v.m with mode:=2 }).m.w.t0,.int .u64 (wM v { v.m with mode:=2 }).m.w.t1,.int .u64 (wM v { v.m with mode:=2 }).m.w.t2,.int .u64 (wM v { v.m with mode:=2 }).m.w.v0,.int .u64 (wM v { v.m with mode:=2 }).m.w.v1,.int .u64 (wM v { v.m with mode:=2 }).m.w.v2,.int .u64 (wM v { v.m with mode:=2 }).m.w.la,.bool false]):=h.fin
 refine w_call (rcst_tri b nw (wM v { v.m with mode:=2 }) (sNow s) 2 (by omega)) h fun r w h=>?_
 exact k w h.fin
theorem rmodes_tri (b nw:Nat) (v:Rm) (hv:OkM v.m) (hR:Rel v) (o:Bool) (s:Sm) (hs:OkS s):Tri Tryz.prog N_canterref08_Model_modes [.lf (.ptr (some ⟨b,0⟩)),.agg (Ks.mk K_u8b s),.lf (.bool o)] [] (blk b [.int .u64 v.m.mss,.ptr (some ⟨nw,0⟩),.int .u64 v.m.r.n,.int .u64 v.m.r.nx,.int .u64 v.m.p.best,.int .i64 v.m.p.n,.bool v.m.p.full,.int .i64 v.m.c.ph,.int .u64 v.m.c.at',.int .u64 v.m.b.best,.int .u64 v.m.b.at',.bool v.m.b.on,.bool v.set,.bool v.m.b.rd,.int .u64 v.till,.bool v.m.q.use,.bool v.m.q.mea,.int .u64 v.m.q.bw,.int .i64 v.m.q.n,.int .u64 v.m.q.lost,.int .u64 v.m.q.t0,.int .u64 v.m.q.d0,.int .u64 v.m.q.l0,.int .i64 v.m.mode,.int .u64 v.m.rate,.int .u64 v.m.win,.int .u64 v.g,.bool v.m.rec',.bool v.m.first,.int .u64 v.m.til,.int .u64 v.m.sav]^blk nw [.int .u64 v.m.w.w,.int .u64 v.m.w.t0,.int .u64 v.m.w.t1,.int .u64 v.m.w.t2,.int .u64 v.m.w.v0,.int .u64 v.m.w.v1,.int .u64 v.m.w.v2,.int .u64 v.m.w.la,.bool false])
  (fun _=>exq (fun u:Rm=>u.m=rRest v.m s o∧Rel u∧u.g=v.g) (fun u=>blk b [.int .u64 u.m.mss,.ptr (some ⟨nw,0⟩),.int .u64 u.m.r.n,.int .u64 u.m.r.nx,.int .u64 u.m.p.best,.int .i64 u.m.p.n,.bool u.m.p.full,.int .i64 u.m.c.ph,.int .u64 u.m.c.at',.int .u64 u.m.b.best,.int .u64 u.m.b.at',.bool u.m.b.on,.bool u.set,.bool u.m.b.rd,.int .u64 u.till,.bool u.m.q.use,.bool u.m.q.mea,.int .u64 u.m.q.bw,.int .i64 u.m.q.n,.int .u64 u.m.q.lost,.int .u64 u.m.q.t0,.int .u64 u.m.q.d0,.int .u64 u.m.q.l0,.int .i64 u.m.mode,.int .u64 u.m.rate,.int .u64 u.m.win,.int .u64 u.g,.bool u.m.rec',.bool u.m.first,.int .u64 u.m.til,.int .u64 u.m.sav]^blk nw [.int .u64 u.m.w.w,.int .u64 u.m.w.t0,.int .u64 u.m.w.t1,.int .u64 u.m.w.t2,.int .u64 u.m.w.v0,.int .u64 u.m.w.v1,.int .u64 u.m.w.v2,.int .u64 u.m.w.la,.bool false])) :=
 tri_0 (call_canterref08_Model_modes _ _ _) fun w0 S R h=>by
  unfold W_canterref08_Model_modes
  refine w_new h fun n1 w h=>?_
  refine w_deref (w_ld h rfl ?_)
  have h:Own w0 S R w (blk n1 (Ks.mk K_u8b s)^blk b [.int .u64 v.m.mss,.ptr (some ⟨nw,0⟩),.int .u64 v.m.r.n,.int .u64 v.m.r.nx,.int .u64 v.m.p.best,.int .i64 v.m.p.n,.bool v.m.p.full,.int .i64 v.m.c.ph,.int .u64 v.m.c.at',.int .u64 v.m.b.best,.int .u64 v.m.b.at',.bool v.m.b.on,.bool v.set,.bool v.m.b.rd,.int .u64 v.till,.bool v.m.q.use,.bool v.m.q.mea,.int .u64 v.m.q.bw,.int .i64 v.m.q.n,.int .u64 v.m.q.lost,.int .u64 v.m.q.t0,.int .u64 v.m.q.d0,.int .u64 v.m.q.l0,.int .i64 v.m.mode,.int .u64 v.m.rate,.int .u64 v.m.win,.int .u64 v.g,.bool v.m.rec',.bool v.m.first,.int .u64 v.m.til,.int .u64 v.m.sav]^blk nw [.int .u64 v.m.w.w,.int .u64 v.m.w.t0,.int .u64 v.m.w.t1,.int .u64 v.m.w.t2,.int .u64 v.m.w.v0,.int .u64 v.m.w.v1,.int .u64 v.m.w.v2,.int .u64 v.m.w.la,.bool false]):=h
  refine rcy_tri b nw n1 v hv hR s hs h fun w h=>?_
  have hdef:rRest v.m s o=mLook (mM2 (mM1 (mPipe (mCyc v.m s) o s)) s) s o:=rfl
  rw [hdef]
  have hb1:(mCyc v.m s).b=v.m.b:=by unfold mCyc;split<;>rfl
  have ok1:=hv.cyc hs
  have hbest:v.m.b.best=(mCyc v.m s).b.best:=by rw [hb1]
  have hR1:Rel (wM v (mCyc v.m s)):=fun hh=>by
   have:=hR (by rw [← hb1];exact hh)
   show v.set=decide ((mCyc v.m s).b.til≠0)∧(v.set=true→v.till=(mCyc v.m s).b.til)
   rw [hb1];exact this
  try dsimp only
  rw [hbest]
  have e0:wM v (mCyc v.m s)=wM v (mCyc v.m s):=rfl
  generalize hm1:mCyc v.m s=m1 at *
  clear hm1 hdef e0
  repeat' (first
   | (refine w_drw h fun w h=>?_)
   | (refine w_deref ?_)
   | (refine w_ldAll h rfl ?_)
   | (refine w_ld h rfl ?_)
   | (refine w_chkAll h ?_)
   | (refine w_chk h rfl ?_)
   | (refine w_setAll h (by rfl) fun w h=>?_)
   | (refine w_new h fun n w h=>?_)
   | (refine w_leave h fun w h=>?_)
   | (refine w_set h rfl fun w h=>?_;dsimp only [upd,over] at h))
  refine ⟨by decide,w_ld h rfl ?_⟩
  refine w_call (rpipe_tri b nw (wM v m1) ok1.p o (sLim s) m1.w.v0) h fun r w h=>?_
  have ok2:OkM (mPipe m1 o s):=ok1.pipe
  have hR2:Rel (wM v (mPipe m1 o s)):=hR1
  have hbest:m1.b.best=(mPipe m1 o s).b.best:=rfl
  rw [hbest]
  have h:Own w0 S R w (blk n1 (Ks.mk K_u8b s)^blk b [.int .u64 (wM v (mPipe m1 o s)).m.mss,.ptr (some ⟨nw,0⟩),.int .u64 (wM v (mPipe m1 o s)).m.r.n,.int .u64 (wM v (mPipe m1 o s)).m.r.nx,.int .u64 (wM v (mPipe m1 o s)).m.p.best,.int .i64 (wM v (mPipe m1 o s)).m.p.n,.bool (wM v (mPipe m1 o s)).m.p.full,.int .i64 (wM v (mPipe m1 o s)).m.c.ph,.int .u64 (wM v (mPipe m1 o s)).m.c.at',.int .u64 (wM v (mPipe m1 o s)).m.b.best,.int .u64 (wM v (mPipe m1 o s)).m.b.at',.bool (wM v (mPipe m1 o s)).m.b.on,.bool (wM v (mPipe m1 o s)).set,.bool (wM v (mPipe m1 o s)).m.b.rd,.int .u64 (wM v (mPipe m1 o s)).till,.bool (wM v (mPipe m1 o s)).m.q.use,.bool (wM v (mPipe m1 o s)).m.q.mea,.int .u64 (wM v (mPipe m1 o s)).m.q.bw,.int .i64 (wM v (mPipe m1 o s)).m.q.n,.int .u64 (wM v (mPipe m1 o s)).m.q.lost,.int .u64 (wM v (mPipe m1 o s)).m.q.t0,.int .u64 (wM v (mPipe m1 o s)).m.q.d0,.int .u64 (wM v (mPipe m1 o s)).m.q.l0,.int .i64 (wM v (mPipe m1 o s)).m.mode,.int .u64 (wM v (mPipe m1 o s)).m.rate,.int .u64 (wM v (mPipe m1 o s)).m.win,.int .u64 (wM v (mPipe m1 o s)).g,.bool (wM v (mPipe m1 o s)).m.rec',.bool (wM v (mPipe m1 o s)).m.first,.int .u64 (wM v (mPipe m1 o s)).m.til,.int .u64 (wM v (mPipe m1 o s)).m.sav]^blk nw [.int .u64 (wM v (mPipe m1 o s)).m.w.w,.int .u64 (wM v (mPipe m1 o s)).m.w.t0,.int .u64 (wM v (mPipe m1 o s)).m.w.t1,.int .u64 (wM v (mPipe m1 o s)).m.w.t2,.int .u64 (wM v (mPipe m1 o s)).m.w.v0,.int .u64 (wM v (mPipe m1 o s)).m.w.v1,.int .u64 (wM v (mPipe m1 o s)).m.w.v2,.int .u64 (wM v (mPipe m1 o s)).m.w.la,.bool false]):=h.fin
  generalize mPipe m1 o s=m2 at *
  clear hR1 ok1 hbest
  have b3:(mM1 m2).b=m2.b:=by unfold mM1;split<;>rfl
  have ok3:=ok2.m1
  refine w_join h (fun _=>blk n1 (Ks.mk K_u8b s)^blk b [.int .u64 (wM v (mM1 m2)).m.mss,.ptr (some ⟨nw,0⟩),.int .u64 (wM v (mM1 m2)).m.r.n,.int .u64 (wM v (mM1 m2)).m.r.nx,.int .u64 (wM v (mM1 m2)).m.p.best,.int .i64 (wM v (mM1 m2)).m.p.n,.bool (wM v (mM1 m2)).m.p.full,.int .i64 (wM v (mM1 m2)).m.c.ph,.int .u64 (wM v (mM1 m2)).m.c.at',.int .u64 (wM v (mM1 m2)).m.b.best,.int .u64 (wM v (mM1 m2)).m.b.at',.bool (wM v (mM1 m2)).m.b.on,.bool (wM v (mM1 m2)).set,.bool (wM v (mM1 m2)).m.b.rd,.int .u64 (wM v (mM1 m2)).till,.bool (wM v (mM1 m2)).m.q.use,.bool (wM v (mM1 m2)).m.q.mea,.int .u64 (wM v (mM1 m2)).m.q.bw,.int .i64 (wM v (mM1 m2)).m.q.n,.int .u64 (wM v (mM1 m2)).m.q.lost,.int .u64 (wM v (mM1 m2)).m.q.t0,.int .u64 (wM v (mM1 m2)).m.q.d0,.int .u64 (wM v (mM1 m2)).m.q.l0,.int .i64 (wM v (mM1 m2)).m.mode,.int .u64 (wM v (mM1 m2)).m.rate,.int .u64 (wM v (mM1 m2)).m.win,.int .u64 (wM v (mM1 m2)).g,.bool (wM v (mM1 m2)).m.rec',.bool (wM v (mM1 m2)).m.first,.int .u64 (wM v (mM1 m2)).m.til,.int .u64 (wM v (mM1 m2)).m.sav]^blk nw [.int .u64 (wM v (mM1 m2)).m.w.w,.int .u64 (wM v (mM1 m2)).m.w.t0,.int .u64 (wM v (mM1 m2)).m.w.t1,.int .u64 (wM v (mM1 m2)).m.w.t2,.int .u64 (wM v (mM1 m2)).m.w.v0,.int .u64 (wM v (mM1 m2)).m.w.v1,.int .u64 (wM v (mM1 m2)).m.w.v2,.int .u64 (wM v (mM1 m2)).m.w.la,.bool false]) (fun _=>True) (fun _ w _ h=>?_) ?_
  ·have hR3:Rel (wM v (mM1 m2)):=fun hh=>by
    have:=hR2 (by rw [← b3];exact hh)
    show v.set=decide ((mM1 m2).b.til≠0)∧(v.set=true→v.till=(mM1 m2).b.til)
    rw [b3];exact this
   rw [← b3]
   generalize mM1 m2=m3 at *
   clear b3 ok2 hR2
   have ok4:=ok3.m2 hs
   have b4:(mM2 m3 s).b=m3.b:=by unfold mM2;split<;>rfl
   refine w_join h (fun _=>blk n1 (Ks.mk K_u8b s)^blk b [.int .u64 (wM v (mM2 m3 s)).m.mss,.ptr (some ⟨nw,0⟩),.int .u64 (wM v (mM2 m3 s)).m.r.n,.int .u64 (wM v (mM2 m3 s)).m.r.nx,.int .u64 (wM v (mM2 m3 s)).m.p.best,.int .i64 (wM v (mM2 m3 s)).m.p.n,.bool (wM v (mM2 m3 s)).m.p.full,.int .i64 (wM v (mM2 m3 s)).m.c.ph,.int .u64 (wM v (mM2 m3 s)).m.c.at',.int .u64 (wM v (mM2 m3 s)).m.b.best,.int .u64 (wM v (mM2 m3 s)).m.b.at',.bool (wM v (mM2 m3 s)).m.b.on,.bool (wM v (mM2 m3 s)).set,.bool (wM v (mM2 m3 s)).m.b.rd,.int .u64 (wM v (mM2 m3 s)).till,.bool (wM v (mM2 m3 s)).m.q.use,.bool (wM v (mM2 m3 s)).m.q.mea,.int .u64 (wM v (mM2 m3 s)).m.q.bw,.int .i64 (wM v (mM2 m3 s)).m.q.n,.int .u64 (wM v (mM2 m3 s)).m.q.lost,.int .u64 (wM v (mM2 m3 s)).m.q.t0,.int .u64 (wM v (mM2 m3 s)).m.q.d0,.int .u64 (wM v (mM2 m3 s)).m.q.l0,.int .i64 (wM v (mM2 m3 s)).m.mode,.int .u64 (wM v (mM2 m3 s)).m.rate,.int .u64 (wM v (mM2 m3 s)).m.win,.int .u64 (wM v (mM2 m3 s)).g,.bool (wM v (mM2 m3 s)).m.rec',.bool (wM v (mM2 m3 s)).m.first,.int .u64 (wM v (mM2 m3 s)).m.til,.int .u64 (wM v (mM2 m3 s)).m.sav]^blk nw [.int .u64 (wM v (mM2 m3 s)).m.w.w,.int .u64 (wM v (mM2 m3 s)).m.w.t0,.int .u64 (wM v (mM2 m3 s)).m.w.t1,.int .u64 (wM v (mM2 m3 s)).m.w.t2,.int .u64 (wM v (mM2 m3 s)).m.w.v0,.int .u64 (wM v (mM2 m3 s)).m.w.v1,.int .u64 (wM v (mM2 m3 s)).m.w.v2,.int .u64 (wM v (mM2 m3 s)).m.w.la,.bool false]) (fun _=>True) (fun _ w _ h=>?_) ?_
   ·have hR4:Rel (wM v (mM2 m3 s)):=fun hh=>by
     have:=hR3 (by rw [← b4];exact hh)
     show v.set=decide ((mM2 m3 s).b.til≠0)∧(v.set=true→v.till=(mM2 m3 s).b.til)
     rw [b4];exact this
    generalize mM2 m3 s=m4 at *
    clear b4 ok3 hR3
    repeat' (first
     | (refine w_drw h fun w h=>?_)
     | (refine w_deref ?_)
     | (refine w_ldAll h rfl ?_)
     | (refine w_ld h rfl ?_)
     | (refine w_chkAll h ?_)
     | (refine w_chk h rfl ?_)
     | (refine w_setAll h (by rfl) fun w h=>?_)
     | (refine w_new h fun n w h=>?_)
     | (refine w_leave h fun w h=>?_)
     | (refine w_set h rfl fun w h=>?_;dsimp only [upd,over] at h))
    have ef:=floor_w (m:=m4) ok4.mss
    have ef:IntKind.u64.wrap ((4:Int) * (wM v m4).m.mss)=mFloor m4:=ef
    rw [ef]
    refine w_call (rprobe_tri b nw (wM v m4) ok4.b hR4 (sNow s) (sRtt s) (sFli s) (mFloor m4) o hs.now hs.rtt) h fun r w h=>?_
    obtain ⟨u,⟨hr,hu,hRu,hg⟩,h⟩:=h.outq
    have hx:=bU_excl m4.b (sNow s) (sRtt s) (sFli s) (mFloor m4) o
    have hu:u.m={ m4 with b:=(mPr m4 s o).2 }:=hu
    have hr:r=(mPr m4 s o).1:=hr
    have hx:(mPr m4 s o).1.1=true→(mPr m4 s o).1.2=false:=hx
    have hdef:mLook m4 s o=mProbed u.m r (sNow s):=by rw [hu,hr];rfl
    rw [hdef]
    rw [← hr] at hx
    have hw:u.m.w=m4.w:=by rw [hu]
    have h:Own w0 S R w (blk b [.int .u64 u.m.mss,.ptr (some ⟨nw,0⟩),.int .u64 u.m.r.n,.int .u64 u.m.r.nx,.int .u64 u.m.p.best,.int .i64 u.m.p.n,.bool u.m.p.full,.int .i64 u.m.c.ph,.int .u64 u.m.c.at',.int .u64 u.m.b.best,.int .u64 u.m.b.at',.bool u.m.b.on,.bool u.set,.bool u.m.b.rd,.int .u64 u.till,.bool u.m.q.use,.bool u.m.q.mea,.int .u64 u.m.q.bw,.int .i64 u.m.q.n,.int .u64 u.m.q.lost,.int .u64 u.m.q.t0,.int .u64 u.m.q.d0,.int .u64 u.m.q.l0,.int .i64 u.m.mode,.int .u64 u.m.rate,.int .u64 u.m.win,.int .u64 u.g,.bool u.m.rec',.bool u.m.first,.int .u64 u.m.til,.int .u64 u.m.sav]^blk n1 (Ks.mk K_u8b s)^blk nw [.int .u64 m4.w.w,.int .u64 m4.w.t0,.int .u64 m4.w.t1,.int .u64 m4.w.t2,.int .u64 m4.w.v0,.int .u64 m4.w.v1,.int .u64 m4.w.v2,.int .u64 m4.w.la,.bool false]):=h.fin
    rw [← hw] at h
    have h:Own w0 S R w (blk n1 (Ks.mk K_u8b s)^blk b [.int .u64 u.m.mss,.ptr (some ⟨nw,0⟩),.int .u64 u.m.r.n,.int .u64 u.m.r.nx,.int .u64 u.m.p.best,.int .i64 u.m.p.n,.bool u.m.p.full,.int .i64 u.m.c.ph,.int .u64 u.m.c.at',.int .u64 u.m.b.best,.int .u64 u.m.b.at',.bool u.m.b.on,.bool u.set,.bool u.m.b.rd,.int .u64 u.till,.bool u.m.q.use,.bool u.m.q.mea,.int .u64 u.m.q.bw,.int .i64 u.m.q.n,.int .u64 u.m.q.lost,.int .u64 u.m.q.t0,.int .u64 u.m.q.d0,.int .u64 u.m.q.l0,.int .i64 u.m.mode,.int .u64 u.m.rate,.int .u64 u.m.win,.int .u64 u.g,.bool u.m.rec',.bool u.m.first,.int .u64 u.m.til,.int .u64 u.m.sav]^blk nw [.int .u64 u.m.w.w,.int .u64 u.m.w.t0,.int .u64 u.m.w.t1,.int .u64 u.m.w.t2,.int .u64 u.m.w.v0,.int .u64 u.m.w.v1,.int .u64 u.m.w.v2,.int .u64 u.m.w.la,.bool false]):=h.fin
    clear hu hr hdef hR4 hw
    rw [← hg]
    clear hg
    refine w_join h (fun _=>blk n1 (Ks.mk K_u8b s)^blk b [.int .u64 (if r.1=true then wM u { u.m with sav:=if u.m.win > u.m.sav then u.m.win else u.m.sav,mode:=3 } else u).m.mss,.ptr (some ⟨nw,0⟩),.int .u64 (if r.1=true then wM u { u.m with sav:=if u.m.win > u.m.sav then u.m.win else u.m.sav,mode:=3 } else u).m.r.n,.int .u64 (if r.1=true then wM u { u.m with sav:=if u.m.win > u.m.sav then u.m.win else u.m.sav,mode:=3 } else u).m.r.nx,.int .u64 (if r.1=true then wM u { u.m with sav:=if u.m.win > u.m.sav then u.m.win else u.m.sav,mode:=3 } else u).m.p.best,.int .i64 (if r.1=true then wM u { u.m with sav:=if u.m.win > u.m.sav then u.m.win else u.m.sav,mode:=3 } else u).m.p.n,.bool (if r.1=true then wM u { u.m with sav:=if u.m.win > u.m.sav then u.m.win else u.m.sav,mode:=3 } else u).m.p.full,.int .i64 (if r.1=true then wM u { u.m with sav:=if u.m.win > u.m.sav then u.m.win else u.m.sav,mode:=3 } else u).m.c.ph,.int .u64 (if r.1=true then wM u { u.m with sav:=if u.m.win > u.m.sav then u.m.win else u.m.sav,mode:=3 } else u).m.c.at',.int .u64 (if r.1=true then wM u { u.m with sav:=if u.m.win > u.m.sav then u.m.win else u.m.sav,mode:=3 } else u).m.b.best,.int .u64 (if r.1=true then wM u { u.m with sav:=if u.m.win > u.m.sav then u.m.win else u.m.sav,mode:=3 } else u).m.b.at',.bool (if r.1=true then wM u { u.m with sav:=if u.m.win > u.m.sav then u.m.win else u.m.sav,mode:=3 } else u).m.b.on,.bool (if r.1=true then wM u { u.m with sav:=if u.m.win > u.m.sav then u.m.win else u.m.sav,mode:=3 } else u).set,.bool (if r.1=true then wM u { u.m with sav:=if u.m.win > u.m.sav then u.m.win else u.m.sav,mode:=3 } else u).m.b.rd,.int .u64 (if r.1=true then wM u { u.m with sav:=if u.m.win > u.m.sav then u.m.win else u.m.sav,mode:=3 } else u).till,.bool (if r.1=true then wM u { u.m with sav:=if u.m.win > u.m.sav then u.m.win else u.m.sav,mode:=3 } else u).m.q.use,.bool (if r.1=true then wM u { u.m with sav:=if u.m.win > u.m.sav then u.m.win else u.m.sav,mode:=3 } else u).m.q.mea,.int .u64 (if r.1=true then wM u { u.m with sav:=if u.m.win > u.m.sav then u.m.win else u.m.sav,mode:=3 } else u).m.q.bw,.int .i64 (if r.1=true then wM u { u.m with sav:=if u.m.win > u.m.sav then u.m.win else u.m.sav,mode:=3 } else u).m.q.n,.int .u64 (if r.1=true then wM u { u.m with sav:=if u.m.win > u.m.sav then u.m.win else u.m.sav,mode:=3 } else u).m.q.lost,.int .u64 (if r.1=true then wM u { u.m with sav:=if u.m.win > u.m.sav then u.m.win else u.m.sav,mode:=3 } else u).m.q.t0,.int .u64 (if r.1=true then wM u { u.m with sav:=if u.m.win > u.m.sav then u.m.win else u.m.sav,mode:=3 } else u).m.q.d0,.int .u64 (if r.1=true then wM u { u.m with sav:=if u.m.win > u.m.sav then u.m.win else u.m.sav,mode:=3 } else u).m.q.l0,.int .i64 (if r.1=true then wM u { u.m with sav:=if u.m.win > u.m.sav then u.m.win else u.m.sav,mode:=3 } else u).m.mode,.int .u64 (if r.1=true then wM u { u.m with sav:=if u.m.win > u.m.sav then u.m.win else u.m.sav,mode:=3 } else u).m.rate,.int .u64 (if r.1=true then wM u { u.m with sav:=if u.m.win > u.m.sav then u.m.win else u.m.sav,mode:=3 } else u).m.win,.int .u64 (if r.1=true then wM u { u.m with sav:=if u.m.win > u.m.sav then u.m.win else u.m.sav,mode:=3 } else u).g,.bool (if r.1=true then wM u { u.m with sav:=if u.m.win > u.m.sav then u.m.win else u.m.sav,mode:=3 } else u).m.rec',.bool (if r.1=true then wM u { u.m with sav:=if u.m.win > u.m.sav then u.m.win else u.m.sav,mode:=3 } else u).m.first,.int .u64 (if r.1=true then wM u { u.m with sav:=if u.m.win > u.m.sav then u.m.win else u.m.sav,mode:=3 } else u).m.til,.int .u64 (if r.1=true then wM u { u.m with sav:=if u.m.win > u.m.sav then u.m.win else u.m.sav,mode:=3 } else u).m.sav]^blk nw [.int .u64 (if r.1=true then wM u { u.m with sav:=if u.m.win > u.m.sav then u.m.win else u.m.sav,mode:=3 } else u).m.w.w,.int .u64 (if r.1=true then wM u { u.m with sav:=if u.m.win > u.m.sav then u.m.win else u.m.sav,mode:=3 } else u).m.w.t0,.int .u64 (if r.1=true then wM u { u.m with sav:=if u.m.win > u.m.sav then u.m.win else u.m.sav,mode:=3 } else u).m.w.t1,.int .u64 (if r.1=true then wM u { u.m with sav:=if u.m.win > u.m.sav then u.m.win else u.m.sav,mode:=3 } else u).m.w.t2,.int .u64 (if r.1=true then wM u { u.m with sav:=if u.m.win > u.m.sav then u.m.win else u.m.sav,mode:=3 } else u).m.w.v0,.int .u64 (if r.1=true then wM u { u.m with sav:=if u.m.win > u.m.sav then u.m.win else u.m.sav,mode:=3 } else u).m.w.v1,.int .u64 (if r.1=true then wM u { u.m with sav:=if u.m.win > u.m.sav then u.m.win else u.m.sav,mode:=3 } else u).m.w.v2,.int .u64 (if r.1=true then wM u { u.m with sav:=if u.m.win > u.m.sav then u.m.win else u.m.sav,mode:=3 } else u).m.w.la,.bool false]) (fun _=>True) (fun _ w _ h=>?_) ?_
    ·unfold mProbed
     by_cases hr1:r.1=true
     ·have hx:=hx hr1
      rw [hx]
      refine w_ite (fun c=>(by cases c)) fun _=>?_
      rw [if_pos hr1]
      rw [if_pos hr1] at h
      have h:Own w0 S R w (blk n1 (Ks.mk K_u8b s)^blk b [.int .u64 (wM u { u.m with sav:=if u.m.win > u.m.sav then u.m.win else u.m.sav,mode:=3 }).m.mss,.ptr (some ⟨nw,0⟩),.int .u64 (wM u { u.m with sav:=if u.m.win > u.m.sav then u.m.win else u.m.sav,mode:=3 }).m.r.n,.int .u64 (wM u { u.m with sav:=if u.m.win > u.m.sav then u.m.win else u.m.sav,mode:=3 }).m.r.nx,.int .u64 (wM u { u.m with sav:=if u.m.win > u.m.sav then u.m.win else u.m.sav,mode:=3 }).m.p.best,.int .i64 (wM u { u.m with sav:=if u.m.win > u.m.sav then u.m.win else u.m.sav,mode:=3 }).m.p.n,.bool (wM u { u.m with sav:=if u.m.win > u.m.sav then u.m.win else u.m.sav,mode:=3 }).m.p.full,.int .i64 (wM u { u.m with sav:=if u.m.win > u.m.sav then u.m.win else u.m.sav,mode:=3 }).m.c.ph,.int .u64 (wM u { u.m with sav:=if u.m.win > u.m.sav then u.m.win else u.m.sav,mode:=3 }).m.c.at',.int .u64 (wM u { u.m with sav:=if u.m.win > u.m.sav then u.m.win else u.m.sav,mode:=3 }).m.b.best,.int .u64 (wM u { u.m with sav:=if u.m.win > u.m.sav then u.m.win else u.m.sav,mode:=3 }).m.b.at',.bool (wM u { u.m with sav:=if u.m.win > u.m.sav then u.m.win else u.m.sav,mode:=3 }).m.b.on,.bool (wM u { u.m with sav:=if u.m.win > u.m.sav then u.m.win else u.m.sav,mode:=3 }).set,.bool (wM u { u.m with sav:=if u.m.win > u.m.sav then u.m.win else u.m.sav,mode:=3 }).m.b.rd,.int .u64 (wM u { u.m with sav:=if u.m.win > u.m.sav then u.m.win else u.m.sav,mode:=3 }).till,.bool (wM u { u.m with sav:=if u.m.win > u.m.sav then u.m.win else u.m.sav,mode:=3 }).m.q.use,.bool (wM u { u.m with sav:=if u.m.win > u.m.sav then u.m.win else u.m.sav,mode:=3 }).m.q.mea,.int .u64 (wM u { u.m with sav:=if u.m.win > u.m.sav then u.m.win else u.m.sav,mode:=3 }).m.q.bw,.int .i64 (wM u { u.m with sav:=if u.m.win > u.m.sav then u.m.win else u.m.sav,mode:=3 }).m.q.n,.int .u64 (wM u { u.m with sav:=if u.m.win > u.m.sav then u.m.win else u.m.sav,mode:=3 }).m.q.lost,.int .u64 (wM u { u.m with sav:=if u.m.win > u.m.sav then u.m.win else u.m.sav,mode:=3 }).m.q.t0,.int .u64 (wM u { u.m with sav:=if u.m.win > u.m.sav then u.m.win else u.m.sav,mode:=3 }).m.q.d0,.int .u64 (wM u { u.m with sav:=if u.m.win > u.m.sav then u.m.win else u.m.sav,mode:=3 }).m.q.l0,.int .i64 (wM u { u.m with sav:=if u.m.win > u.m.sav then u.m.win else u.m.sav,mode:=3 }).m.mode,.int .u64 (wM u { u.m with sav:=if u.m.win > u.m.sav then u.m.win else u.m.sav,mode:=3 }).m.rate,.int .u64 (wM u { u.m with sav:=if u.m.win > u.m.sav then u.m.win else u.m.sav,mode:=3 }).m.win,.int .u64 (wM u { u.m with sav:=if u.m.win > u.m.sav then u.m.win else u.m.sav,mode:=3 }).g,.bool (wM u { u.m with sav:=if u.m.win > u.m.sav then u.m.win else u.m.sav,mode:=3 }).m.rec',.bool (wM u { u.m with sav:=if u.m.win > u.m.sav then u.m.win else u.m.sav,mode:=3 }).m.first,.int .u64 (wM u { u.m with sav:=if u.m.win > u.m.sav then u.m.win else u.m.sav,mode:=3 }).m.til,.int .u64 (wM u { u.m with sav:=if u.m.win > u.m.sav then u.m.win else u.m.sav,mode:=3 }).m.sav]^blk nw [.int .u64 (wM u { u.m with sav:=if u.m.win > u.m.sav then u.m.win else u.m.sav,mode:=3 }).m.w.w,.int .u64 (wM u { u.m with sav:=if u.m.win > u.m.sav then u.m.win else u.m.sav,mode:=3 }).m.w.t0,.int .u64 (wM u { u.m with sav:=if u.m.win > u.m.sav then u.m.win else u.m.sav,mode:=3 }).m.w.t1,.int .u64 (wM u { u.m with sav:=if u.m.win > u.m.sav then u.m.win else u.m.sav,mode:=3 }).m.w.t2,.int .u64 (wM u { u.m with sav:=if u.m.win > u.m.sav then u.m.win else u.m.sav,mode:=3 }).m.w.v0,.int .u64 (wM u { u.m with sav:=if u.m.win > u.m.sav then u.m.win else u.m.sav,mode:=3 }).m.w.v1,.int .u64 (wM u { u.m with sav:=if u.m.win > u.m.sav then u.m.win else u.m.sav,mode:=3 }).m.w.v2,.int .u64 (wM u { u.m with sav:=if u.m.win > u.m.sav then u.m.win else u.m.sav,mode:=3 }).m.w.la,.bool false]):=h
      exact (h.inq (wM u { u.m with sav:=if u.m.win > u.m.sav then u.m.win else u.m.sav,mode:=3 }) ⟨rfl,hRu,rfl⟩).keep
     ·rw [if_neg hr1]
      rw [if_neg hr1] at h
      have h:Own w0 S R w (blk n1 (Ks.mk K_u8b s)^blk b [.int .u64 u.m.mss,.ptr (some ⟨nw,0⟩),.int .u64 u.m.r.n,.int .u64 u.m.r.nx,.int .u64 u.m.p.best,.int .i64 u.m.p.n,.bool u.m.p.full,.int .i64 u.m.c.ph,.int .u64 u.m.c.at',.int .u64 u.m.b.best,.int .u64 u.m.b.at',.bool u.m.b.on,.bool u.set,.bool u.m.b.rd,.int .u64 u.till,.bool u.m.q.use,.bool u.m.q.mea,.int .u64 u.m.q.bw,.int .i64 u.m.q.n,.int .u64 u.m.q.lost,.int .u64 u.m.q.t0,.int .u64 u.m.q.d0,.int .u64 u.m.q.l0,.int .i64 u.m.mode,.int .u64 u.m.rate,.int .u64 u.m.win,.int .u64 u.g,.bool u.m.rec',.bool u.m.first,.int .u64 u.m.til,.int .u64 u.m.sav]^blk nw [.int .u64 u.m.w.w,.int .u64 u.m.w.t0,.int .u64 u.m.w.t1,.int .u64 u.m.w.t2,.int .u64 u.m.w.v0,.int .u64 u.m.w.v1,.int .u64 u.m.w.v2,.int .u64 u.m.w.la,.bool false]):=h
      refine w_ite (fun c=>?_) fun c=>?_
      ·have c:r.2=true:=c
       rw [if_pos c]
       repeat' (first
        | (refine w_drw h fun w h=>?_)
        | (refine w_deref ?_)
        | (refine w_ldAll h rfl ?_)
        | (refine w_ld h rfl ?_)
        | (refine w_chkAll h ?_)
        | (refine w_chk h rfl ?_)
        | (refine w_setAll h (by rfl) fun w h=>?_)
        | (refine w_new h fun n w h=>?_)
        | (refine w_leave h fun w h=>?_)
        | (refine w_set h rfl fun w h=>?_;dsimp only [upd,over] at h))
       have h:=(h.blkEq (b:=b) (L':=[.int .u64 (wM u { mBack u.m with mode:=0 }).m.mss,.ptr (some ⟨nw,0⟩),.int .u64 (wM u { mBack u.m with mode:=0 }).m.r.n,.int .u64 (wM u { mBack u.m with mode:=0 }).m.r.nx,.int .u64 (wM u { mBack u.m with mode:=0 }).m.p.best,.int .i64 (wM u { mBack u.m with mode:=0 }).m.p.n,.bool (wM u { mBack u.m with mode:=0 }).m.p.full,.int .i64 (wM u { mBack u.m with mode:=0 }).m.c.ph,.int .u64 (wM u { mBack u.m with mode:=0 }).m.c.at',.int .u64 (wM u { mBack u.m with mode:=0 }).m.b.best,.int .u64 (wM u { mBack u.m with mode:=0 }).m.b.at',.bool (wM u { mBack u.m with mode:=0 }).m.b.on,.bool (wM u { mBack u.m with mode:=0 }).set,.bool (wM u { mBack u.m with mode:=0 }).m.b.rd,.int .u64 (wM u { mBack u.m with mode:=0 }).till,.bool (wM u { mBack u.m with mode:=0 }).m.q.use,.bool (wM u { mBack u.m with mode:=0 }).m.q.mea,.int .u64 (wM u { mBack u.m with mode:=0 }).m.q.bw,.int .i64 (wM u { mBack u.m with mode:=0 }).m.q.n,.int .u64 (wM u { mBack u.m with mode:=0 }).m.q.lost,.int .u64 (wM u { mBack u.m with mode:=0 }).m.q.t0,.int .u64 (wM u { mBack u.m with mode:=0 }).m.q.d0,.int .u64 (wM u { mBack u.m with mode:=0 }).m.q.l0,.int .i64 (wM u { mBack u.m with mode:=0 }).m.mode,.int .u64 (wM u { mBack u.m with mode:=0 }).m.rate,.int .u64 (wM u { mBack u.m with mode:=0 }).m.win,.int .u64 (wM u { mBack u.m with mode:=0 }).g,.bool (wM u { mBack u.m with mode:=0 }).m.rec',.bool (wM u { mBack u.m with mode:=0 }).m.first,.int .u64 (wM u { mBack u.m with mode:=0 }).m.til,.int .u64 (wM u { mBack u.m with mode:=0 }).m.sav]) (by simp))
       have h:Own w0 S R _ (blk n1 (Ks.mk K_u8b s)^blk b [.int .u64 (wM u { mBack u.m with mode:=0 }).m.mss,.ptr (some ⟨nw,0⟩),.int .u64 (wM u { mBack u.m with mode:=0 }).m.r.n,.int .u64 (wM u { mBack u.m with mode:=0 }).m.r.nx,.int .u64 (wM u { mBack u.m with mode:=0 }).m.p.best,.int .i64 (wM u { mBack u.m with mode:=0 }).m.p.n,.bool (wM u { mBack u.m with mode:=0 }).m.p.full,.int .i64 (wM u { mBack u.m with mode:=0 }).m.c.ph,.int .u64 (wM u { mBack u.m with mode:=0 }).m.c.at',.int .u64 (wM u { mBack u.m with mode:=0 }).m.b.best,.int .u64 (wM u { mBack u.m with mode:=0 }).m.b.at',.bool (wM u { mBack u.m with mode:=0 }).m.b.on,.bool (wM u { mBack u.m with mode:=0 }).set,.bool (wM u { mBack u.m with mode:=0 }).m.b.rd,.int .u64 (wM u { mBack u.m with mode:=0 }).till,.bool (wM u { mBack u.m with mode:=0 }).m.q.use,.bool (wM u { mBack u.m with mode:=0 }).m.q.mea,.int .u64 (wM u { mBack u.m with mode:=0 }).m.q.bw,.int .i64 (wM u { mBack u.m with mode:=0 }).m.q.n,.int .u64 (wM u { mBack u.m with mode:=0 }).m.q.lost,.int .u64 (wM u { mBack u.m with mode:=0 }).m.q.t0,.int .u64 (wM u { mBack u.m with mode:=0 }).m.q.d0,.int .u64 (wM u { mBack u.m with mode:=0 }).m.q.l0,.int .i64 (wM u { mBack u.m with mode:=0 }).m.mode,.int .u64 (wM u { mBack u.m with mode:=0 }).m.rate,.int .u64 (wM u { mBack u.m with mode:=0 }).m.win,.int .u64 (wM u { mBack u.m with mode:=0 }).g,.bool (wM u { mBack u.m with mode:=0 }).m.rec',.bool (wM u { mBack u.m with mode:=0 }).m.first,.int .u64 (wM u { mBack u.m with mode:=0 }).m.til,.int .u64 (wM u { mBack u.m with mode:=0 }).m.sav]^blk nw [.int .u64 (wM u { mBack u.m with mode:=0 }).m.w.w,.int .u64 (wM u { mBack u.m with mode:=0 }).m.w.t0,.int .u64 (wM u { mBack u.m with mode:=0 }).m.w.t1,.int .u64 (wM u { mBack u.m with mode:=0 }).m.w.t2,.int .u64 (wM u { mBack u.m with mode:=0 }).m.w.v0,.int .u64 (wM u { mBack u.m with mode:=0 }).m.w.v1,.int .u64 (wM u { mBack u.m with mode:=0 }).m.w.v2,.int .u64 (wM u { mBack u.m with mode:=0 }).m.w.la,.bool false]):=h.fin
       have hR5:Rel (wM u { mBack u.m with mode:=0 }):=hRu
       refine w_ite (fun c=>?_) fun c=>?_
       ·have c:u.m.p.full=true:=c
        rw [if_pos c]
        refine rcst2 b nw n1 (wM u { mBack u.m with mode:=0 }) s h fun w h=>?_
        exact (h.inq (wM u (mCruise { mBack u.m with mode:=0 } (sNow s))) ⟨rfl,hRu,rfl⟩).keep
       ·have c:u.m.p.full=false:=c
        rw [if_neg (by rw [c];simp)]
        exact (h.inq (wM u { mBack u.m with mode:=0 }) ⟨rfl,hRu,rfl⟩).keep
      ·have c:r.2=false:=c
       rw [if_neg (by rw [c];simp)]
       exact (h.inq u ⟨rfl,hRu,rfl⟩).keep
    ·refine w_ite (fun c=>?_) fun c=>?_
     ·have c:r.1=true:=c
      rw [if_pos c]
      repeat' (first
       | (refine w_drw h fun w h=>?_)
       | (refine w_deref ?_)
       | (refine w_ldAll h rfl ?_)
       | (refine w_ld h rfl ?_)
       | (refine w_chkAll h ?_)
       | (refine w_chk h rfl ?_)
       | (refine w_setAll h (by rfl) fun w h=>?_)
       | (refine w_new h fun n w h=>?_)
       | (refine w_leave h fun w h=>?_)
       | (refine w_set h rfl fun w h=>?_;dsimp only [upd,over] at h))
      have h:=(h.blkEq (b:=b) (L':=[.int .u64 (wM u { u.m with sav:=if u.m.win > u.m.sav then u.m.win else u.m.sav,mode:=3 }).m.mss,.ptr (some ⟨nw,0⟩),.int .u64 (wM u { u.m with sav:=if u.m.win > u.m.sav then u.m.win else u.m.sav,mode:=3 }).m.r.n,.int .u64 (wM u { u.m with sav:=if u.m.win > u.m.sav then u.m.win else u.m.sav,mode:=3 }).m.r.nx,.int .u64 (wM u { u.m with sav:=if u.m.win > u.m.sav then u.m.win else u.m.sav,mode:=3 }).m.p.best,.int .i64 (wM u { u.m with sav:=if u.m.win > u.m.sav then u.m.win else u.m.sav,mode:=3 }).m.p.n,.bool (wM u { u.m with sav:=if u.m.win > u.m.sav then u.m.win else u.m.sav,mode:=3 }).m.p.full,.int .i64 (wM u { u.m with sav:=if u.m.win > u.m.sav then u.m.win else u.m.sav,mode:=3 }).m.c.ph,.int .u64 (wM u { u.m with sav:=if u.m.win > u.m.sav then u.m.win else u.m.sav,mode:=3 }).m.c.at',.int .u64 (wM u { u.m with sav:=if u.m.win > u.m.sav then u.m.win else u.m.sav,mode:=3 }).m.b.best,.int .u64 (wM u { u.m with sav:=if u.m.win > u.m.sav then u.m.win else u.m.sav,mode:=3 }).m.b.at',.bool (wM u { u.m with sav:=if u.m.win > u.m.sav then u.m.win else u.m.sav,mode:=3 }).m.b.on,.bool (wM u { u.m with sav:=if u.m.win > u.m.sav then u.m.win else u.m.sav,mode:=3 }).set,.bool (wM u { u.m with sav:=if u.m.win > u.m.sav then u.m.win else u.m.sav,mode:=3 }).m.b.rd,.int .u64 (wM u { u.m with sav:=if u.m.win > u.m.sav then u.m.win else u.m.sav,mode:=3 }).till,.bool (wM u { u.m with sav:=if u.m.win > u.m.sav then u.m.win else u.m.sav,mode:=3 }).m.q.use,.bool (wM u { u.m with sav:=if u.m.win > u.m.sav then u.m.win else u.m.sav,mode:=3 }).m.q.mea,.int .u64 (wM u { u.m with sav:=if u.m.win > u.m.sav then u.m.win else u.m.sav,mode:=3 }).m.q.bw,.int .i64 (wM u { u.m with sav:=if u.m.win > u.m.sav then u.m.win else u.m.sav,mode:=3 }).m.q.n,.int .u64 (wM u { u.m with sav:=if u.m.win > u.m.sav then u.m.win else u.m.sav,mode:=3 }).m.q.lost,.int .u64 (wM u { u.m with sav:=if u.m.win > u.m.sav then u.m.win else u.m.sav,mode:=3 }).m.q.t0,.int .u64 (wM u { u.m with sav:=if u.m.win > u.m.sav then u.m.win else u.m.sav,mode:=3 }).m.q.d0,.int .u64 (wM u { u.m with sav:=if u.m.win > u.m.sav then u.m.win else u.m.sav,mode:=3 }).m.q.l0,.int .i64 (wM u { u.m with sav:=if u.m.win > u.m.sav then u.m.win else u.m.sav,mode:=3 }).m.mode,.int .u64 (wM u { u.m with sav:=if u.m.win > u.m.sav then u.m.win else u.m.sav,mode:=3 }).m.rate,.int .u64 (wM u { u.m with sav:=if u.m.win > u.m.sav then u.m.win else u.m.sav,mode:=3 }).m.win,.int .u64 (wM u { u.m with sav:=if u.m.win > u.m.sav then u.m.win else u.m.sav,mode:=3 }).g,.bool (wM u { u.m with sav:=if u.m.win > u.m.sav then u.m.win else u.m.sav,mode:=3 }).m.rec',.bool (wM u { u.m with sav:=if u.m.win > u.m.sav then u.m.win else u.m.sav,mode:=3 }).m.first,.int .u64 (wM u { u.m with sav:=if u.m.win > u.m.sav then u.m.win else u.m.sav,mode:=3 }).m.til,.int .u64 (wM u { u.m with sav:=if u.m.win > u.m.sav then u.m.win else u.m.sav,mode:=3 }).m.sav]) (by simp))
      exact ⟨trivial,h.fin⟩
     ·have c:r.1=false:=c
      rw [if_neg (by rw [c];simp)]
      exact ⟨trivial,h.fin⟩
   ·refine w_join h (fun _=>blk n1 (Ks.mk K_u8b s)^blk b [.int .u64 (wM v m3).m.mss,.ptr (some ⟨nw,0⟩),.int .u64 (wM v m3).m.r.n,.int .u64 (wM v m3).m.r.nx,.int .u64 (wM v m3).m.p.best,.int .i64 (wM v m3).m.p.n,.bool (wM v m3).m.p.full,.int .i64 (wM v m3).m.c.ph,.int .u64 (wM v m3).m.c.at',.int .u64 (wM v m3).m.b.best,.int .u64 (wM v m3).m.b.at',.bool (wM v m3).m.b.on,.bool (wM v m3).set,.bool (wM v m3).m.b.rd,.int .u64 (wM v m3).till,.bool (wM v m3).m.q.use,.bool (wM v m3).m.q.mea,.int .u64 (wM v m3).m.q.bw,.int .i64 (wM v m3).m.q.n,.int .u64 (wM v m3).m.q.lost,.int .u64 (wM v m3).m.q.t0,.int .u64 (wM v m3).m.q.d0,.int .u64 (wM v m3).m.q.l0,.int .i64 (wM v m3).m.mode,.int .u64 (wM v m3).m.rate,.int .u64 (wM v m3).m.win,.int .u64 (wM v m3).g,.bool (wM v m3).m.rec',.bool (wM v m3).m.first,.int .u64 (wM v m3).m.til,.int .u64 (wM v m3).m.sav]^blk nw [.int .u64 (wM v m3).m.w.w,.int .u64 (wM v m3).m.w.t0,.int .u64 (wM v m3).m.w.t1,.int .u64 (wM v m3).m.w.t2,.int .u64 (wM v m3).m.w.v0,.int .u64 (wM v m3).m.w.v1,.int .u64 (wM v m3).m.w.v2,.int .u64 (wM v m3).m.w.la,.bool false]) (fun y:Bool=>y=decide (m3.mode=1∧m3.b.best > 0∧sFli s≤mBdp m3 256)) (fun (y:Bool) w hy h=>?_) ?_
    ·rw [hy]
     refine w_ite (fun c=>?_) fun c=>?_
     ·have e:mM2 m3 s=mCruise m3 (sNow s):=by unfold mM2;rw [if_pos (of_decide_eq_true c)]
      rw [e]
      exact rcst2 b nw n1 (wM v m3) s h fun w h=>⟨trivial,h.fin⟩
     ·have e:mM2 m3 s=m3:=by unfold mM2;rw [if_neg (of_decide_eq_false c)]
      rw [e]
      exact ⟨trivial,h⟩
    ·refine w_drw h fun w h=>w_deref (w_ld h rfl (w_ite (fun c=>?_) fun c=>?_))
     ·have c1:m3.mode=1:=by simpa using c
      refine w_ite (fun c=>?_) fun c=>?_
      ·have c2:m3.b.best > 0:=of_decide_eq_true c
       repeat' (first
        | (refine w_drw h fun w h=>?_)
        | (refine w_deref ?_)
        | (refine w_ldAll h rfl ?_)
        | (refine w_ld h rfl ?_)
        | (refine w_chkAll h ?_)
        | (refine w_chk h rfl ?_)
        | (refine w_setAll h (by rfl) fun w h=>?_)
        | (refine w_new h fun n w h=>?_)
        | (refine w_leave h fun w h=>?_)
        | (refine w_set h rfl fun w h=>?_;dsimp only [upd,over] at h)
        | (refine w_call (rbw_tri b nw (wM v m3)) h fun r w h=>?_;obtain ⟨hr,h⟩:=h.purP;(try dsimp only at hr h);try rw [hr])
        | (refine w_call (rbdp_tri _ _ _ ok3.bw ok3.b.best (U_lit 256)) h fun r w h=>?_;obtain ⟨hr,h⟩:=h.purP;(try dsimp only at hr h);try rw [hr]))
       exact ⟨by simp [c1,c2,mBdp],h.fin⟩
      ·have c2:¬ m3.b.best > 0:=of_decide_eq_false c
       exact ⟨by simp [c2],h⟩
     ·have c1:¬ m3.mode=1:=by simpa using c
      exact ⟨by simp [c1],h⟩
  ·refine w_join h (fun _=>blk n1 (Ks.mk K_u8b s)^blk b [.int .u64 (wM v m2).m.mss,.ptr (some ⟨nw,0⟩),.int .u64 (wM v m2).m.r.n,.int .u64 (wM v m2).m.r.nx,.int .u64 (wM v m2).m.p.best,.int .i64 (wM v m2).m.p.n,.bool (wM v m2).m.p.full,.int .i64 (wM v m2).m.c.ph,.int .u64 (wM v m2).m.c.at',.int .u64 (wM v m2).m.b.best,.int .u64 (wM v m2).m.b.at',.bool (wM v m2).m.b.on,.bool (wM v m2).set,.bool (wM v m2).m.b.rd,.int .u64 (wM v m2).till,.bool (wM v m2).m.q.use,.bool (wM v m2).m.q.mea,.int .u64 (wM v m2).m.q.bw,.int .i64 (wM v m2).m.q.n,.int .u64 (wM v m2).m.q.lost,.int .u64 (wM v m2).m.q.t0,.int .u64 (wM v m2).m.q.d0,.int .u64 (wM v m2).m.q.l0,.int .i64 (wM v m2).m.mode,.int .u64 (wM v m2).m.rate,.int .u64 (wM v m2).m.win,.int .u64 (wM v m2).g,.bool (wM v m2).m.rec',.bool (wM v m2).m.first,.int .u64 (wM v m2).m.til,.int .u64 (wM v m2).m.sav]^blk nw [.int .u64 (wM v m2).m.w.w,.int .u64 (wM v m2).m.w.t0,.int .u64 (wM v m2).m.w.t1,.int .u64 (wM v m2).m.w.t2,.int .u64 (wM v m2).m.w.v0,.int .u64 (wM v m2).m.w.v1,.int .u64 (wM v m2).m.w.v2,.int .u64 (wM v m2).m.w.la,.bool false]) (fun y:Bool=>y=decide (m2.mode=0∧m2.p.full=true)) (fun (y:Bool) w hy h=>?_) ?_
   ·rw [hy]
    refine w_ite (fun c=>?_) fun c=>?_
    ·have e:mM1 m2={ m2 with mode:=1 }:=by unfold mM1;rw [if_pos (of_decide_eq_true c)]
     rw [e]
     repeat' (first
      | (refine w_drw h fun w h=>?_)
      | (refine w_deref ?_)
      | (refine w_ldAll h rfl ?_)
      | (refine w_ld h rfl ?_)
      | (refine w_chkAll h ?_)
      | (refine w_chk h rfl ?_)
      | (refine w_setAll h (by rfl) fun w h=>?_)
      | (refine w_new h fun n w h=>?_)
      | (refine w_leave h fun w h=>?_)
      | (refine w_set h rfl fun w h=>?_;dsimp only [upd,over] at h))
     have h:=(h.blkEq (b:=b) (L':=[.int .u64 (wM v { m2 with mode:=1 }).m.mss,.ptr (some ⟨nw,0⟩),.int .u64 (wM v { m2 with mode:=1 }).m.r.n,.int .u64 (wM v { m2 with mode:=1 }).m.r.nx,.int .u64 (wM v { m2 with mode:=1 }).m.p.best,.int .i64 (wM v { m2 with mode:=1 }).m.p.n,.bool (wM v { m2 with mode:=1 }).m.p.full,.int .i64 (wM v { m2 with mode:=1 }).m.c.ph,.int .u64 (wM v { m2 with mode:=1 }).m.c.at',.int .u64 (wM v { m2 with mode:=1 }).m.b.best,.int .u64 (wM v { m2 with mode:=1 }).m.b.at',.bool (wM v { m2 with mode:=1 }).m.b.on,.bool (wM v { m2 with mode:=1 }).set,.bool (wM v { m2 with mode:=1 }).m.b.rd,.int .u64 (wM v { m2 with mode:=1 }).till,.bool (wM v { m2 with mode:=1 }).m.q.use,.bool (wM v { m2 with mode:=1 }).m.q.mea,.int .u64 (wM v { m2 with mode:=1 }).m.q.bw,.int .i64 (wM v { m2 with mode:=1 }).m.q.n,.int .u64 (wM v { m2 with mode:=1 }).m.q.lost,.int .u64 (wM v { m2 with mode:=1 }).m.q.t0,.int .u64 (wM v { m2 with mode:=1 }).m.q.d0,.int .u64 (wM v { m2 with mode:=1 }).m.q.l0,.int .i64 (wM v { m2 with mode:=1 }).m.mode,.int .u64 (wM v { m2 with mode:=1 }).m.rate,.int .u64 (wM v { m2 with mode:=1 }).m.win,.int .u64 (wM v { m2 with mode:=1 }).g,.bool (wM v { m2 with mode:=1 }).m.rec',.bool (wM v { m2 with mode:=1 }).m.first,.int .u64 (wM v { m2 with mode:=1 }).m.til,.int .u64 (wM v { m2 with mode:=1 }).m.sav]) (by simp))
     exact ⟨trivial,h.fin⟩
    ·have e:mM1 m2=m2:=by unfold mM1;rw [if_neg (of_decide_eq_false c)]
     rw [e]
     exact ⟨trivial,h⟩
   ·repeat' (first
     | (refine w_drw h fun w h=>?_)
     | (refine w_deref ?_)
     | (refine w_ldAll h rfl ?_)
     | (refine w_ld h rfl ?_)
     | (refine w_chkAll h ?_)
     | (refine w_chk h rfl ?_)
     | (refine w_setAll h (by rfl) fun w h=>?_)
     | (refine w_new h fun n w h=>?_)
     | (refine w_leave h fun w h=>?_)
     | (refine w_set h rfl fun w h=>?_;dsimp only [upd,over] at h)
     | (refine w_ite (fun c=>?_) fun c=>?_))
    ·have c:m2.mode=0:=by simpa using c
     exact ⟨by simp [c],h⟩
    ·have c:¬ m2.mode=0:=by simpa using c
     exact ⟨by simp [c],h⟩
theorem rgains_tri (b nw:Nat) (v:Rm) (hv:OkM v.m):Tri Tryz.prog N_canterref08_Model_gains [.lf (.ptr (some ⟨b,0⟩))] [.lf (.int .u64),.lf (.int .u64)] (blk b [.int .u64 v.m.mss,.ptr (some ⟨nw,0⟩),.int .u64 v.m.r.n,.int .u64 v.m.r.nx,.int .u64 v.m.p.best,.int .i64 v.m.p.n,.bool v.m.p.full,.int .i64 v.m.c.ph,.int .u64 v.m.c.at',.int .u64 v.m.b.best,.int .u64 v.m.b.at',.bool v.m.b.on,.bool v.set,.bool v.m.b.rd,.int .u64 v.till,.bool v.m.q.use,.bool v.m.q.mea,.int .u64 v.m.q.bw,.int .i64 v.m.q.n,.int .u64 v.m.q.lost,.int .u64 v.m.q.t0,.int .u64 v.m.q.d0,.int .u64 v.m.q.l0,.int .i64 v.m.mode,.int .u64 v.m.rate,.int .u64 v.m.win,.int .u64 v.g,.bool v.m.rec',.bool v.m.first,.int .u64 v.m.til,.int .u64 v.m.sav]^blk nw [.int .u64 v.m.w.w,.int .u64 v.m.w.t0,.int .u64 v.m.w.t1,.int .u64 v.m.w.t2,.int .u64 v.m.w.v0,.int .u64 v.m.w.v1,.int .u64 v.m.w.v2,.int .u64 v.m.w.la,.bool false]) (fun r=>pur (r=(mGain v.m,mWide v.m)) (blk b [.int .u64 v.m.mss,.ptr (some ⟨nw,0⟩),.int .u64 v.m.r.n,.int .u64 v.m.r.nx,.int .u64 v.m.p.best,.int .i64 v.m.p.n,.bool v.m.p.full,.int .i64 v.m.c.ph,.int .u64 v.m.c.at',.int .u64 v.m.b.best,.int .u64 v.m.b.at',.bool v.m.b.on,.bool v.set,.bool v.m.b.rd,.int .u64 v.till,.bool v.m.q.use,.bool v.m.q.mea,.int .u64 v.m.q.bw,.int .i64 v.m.q.n,.int .u64 v.m.q.lost,.int .u64 v.m.q.t0,.int .u64 v.m.q.d0,.int .u64 v.m.q.l0,.int .i64 v.m.mode,.int .u64 v.m.rate,.int .u64 v.m.win,.int .u64 v.g,.bool v.m.rec',.bool v.m.first,.int .u64 v.m.til,.int .u64 v.m.sav]^blk nw [.int .u64 v.m.w.w,.int .u64 v.m.w.t0,.int .u64 v.m.w.t1,.int .u64 v.m.w.t2,.int .u64 v.m.w.v0,.int .u64 v.m.w.v1,.int .u64 v.m.w.v2,.int .u64 v.m.w.la,.bool false])) :=
 tri_0 (call_canterref08_Model_gains _) fun w0 S R h=>by
  unfold W_canterref08_Model_gains
  have hm:=hv.mode
  refine w_deref (w_ld h rfl (w_ite (fun c=>?_) fun c=>?_))
  ·have c:v.m.mode=0:=by simpa using c
   exact Own.retP (by simp [mGain,mWide,c]) h
  have c0:¬ v.m.mode=0:=by simpa using c
  refine w_ite (fun c=>?_) fun c=>?_
  ·have c:v.m.mode=1:=by simpa using c
   exact Own.retP (by simp [mGain,mWide,c]) h
  have c1:¬ v.m.mode=1:=by simpa using c
  refine w_ite (fun c=>?_) fun c=>?_
  ·have c:v.m.mode=2:=by simpa using c
   refine w_deref (w_ld h rfl (w_ite (fun c2=>?_) fun c2=>?_))
   ·have c2:v.m.q.use=true:=c2
    exact Own.retP (by simp [mGain,mWide,c,c2]) h
   ·have c2:v.m.q.use=false:=c2
    refine w_deref (w_call (rcg_tri b nw v) h fun r w h=>?_)
    obtain ⟨hr,h⟩:=h.purP
    rw [hr]
    exact Own.retP (by simp [mGain,mWide,c,c2]) h.fin
  ·have c2:¬ v.m.mode=2:=by simpa using c
   have c3:v.m.mode=3:=by omega
   exact Own.retP (by simp [mGain,mWide,c3]) h
def rSt (v:Rm):BbrMm.St:=(v.m.mode,v.m.c.ph,v.m.rate,v.m.win,mBw v.m,v.m.b.best,v.g,v.m.r.n,v.m.p.full,v.m.q.use)
theorem rstate_tri (b nw:Nat) (v:Rm):Tri Tryz.prog N_canterref08_Model_State [.lf (.ptr (some ⟨b,0⟩))] [.agg K_i2u6b2] (blk b [.int .u64 v.m.mss,.ptr (some ⟨nw,0⟩),.int .u64 v.m.r.n,.int .u64 v.m.r.nx,.int .u64 v.m.p.best,.int .i64 v.m.p.n,.bool v.m.p.full,.int .i64 v.m.c.ph,.int .u64 v.m.c.at',.int .u64 v.m.b.best,.int .u64 v.m.b.at',.bool v.m.b.on,.bool v.set,.bool v.m.b.rd,.int .u64 v.till,.bool v.m.q.use,.bool v.m.q.mea,.int .u64 v.m.q.bw,.int .i64 v.m.q.n,.int .u64 v.m.q.lost,.int .u64 v.m.q.t0,.int .u64 v.m.q.d0,.int .u64 v.m.q.l0,.int .i64 v.m.mode,.int .u64 v.m.rate,.int .u64 v.m.win,.int .u64 v.g,.bool v.m.rec',.bool v.m.first,.int .u64 v.m.til,.int .u64 v.m.sav]^blk nw [.int .u64 v.m.w.w,.int .u64 v.m.w.t0,.int .u64 v.m.w.t1,.int .u64 v.m.w.t2,.int .u64 v.m.w.v0,.int .u64 v.m.w.v1,.int .u64 v.m.w.v2,.int .u64 v.m.w.la,.bool false]) (fun r=>pur (r=rSt v) (blk b [.int .u64 v.m.mss,.ptr (some ⟨nw,0⟩),.int .u64 v.m.r.n,.int .u64 v.m.r.nx,.int .u64 v.m.p.best,.int .i64 v.m.p.n,.bool v.m.p.full,.int .i64 v.m.c.ph,.int .u64 v.m.c.at',.int .u64 v.m.b.best,.int .u64 v.m.b.at',.bool v.m.b.on,.bool v.set,.bool v.m.b.rd,.int .u64 v.till,.bool v.m.q.use,.bool v.m.q.mea,.int .u64 v.m.q.bw,.int .i64 v.m.q.n,.int .u64 v.m.q.lost,.int .u64 v.m.q.t0,.int .u64 v.m.q.d0,.int .u64 v.m.q.l0,.int .i64 v.m.mode,.int .u64 v.m.rate,.int .u64 v.m.win,.int .u64 v.g,.bool v.m.rec',.bool v.m.first,.int .u64 v.m.til,.int .u64 v.m.sav]^blk nw [.int .u64 v.m.w.w,.int .u64 v.m.w.t0,.int .u64 v.m.w.t1,.int .u64 v.m.w.t2,.int .u64 v.m.w.v0,.int .u64 v.m.w.v1,.int .u64 v.m.w.v2,.int .u64 v.m.w.la,.bool false])) :=
 tri_0 (call_canterref08_Model_State _) fun w0 S R h=>by
  unfold W_canterref08_Model_State
  refine w_new h fun n1 w h=>?_
  repeat' (first
   | (refine w_drw h fun w h=>?_)
   | (refine w_deref ?_)
   | (refine w_ldAll h rfl ?_)
   | (refine w_ld h rfl ?_)
   | (refine w_chkAll h ?_)
   | (refine w_chk h rfl ?_)
   | (refine w_setAll h (by rfl) fun w h=>?_)
   | (refine w_new h fun n w h=>?_)
   | (refine w_leave h fun w h=>?_)
   | (refine w_set h rfl fun w h=>?_;dsimp only [upd,over] at h)
   | (refine w_call (rbw_tri b nw v) h fun r w h=>?_;obtain ⟨hr,h⟩:=h.purP;(try dsimp only at hr h);try rw [hr]))
  exact Own.retP rfl h.fin
theorem rwin_tri' (b nw:Nat) (v:Rm) (hv:OkM v.m) (s:Sm) (hs:OkS s) (tso:Int) (ht:U tso):Tri Tryz.prog N_canterref08_Model_window [.lf (.ptr (some ⟨b,0⟩)),.agg (Ks.mk K_u8b s),.lf (.int .u64 tso),.lf (.int .u64 (mWide v.m))] [] (blk b [.int .u64 v.m.mss,.ptr (some ⟨nw,0⟩),.int .u64 v.m.r.n,.int .u64 v.m.r.nx,.int .u64 v.m.p.best,.int .i64 v.m.p.n,.bool v.m.p.full,.int .i64 v.m.c.ph,.int .u64 v.m.c.at',.int .u64 v.m.b.best,.int .u64 v.m.b.at',.bool v.m.b.on,.bool v.set,.bool v.m.b.rd,.int .u64 v.till,.bool v.m.q.use,.bool v.m.q.mea,.int .u64 v.m.q.bw,.int .i64 v.m.q.n,.int .u64 v.m.q.lost,.int .u64 v.m.q.t0,.int .u64 v.m.q.d0,.int .u64 v.m.q.l0,.int .i64 v.m.mode,.int .u64 v.m.rate,.int .u64 v.m.win,.int .u64 v.g,.bool v.m.rec',.bool v.m.first,.int .u64 v.m.til,.int .u64 v.m.sav]^blk nw [.int .u64 v.m.w.w,.int .u64 v.m.w.t0,.int .u64 v.m.w.t1,.int .u64 v.m.w.t2,.int .u64 v.m.w.v0,.int .u64 v.m.w.v1,.int .u64 v.m.w.v2,.int .u64 v.m.w.la,.bool false]) (fun _=>blk b [.int .u64 (wM v (mWindow v.m s tso)).m.mss,.ptr (some ⟨nw,0⟩),.int .u64 (wM v (mWindow v.m s tso)).m.r.n,.int .u64 (wM v (mWindow v.m s tso)).m.r.nx,.int .u64 (wM v (mWindow v.m s tso)).m.p.best,.int .i64 (wM v (mWindow v.m s tso)).m.p.n,.bool (wM v (mWindow v.m s tso)).m.p.full,.int .i64 (wM v (mWindow v.m s tso)).m.c.ph,.int .u64 (wM v (mWindow v.m s tso)).m.c.at',.int .u64 (wM v (mWindow v.m s tso)).m.b.best,.int .u64 (wM v (mWindow v.m s tso)).m.b.at',.bool (wM v (mWindow v.m s tso)).m.b.on,.bool (wM v (mWindow v.m s tso)).set,.bool (wM v (mWindow v.m s tso)).m.b.rd,.int .u64 (wM v (mWindow v.m s tso)).till,.bool (wM v (mWindow v.m s tso)).m.q.use,.bool (wM v (mWindow v.m s tso)).m.q.mea,.int .u64 (wM v (mWindow v.m s tso)).m.q.bw,.int .i64 (wM v (mWindow v.m s tso)).m.q.n,.int .u64 (wM v (mWindow v.m s tso)).m.q.lost,.int .u64 (wM v (mWindow v.m s tso)).m.q.t0,.int .u64 (wM v (mWindow v.m s tso)).m.q.d0,.int .u64 (wM v (mWindow v.m s tso)).m.q.l0,.int .i64 (wM v (mWindow v.m s tso)).m.mode,.int .u64 (wM v (mWindow v.m s tso)).m.rate,.int .u64 (wM v (mWindow v.m s tso)).m.win,.int .u64 (wM v (mWindow v.m s tso)).g,.bool (wM v (mWindow v.m s tso)).m.rec',.bool (wM v (mWindow v.m s tso)).m.first,.int .u64 (wM v (mWindow v.m s tso)).m.til,.int .u64 (wM v (mWindow v.m s tso)).m.sav]^blk nw [.int .u64 (wM v (mWindow v.m s tso)).m.w.w,.int .u64 (wM v (mWindow v.m s tso)).m.w.t0,.int .u64 (wM v (mWindow v.m s tso)).m.w.t1,.int .u64 (wM v (mWindow v.m s tso)).m.w.t2,.int .u64 (wM v (mWindow v.m s tso)).m.w.v0,.int .u64 (wM v (mWindow v.m s tso)).m.w.v1,.int .u64 (wM v (mWindow v.m s tso)).m.w.v2,.int .u64 (wM v (mWindow v.m s tso)).m.w.la,.bool false]) :=
 tri_0 (call_canterref08_Model_window _ _ _ _) fun w0 S R h=>by
  unfold W_canterref08_Model_window
  refine w_new h fun n1 w h=>?_
  repeat' (first
   | (refine w_drw h fun w h=>?_)
   | (refine w_deref ?_)
   | (refine w_ldAll h rfl ?_)
   | (refine w_ld h rfl ?_)
   | (refine w_chkAll h ?_)
   | (refine w_chk h rfl ?_)
   | (refine w_setAll h (by rfl) fun w h=>?_)
   | (refine w_new h fun n w h=>?_)
   | (refine w_leave h fun w h=>?_)
   | (refine w_set h rfl fun w h=>?_;dsimp only [upd,over] at h)
   | (refine w_call (rsub_tri _ _ hv.win hs.lost) h fun r w h=>?_;obtain ⟨hr,h⟩:=h.purP;(try dsimp only at hr h);try rw [hr]))
  have h:=(h.blkEq (b:=b) (L':=[.int .u64 (wM v (mW1 v.m s)).m.mss,.ptr (some ⟨nw,0⟩),.int .u64 (wM v (mW1 v.m s)).m.r.n,.int .u64 (wM v (mW1 v.m s)).m.r.nx,.int .u64 (wM v (mW1 v.m s)).m.p.best,.int .i64 (wM v (mW1 v.m s)).m.p.n,.bool (wM v (mW1 v.m s)).m.p.full,.int .i64 (wM v (mW1 v.m s)).m.c.ph,.int .u64 (wM v (mW1 v.m s)).m.c.at',.int .u64 (wM v (mW1 v.m s)).m.b.best,.int .u64 (wM v (mW1 v.m s)).m.b.at',.bool (wM v (mW1 v.m s)).m.b.on,.bool (wM v (mW1 v.m s)).set,.bool (wM v (mW1 v.m s)).m.b.rd,.int .u64 (wM v (mW1 v.m s)).till,.bool (wM v (mW1 v.m s)).m.q.use,.bool (wM v (mW1 v.m s)).m.q.mea,.int .u64 (wM v (mW1 v.m s)).m.q.bw,.int .i64 (wM v (mW1 v.m s)).m.q.n,.int .u64 (wM v (mW1 v.m s)).m.q.lost,.int .u64 (wM v (mW1 v.m s)).m.q.t0,.int .u64 (wM v (mW1 v.m s)).m.q.d0,.int .u64 (wM v (mW1 v.m s)).m.q.l0,.int .i64 (wM v (mW1 v.m s)).m.mode,.int .u64 (wM v (mW1 v.m s)).m.rate,.int .u64 (wM v (mW1 v.m s)).m.win,.int .u64 (wM v (mW1 v.m s)).g,.bool (wM v (mW1 v.m s)).m.rec',.bool (wM v (mW1 v.m s)).m.first,.int .u64 (wM v (mW1 v.m s)).m.til,.int .u64 (wM v (mW1 v.m s)).m.sav]) (by simp))
  have h:Own w0 S R _ (blk n1 (Ks.mk K_u8b s)^blk b [.int .u64 (wM v (mW1 v.m s)).m.mss,.ptr (some ⟨nw,0⟩),.int .u64 (wM v (mW1 v.m s)).m.r.n,.int .u64 (wM v (mW1 v.m s)).m.r.nx,.int .u64 (wM v (mW1 v.m s)).m.p.best,.int .i64 (wM v (mW1 v.m s)).m.p.n,.bool (wM v (mW1 v.m s)).m.p.full,.int .i64 (wM v (mW1 v.m s)).m.c.ph,.int .u64 (wM v (mW1 v.m s)).m.c.at',.int .u64 (wM v (mW1 v.m s)).m.b.best,.int .u64 (wM v (mW1 v.m s)).m.b.at',.bool (wM v (mW1 v.m s)).m.b.on,.bool (wM v (mW1 v.m s)).set,.bool (wM v (mW1 v.m s)).m.b.rd,.int .u64 (wM v (mW1 v.m s)).till,.bool (wM v (mW1 v.m s)).m.q.use,.bool (wM v (mW1 v.m s)).m.q.mea,.int .u64 (wM v (mW1 v.m s)).m.q.bw,.int .i64 (wM v (mW1 v.m s)).m.q.n,.int .u64 (wM v (mW1 v.m s)).m.q.lost,.int .u64 (wM v (mW1 v.m s)).m.q.t0,.int .u64 (wM v (mW1 v.m s)).m.q.d0,.int .u64 (wM v (mW1 v.m s)).m.q.l0,.int .i64 (wM v (mW1 v.m s)).m.mode,.int .u64 (wM v (mW1 v.m s)).m.rate,.int .u64 (wM v (mW1 v.m s)).m.win,.int .u64 (wM v (mW1 v.m s)).g,.bool (wM v (mW1 v.m s)).m.rec',.bool (wM v (mW1 v.m s)).m.first,.int .u64 (wM v (mW1 v.m s)).m.til,.int .u64 (wM v (mW1 v.m s)).m.sav]^blk nw [.int .u64 (wM v (mW1 v.m s)).m.w.w,.int .u64 (wM v (mW1 v.m s)).m.w.t0,.int .u64 (wM v (mW1 v.m s)).m.w.t1,.int .u64 (wM v (mW1 v.m s)).m.w.t2,.int .u64 (wM v (mW1 v.m s)).m.w.v0,.int .u64 (wM v (mW1 v.m s)).m.w.v1,.int .u64 (wM v (mW1 v.m s)).m.w.v2,.int .u64 (wM v (mW1 v.m s)).m.w.la,.bool false]):=h.fin
  have hdef:mWindow v.m s tso=mW4 (mW3 (mW2 (mW1 v.m s) s tso)):=rfl
  rw [hdef]
  have o1:=hv.w1 hs
  have e1:mWide v.m=mWide (mW1 v.m s):=rfl
  rw [e1]
  try dsimp only
  have e3:v.m.b.best=(mW1 v.m s).b.best:=rfl
  have e4:v.m.mss=(mW1 v.m s).mss:=rfl
  rw [e3,e4]
  clear e1 e3 e4
  generalize mW1 v.m s=m1 at *
  repeat' (first
   | (refine w_drw h fun w h=>?_)
   | (refine w_deref ?_)
   | (refine w_ldAll h rfl ?_)
   | (refine w_ld h rfl ?_)
   | (refine w_chkAll h ?_)
   | (refine w_chk h rfl ?_)
   | (refine w_setAll h (by rfl) fun w h=>?_)
   | (refine w_new h fun n w h=>?_)
   | (refine w_leave h fun w h=>?_)
   | (refine w_set h rfl fun w h=>?_;dsimp only [upd,over] at h)
   | (refine w_call (rbw_tri b nw (wM v m1)) h fun r w h=>?_;obtain ⟨hr,h⟩:=h.purP;(try dsimp only at hr h);try rw [hr]))
  refine w_call (rwin_tri _ _ _ _ _ o1.bw o1.b.best (U_wide m1) ht o1.mssU) h fun r w h=>?_
  obtain ⟨hr,h⟩:=h.purP
  rw [hr]
  have h:Own w0 S R _ (blk n1 (Ks.mk K_u8b s)^blk b [.int .u64 (wM v m1).m.mss,.ptr (some ⟨nw,0⟩),.int .u64 (wM v m1).m.r.n,.int .u64 (wM v m1).m.r.nx,.int .u64 (wM v m1).m.p.best,.int .i64 (wM v m1).m.p.n,.bool (wM v m1).m.p.full,.int .i64 (wM v m1).m.c.ph,.int .u64 (wM v m1).m.c.at',.int .u64 (wM v m1).m.b.best,.int .u64 (wM v m1).m.b.at',.bool (wM v m1).m.b.on,.bool (wM v m1).set,.bool (wM v m1).m.b.rd,.int .u64 (wM v m1).till,.bool (wM v m1).m.q.use,.bool (wM v m1).m.q.mea,.int .u64 (wM v m1).m.q.bw,.int .i64 (wM v m1).m.q.n,.int .u64 (wM v m1).m.q.lost,.int .u64 (wM v m1).m.q.t0,.int .u64 (wM v m1).m.q.d0,.int .u64 (wM v m1).m.q.l0,.int .i64 (wM v m1).m.mode,.int .u64 (wM v m1).m.rate,.int .u64 (wM v m1).m.win,.int .u64 (wM v m1).g,.bool (wM v m1).m.rec',.bool (wM v m1).m.first,.int .u64 (wM v m1).m.til,.int .u64 (wM v m1).m.sav]^blk nw [.int .u64 (wM v m1).m.w.w,.int .u64 (wM v m1).m.w.t0,.int .u64 (wM v m1).m.w.t1,.int .u64 (wM v m1).m.w.t2,.int .u64 (wM v m1).m.w.v0,.int .u64 (wM v m1).m.w.v1,.int .u64 (wM v m1).m.w.v2,.int .u64 (wM v m1).m.w.la,.bool false]):=h.fin
  have etar:winI (mBw m1) m1.b.best (mWide m1) tso m1.mss=mTar m1 tso:=rfl
  have o2:=o1.w2 hs ht
  refine w_join h (fun _=>blk n1 (Ks.mk K_u8b s)^blk b [.int .u64 (wM v (mW2 m1 s tso)).m.mss,.ptr (some ⟨nw,0⟩),.int .u64 (wM v (mW2 m1 s tso)).m.r.n,.int .u64 (wM v (mW2 m1 s tso)).m.r.nx,.int .u64 (wM v (mW2 m1 s tso)).m.p.best,.int .i64 (wM v (mW2 m1 s tso)).m.p.n,.bool (wM v (mW2 m1 s tso)).m.p.full,.int .i64 (wM v (mW2 m1 s tso)).m.c.ph,.int .u64 (wM v (mW2 m1 s tso)).m.c.at',.int .u64 (wM v (mW2 m1 s tso)).m.b.best,.int .u64 (wM v (mW2 m1 s tso)).m.b.at',.bool (wM v (mW2 m1 s tso)).m.b.on,.bool (wM v (mW2 m1 s tso)).set,.bool (wM v (mW2 m1 s tso)).m.b.rd,.int .u64 (wM v (mW2 m1 s tso)).till,.bool (wM v (mW2 m1 s tso)).m.q.use,.bool (wM v (mW2 m1 s tso)).m.q.mea,.int .u64 (wM v (mW2 m1 s tso)).m.q.bw,.int .i64 (wM v (mW2 m1 s tso)).m.q.n,.int .u64 (wM v (mW2 m1 s tso)).m.q.lost,.int .u64 (wM v (mW2 m1 s tso)).m.q.t0,.int .u64 (wM v (mW2 m1 s tso)).m.q.d0,.int .u64 (wM v (mW2 m1 s tso)).m.q.l0,.int .i64 (wM v (mW2 m1 s tso)).m.mode,.int .u64 (wM v (mW2 m1 s tso)).m.rate,.int .u64 (wM v (mW2 m1 s tso)).m.win,.int .u64 (wM v (mW2 m1 s tso)).g,.bool (wM v (mW2 m1 s tso)).m.rec',.bool (wM v (mW2 m1 s tso)).m.first,.int .u64 (wM v (mW2 m1 s tso)).m.til,.int .u64 (wM v (mW2 m1 s tso)).m.sav]^blk nw [.int .u64 (wM v (mW2 m1 s tso)).m.w.w,.int .u64 (wM v (mW2 m1 s tso)).m.w.t0,.int .u64 (wM v (mW2 m1 s tso)).m.w.t1,.int .u64 (wM v (mW2 m1 s tso)).m.w.t2,.int .u64 (wM v (mW2 m1 s tso)).m.w.v0,.int .u64 (wM v (mW2 m1 s tso)).m.w.v1,.int .u64 (wM v (mW2 m1 s tso)).m.w.v2,.int .u64 (wM v (mW2 m1 s tso)).m.w.la,.bool false]) (fun _=>True) (fun _ w _ h=>?_) ?_
  ·generalize mW2 m1 s tso=m2 at *
   have ef:IntKind.u64.wrap (4 * m2.mss)=mFloor m2:=floor_w o2.mss
   repeat' (first
    | (refine w_drw h fun w h=>?_)
    | (refine w_deref ?_)
    | (refine w_ldAll h rfl ?_)
    | (refine w_ld h rfl ?_)
    | (refine w_chkAll h ?_)
    | (refine w_chk h rfl ?_)
    | (refine w_setAll h (by rfl) fun w h=>?_)
    | (refine w_new h fun n w h=>?_)
    | (refine w_leave h fun w h=>?_)
    | (refine w_set h rfl fun w h=>?_;dsimp only [upd,over] at h))
   have h:=(h.blkEq (b:=b) (L':=[.int .u64 (wM v (mW3 m2)).m.mss,.ptr (some ⟨nw,0⟩),.int .u64 (wM v (mW3 m2)).m.r.n,.int .u64 (wM v (mW3 m2)).m.r.nx,.int .u64 (wM v (mW3 m2)).m.p.best,.int .i64 (wM v (mW3 m2)).m.p.n,.bool (wM v (mW3 m2)).m.p.full,.int .i64 (wM v (mW3 m2)).m.c.ph,.int .u64 (wM v (mW3 m2)).m.c.at',.int .u64 (wM v (mW3 m2)).m.b.best,.int .u64 (wM v (mW3 m2)).m.b.at',.bool (wM v (mW3 m2)).m.b.on,.bool (wM v (mW3 m2)).set,.bool (wM v (mW3 m2)).m.b.rd,.int .u64 (wM v (mW3 m2)).till,.bool (wM v (mW3 m2)).m.q.use,.bool (wM v (mW3 m2)).m.q.mea,.int .u64 (wM v (mW3 m2)).m.q.bw,.int .i64 (wM v (mW3 m2)).m.q.n,.int .u64 (wM v (mW3 m2)).m.q.lost,.int .u64 (wM v (mW3 m2)).m.q.t0,.int .u64 (wM v (mW3 m2)).m.q.d0,.int .u64 (wM v (mW3 m2)).m.q.l0,.int .i64 (wM v (mW3 m2)).m.mode,.int .u64 (wM v (mW3 m2)).m.rate,.int .u64 (wM v (mW3 m2)).m.win,.int .u64 (wM v (mW3 m2)).g,.bool (wM v (mW3 m2)).m.rec',.bool (wM v (mW3 m2)).m.first,.int .u64 (wM v (mW3 m2)).m.til,.int .u64 (wM v (mW3 m2)).m.sav]) (by simp [ef]))
   have h:Own w0 S R _ (blk n1 (Ks.mk K_u8b s)^blk b [.int .u64 (wM v (mW3 m2)).m.mss,.ptr (some ⟨nw,0⟩),.int .u64 (wM v (mW3 m2)).m.r.n,.int .u64 (wM v (mW3 m2)).m.r.nx,.int .u64 (wM v (mW3 m2)).m.p.best,.int .i64 (wM v (mW3 m2)).m.p.n,.bool (wM v (mW3 m2)).m.p.full,.int .i64 (wM v (mW3 m2)).m.c.ph,.int .u64 (wM v (mW3 m2)).m.c.at',.int .u64 (wM v (mW3 m2)).m.b.best,.int .u64 (wM v (mW3 m2)).m.b.at',.bool (wM v (mW3 m2)).m.b.on,.bool (wM v (mW3 m2)).set,.bool (wM v (mW3 m2)).m.b.rd,.int .u64 (wM v (mW3 m2)).till,.bool (wM v (mW3 m2)).m.q.use,.bool (wM v (mW3 m2)).m.q.mea,.int .u64 (wM v (mW3 m2)).m.q.bw,.int .i64 (wM v (mW3 m2)).m.q.n,.int .u64 (wM v (mW3 m2)).m.q.lost,.int .u64 (wM v (mW3 m2)).m.q.t0,.int .u64 (wM v (mW3 m2)).m.q.d0,.int .u64 (wM v (mW3 m2)).m.q.l0,.int .i64 (wM v (mW3 m2)).m.mode,.int .u64 (wM v (mW3 m2)).m.rate,.int .u64 (wM v (mW3 m2)).m.win,.int .u64 (wM v (mW3 m2)).g,.bool (wM v (mW3 m2)).m.rec',.bool (wM v (mW3 m2)).m.first,.int .u64 (wM v (mW3 m2)).m.til,.int .u64 (wM v (mW3 m2)).m.sav]^blk nw [.int .u64 (wM v (mW3 m2)).m.w.w,.int .u64 (wM v (mW3 m2)).m.w.t0,.int .u64 (wM v (mW3 m2)).m.w.t1,.int .u64 (wM v (mW3 m2)).m.w.t2,.int .u64 (wM v (mW3 m2)).m.w.v0,.int .u64 (wM v (mW3 m2)).m.w.v1,.int .u64 (wM v (mW3 m2)).m.w.v2,.int .u64 (wM v (mW3 m2)).m.w.la,.bool false]):=h.fin
   have o3:=o2.w3
   have em:m2.mode=(mW3 m2).mode:=rfl
   try rw [em]
   clear em
   generalize mW3 m2=m3 at *
   have ef3:IntKind.u64.wrap (4 * m3.mss)=mFloor m3:=floor_w o3.mss
   unfold mW4
   refine w_ite (fun c=>?_) fun c=>?_
   ·have c:m3.mode=3:=by simpa using c
    rw [if_pos c]
    repeat' (first
     | (refine w_drw h fun w h=>?_)
     | (refine w_deref ?_)
     | (refine w_ldAll h rfl ?_)
     | (refine w_ld h rfl ?_)
     | (refine w_chkAll h ?_)
     | (refine w_chk h rfl ?_)
     | (refine w_setAll h (by rfl) fun w h=>?_)
     | (refine w_new h fun n w h=>?_)
     | (refine w_leave h fun w h=>?_)
     | (refine w_set h rfl fun w h=>?_;dsimp only [upd,over] at h))
    have h:=(h.blkEq (b:=b) (L':=[.int .u64 (wM v { m3 with win:=mFloor m3 }).m.mss,.ptr (some ⟨nw,0⟩),.int .u64 (wM v { m3 with win:=mFloor m3 }).m.r.n,.int .u64 (wM v { m3 with win:=mFloor m3 }).m.r.nx,.int .u64 (wM v { m3 with win:=mFloor m3 }).m.p.best,.int .i64 (wM v { m3 with win:=mFloor m3 }).m.p.n,.bool (wM v { m3 with win:=mFloor m3 }).m.p.full,.int .i64 (wM v { m3 with win:=mFloor m3 }).m.c.ph,.int .u64 (wM v { m3 with win:=mFloor m3 }).m.c.at',.int .u64 (wM v { m3 with win:=mFloor m3 }).m.b.best,.int .u64 (wM v { m3 with win:=mFloor m3 }).m.b.at',.bool (wM v { m3 with win:=mFloor m3 }).m.b.on,.bool (wM v { m3 with win:=mFloor m3 }).set,.bool (wM v { m3 with win:=mFloor m3 }).m.b.rd,.int .u64 (wM v { m3 with win:=mFloor m3 }).till,.bool (wM v { m3 with win:=mFloor m3 }).m.q.use,.bool (wM v { m3 with win:=mFloor m3 }).m.q.mea,.int .u64 (wM v { m3 with win:=mFloor m3 }).m.q.bw,.int .i64 (wM v { m3 with win:=mFloor m3 }).m.q.n,.int .u64 (wM v { m3 with win:=mFloor m3 }).m.q.lost,.int .u64 (wM v { m3 with win:=mFloor m3 }).m.q.t0,.int .u64 (wM v { m3 with win:=mFloor m3 }).m.q.d0,.int .u64 (wM v { m3 with win:=mFloor m3 }).m.q.l0,.int .i64 (wM v { m3 with win:=mFloor m3 }).m.mode,.int .u64 (wM v { m3 with win:=mFloor m3 }).m.rate,.int .u64 (wM v { m3 with win:=mFloor m3 }).m.win,.int .u64 (wM v { m3 with win:=mFloor m3 }).g,.bool (wM v { m3 with win:=mFloor m3 }).m.rec',.bool (wM v { m3 with win:=mFloor m3 }).m.first,.int .u64 (wM v { m3 with win:=mFloor m3 }).m.til,.int .u64 (wM v { m3 with win:=mFloor m3 }).m.sav]) (by simp [ef3]))
    exact h.fin
   ·have c:¬ m3.mode=3:=by simpa using c
    rw [if_neg c]
    exact h.fin
  ·unfold mW2
   refine w_deref (w_ld h rfl (w_ite (fun c=>?_) fun c=>?_))
   ·have c:m1.first=true:=c
    rw [if_pos c]
    repeat' (first
     | (refine w_drw h fun w h=>?_)
     | (refine w_deref ?_)
     | (refine w_ldAll h rfl ?_)
     | (refine w_ld h rfl ?_)
     | (refine w_chkAll h ?_)
     | (refine w_chk h rfl ?_)
     | (refine w_setAll h (by rfl) fun w h=>?_)
     | (refine w_new h fun n w h=>?_)
     | (refine w_leave h fun w h=>?_)
     | (refine w_set h rfl fun w h=>?_;dsimp only [upd,over] at h)
     | (refine w_call (radd_tri _ _ hs.fli hs.ack) h fun r w h=>?_;obtain ⟨hr,h⟩:=h.purP;(try dsimp only at hr h);try rw [hr]))
    have h:=(h.blkEq (b:=b) (L':=[.int .u64 (wM v { m1 with win:=if addI (sFli s) (sAck s) > m1.win then addI (sFli s) (sAck s) else m1.win }).m.mss,.ptr (some ⟨nw,0⟩),.int .u64 (wM v { m1 with win:=if addI (sFli s) (sAck s) > m1.win then addI (sFli s) (sAck s) else m1.win }).m.r.n,.int .u64 (wM v { m1 with win:=if addI (sFli s) (sAck s) > m1.win then addI (sFli s) (sAck s) else m1.win }).m.r.nx,.int .u64 (wM v { m1 with win:=if addI (sFli s) (sAck s) > m1.win then addI (sFli s) (sAck s) else m1.win }).m.p.best,.int .i64 (wM v { m1 with win:=if addI (sFli s) (sAck s) > m1.win then addI (sFli s) (sAck s) else m1.win }).m.p.n,.bool (wM v { m1 with win:=if addI (sFli s) (sAck s) > m1.win then addI (sFli s) (sAck s) else m1.win }).m.p.full,.int .i64 (wM v { m1 with win:=if addI (sFli s) (sAck s) > m1.win then addI (sFli s) (sAck s) else m1.win }).m.c.ph,.int .u64 (wM v { m1 with win:=if addI (sFli s) (sAck s) > m1.win then addI (sFli s) (sAck s) else m1.win }).m.c.at',.int .u64 (wM v { m1 with win:=if addI (sFli s) (sAck s) > m1.win then addI (sFli s) (sAck s) else m1.win }).m.b.best,.int .u64 (wM v { m1 with win:=if addI (sFli s) (sAck s) > m1.win then addI (sFli s) (sAck s) else m1.win }).m.b.at',.bool (wM v { m1 with win:=if addI (sFli s) (sAck s) > m1.win then addI (sFli s) (sAck s) else m1.win }).m.b.on,.bool (wM v { m1 with win:=if addI (sFli s) (sAck s) > m1.win then addI (sFli s) (sAck s) else m1.win }).set,.bool (wM v { m1 with win:=if addI (sFli s) (sAck s) > m1.win then addI (sFli s) (sAck s) else m1.win }).m.b.rd,.int .u64 (wM v { m1 with win:=if addI (sFli s) (sAck s) > m1.win then addI (sFli s) (sAck s) else m1.win }).till,.bool (wM v { m1 with win:=if addI (sFli s) (sAck s) > m1.win then addI (sFli s) (sAck s) else m1.win }).m.q.use,.bool (wM v { m1 with win:=if addI (sFli s) (sAck s) > m1.win then addI (sFli s) (sAck s) else m1.win }).m.q.mea,.int .u64 (wM v { m1 with win:=if addI (sFli s) (sAck s) > m1.win then addI (sFli s) (sAck s) else m1.win }).m.q.bw,.int .i64 (wM v { m1 with win:=if addI (sFli s) (sAck s) > m1.win then addI (sFli s) (sAck s) else m1.win }).m.q.n,.int .u64 (wM v { m1 with win:=if addI (sFli s) (sAck s) > m1.win then addI (sFli s) (sAck s) else m1.win }).m.q.lost,.int .u64 (wM v { m1 with win:=if addI (sFli s) (sAck s) > m1.win then addI (sFli s) (sAck s) else m1.win }).m.q.t0,.int .u64 (wM v { m1 with win:=if addI (sFli s) (sAck s) > m1.win then addI (sFli s) (sAck s) else m1.win }).m.q.d0,.int .u64 (wM v { m1 with win:=if addI (sFli s) (sAck s) > m1.win then addI (sFli s) (sAck s) else m1.win }).m.q.l0,.int .i64 (wM v { m1 with win:=if addI (sFli s) (sAck s) > m1.win then addI (sFli s) (sAck s) else m1.win }).m.mode,.int .u64 (wM v { m1 with win:=if addI (sFli s) (sAck s) > m1.win then addI (sFli s) (sAck s) else m1.win }).m.rate,.int .u64 (wM v { m1 with win:=if addI (sFli s) (sAck s) > m1.win then addI (sFli s) (sAck s) else m1.win }).m.win,.int .u64 (wM v { m1 with win:=if addI (sFli s) (sAck s) > m1.win then addI (sFli s) (sAck s) else m1.win }).g,.bool (wM v { m1 with win:=if addI (sFli s) (sAck s) > m1.win then addI (sFli s) (sAck s) else m1.win }).m.rec',.bool (wM v { m1 with win:=if addI (sFli s) (sAck s) > m1.win then addI (sFli s) (sAck s) else m1.win }).m.first,.int .u64 (wM v { m1 with win:=if addI (sFli s) (sAck s) > m1.win then addI (sFli s) (sAck s) else m1.win }).m.til,.int .u64 (wM v { m1 with win:=if addI (sFli s) (sAck s) > m1.win then addI (sFli s) (sAck s) else m1.win }).m.sav]) (by simp))
    exact ⟨trivial,h.fin⟩
   have c:m1.first=false:=c
   rw [if_neg (by rw [c];simp)]
   have ha:=hs.ack.1
   refine w_ld h rfl (w_ite (fun c2=>?_) fun c2=>?_)
   ·have c2:sAck s=0:=by simpa using c2
    rw [if_neg (by omega)]
    exact ⟨trivial,h⟩
   have c2:¬ sAck s=0:=by simpa using c2
   rw [if_pos (by omega)]
   refine w_deref (w_ld h rfl (w_ite (fun c3=>?_) fun c3=>?_))
   ·have c3:m1.p.full=true:=c3
    rw [if_pos c3]
    repeat' (first
     | (refine w_drw h fun w h=>?_)
     | (refine w_deref ?_)
     | (refine w_ldAll h rfl ?_)
     | (refine w_ld h rfl ?_)
     | (refine w_chkAll h ?_)
     | (refine w_chk h rfl ?_)
     | (refine w_setAll h (by rfl) fun w h=>?_)
     | (refine w_new h fun n w h=>?_)
     | (refine w_leave h fun w h=>?_)
     | (refine w_set h rfl fun w h=>?_;dsimp only [upd,over] at h)
     | (refine w_call (radd_tri _ _ o1.win hs.ack) h fun r w h=>?_;obtain ⟨hr,h⟩:=h.purP;(try dsimp only at hr h);try rw [hr]))
    have h:=(h.blkEq (b:=b) (L':=[.int .u64 (wM v { m1 with win:=if mTar m1 tso < addI m1.win (sAck s) then mTar m1 tso else addI m1.win (sAck s) }).m.mss,.ptr (some ⟨nw,0⟩),.int .u64 (wM v { m1 with win:=if mTar m1 tso < addI m1.win (sAck s) then mTar m1 tso else addI m1.win (sAck s) }).m.r.n,.int .u64 (wM v { m1 with win:=if mTar m1 tso < addI m1.win (sAck s) then mTar m1 tso else addI m1.win (sAck s) }).m.r.nx,.int .u64 (wM v { m1 with win:=if mTar m1 tso < addI m1.win (sAck s) then mTar m1 tso else addI m1.win (sAck s) }).m.p.best,.int .i64 (wM v { m1 with win:=if mTar m1 tso < addI m1.win (sAck s) then mTar m1 tso else addI m1.win (sAck s) }).m.p.n,.bool (wM v { m1 with win:=if mTar m1 tso < addI m1.win (sAck s) then mTar m1 tso else addI m1.win (sAck s) }).m.p.full,.int .i64 (wM v { m1 with win:=if mTar m1 tso < addI m1.win (sAck s) then mTar m1 tso else addI m1.win (sAck s) }).m.c.ph,.int .u64 (wM v { m1 with win:=if mTar m1 tso < addI m1.win (sAck s) then mTar m1 tso else addI m1.win (sAck s) }).m.c.at',.int .u64 (wM v { m1 with win:=if mTar m1 tso < addI m1.win (sAck s) then mTar m1 tso else addI m1.win (sAck s) }).m.b.best,.int .u64 (wM v { m1 with win:=if mTar m1 tso < addI m1.win (sAck s) then mTar m1 tso else addI m1.win (sAck s) }).m.b.at',.bool (wM v { m1 with win:=if mTar m1 tso < addI m1.win (sAck s) then mTar m1 tso else addI m1.win (sAck s) }).m.b.on,.bool (wM v { m1 with win:=if mTar m1 tso < addI m1.win (sAck s) then mTar m1 tso else addI m1.win (sAck s) }).set,.bool (wM v { m1 with win:=if mTar m1 tso < addI m1.win (sAck s) then mTar m1 tso else addI m1.win (sAck s) }).m.b.rd,.int .u64 (wM v { m1 with win:=if mTar m1 tso < addI m1.win (sAck s) then mTar m1 tso else addI m1.win (sAck s) }).till,.bool (wM v { m1 with win:=if mTar m1 tso < addI m1.win (sAck s) then mTar m1 tso else addI m1.win (sAck s) }).m.q.use,.bool (wM v { m1 with win:=if mTar m1 tso < addI m1.win (sAck s) then mTar m1 tso else addI m1.win (sAck s) }).m.q.mea,.int .u64 (wM v { m1 with win:=if mTar m1 tso < addI m1.win (sAck s) then mTar m1 tso else addI m1.win (sAck s) }).m.q.bw,.int .i64 (wM v { m1 with win:=if mTar m1 tso < addI m1.win (sAck s) then mTar m1 tso else addI m1.win (sAck s) }).m.q.n,.int .u64 (wM v { m1 with win:=if mTar m1 tso < addI m1.win (sAck s) then mTar m1 tso else addI m1.win (sAck s) }).m.q.lost,.int .u64 (wM v { m1 with win:=if mTar m1 tso < addI m1.win (sAck s) then mTar m1 tso else addI m1.win (sAck s) }).m.q.t0,.int .u64 (wM v { m1 with win:=if mTar m1 tso < addI m1.win (sAck s) then mTar m1 tso else addI m1.win (sAck s) }).m.q.d0,.int .u64 (wM v { m1 with win:=if mTar m1 tso < addI m1.win (sAck s) then mTar m1 tso else addI m1.win (sAck s) }).m.q.l0,.int .i64 (wM v { m1 with win:=if mTar m1 tso < addI m1.win (sAck s) then mTar m1 tso else addI m1.win (sAck s) }).m.mode,.int .u64 (wM v { m1 with win:=if mTar m1 tso < addI m1.win (sAck s) then mTar m1 tso else addI m1.win (sAck s) }).m.rate,.int .u64 (wM v { m1 with win:=if mTar m1 tso < addI m1.win (sAck s) then mTar m1 tso else addI m1.win (sAck s) }).m.win,.int .u64 (wM v { m1 with win:=if mTar m1 tso < addI m1.win (sAck s) then mTar m1 tso else addI m1.win (sAck s) }).g,.bool (wM v { m1 with win:=if mTar m1 tso < addI m1.win (sAck s) then mTar m1 tso else addI m1.win (sAck s) }).m.rec',.bool (wM v { m1 with win:=if mTar m1 tso < addI m1.win (sAck s) then mTar m1 tso else addI m1.win (sAck s) }).m.first,.int .u64 (wM v { m1 with win:=if mTar m1 tso < addI m1.win (sAck s) then mTar m1 tso else addI m1.win (sAck s) }).m.til,.int .u64 (wM v { m1 with win:=if mTar m1 tso < addI m1.win (sAck s) then mTar m1 tso else addI m1.win (sAck s) }).m.sav]) (by simp [mTar];rfl))
    exact ⟨trivial,h.fin⟩
   have c3:m1.p.full=false:=c3
   rw [if_neg (by rw [c3];simp)]
   have e10:IntKind.u64.wrap (10 * m1.mss)=10 * m1.mss:=by have:=o1.mss;exact wu (by omega) (by omega)
   refine w_join h (fun _=>blk n1 (Ks.mk K_u8b s)^blk b [.int .u64 (wM v m1).m.mss,.ptr (some ⟨nw,0⟩),.int .u64 (wM v m1).m.r.n,.int .u64 (wM v m1).m.r.nx,.int .u64 (wM v m1).m.p.best,.int .i64 (wM v m1).m.p.n,.bool (wM v m1).m.p.full,.int .i64 (wM v m1).m.c.ph,.int .u64 (wM v m1).m.c.at',.int .u64 (wM v m1).m.b.best,.int .u64 (wM v m1).m.b.at',.bool (wM v m1).m.b.on,.bool (wM v m1).set,.bool (wM v m1).m.b.rd,.int .u64 (wM v m1).till,.bool (wM v m1).m.q.use,.bool (wM v m1).m.q.mea,.int .u64 (wM v m1).m.q.bw,.int .i64 (wM v m1).m.q.n,.int .u64 (wM v m1).m.q.lost,.int .u64 (wM v m1).m.q.t0,.int .u64 (wM v m1).m.q.d0,.int .u64 (wM v m1).m.q.l0,.int .i64 (wM v m1).m.mode,.int .u64 (wM v m1).m.rate,.int .u64 (wM v m1).m.win,.int .u64 (wM v m1).g,.bool (wM v m1).m.rec',.bool (wM v m1).m.first,.int .u64 (wM v m1).m.til,.int .u64 (wM v m1).m.sav]^blk nw [.int .u64 (wM v m1).m.w.w,.int .u64 (wM v m1).m.w.t0,.int .u64 (wM v m1).m.w.t1,.int .u64 (wM v m1).m.w.t2,.int .u64 (wM v m1).m.w.v0,.int .u64 (wM v m1).m.w.v1,.int .u64 (wM v m1).m.w.v2,.int .u64 (wM v m1).m.w.la,.bool false]) (fun y:Bool=>y=decide (m1.win < mTar m1 tso∨sDel s < 10 * m1.mss)) (fun (y:Bool) w hy h=>?_) ?_
   ·rw [hy]
    refine w_ite (fun c4=>?_) fun c4=>?_
    ·rw [if_pos (of_decide_eq_true c4)]
     repeat' (first
      | (refine w_drw h fun w h=>?_)
      | (refine w_deref ?_)
      | (refine w_ldAll h rfl ?_)
      | (refine w_ld h rfl ?_)
      | (refine w_chkAll h ?_)
      | (refine w_chk h rfl ?_)
      | (refine w_setAll h (by rfl) fun w h=>?_)
      | (refine w_new h fun n w h=>?_)
      | (refine w_leave h fun w h=>?_)
      | (refine w_set h rfl fun w h=>?_;dsimp only [upd,over] at h)
      | (refine w_call (radd_tri _ _ o1.win hs.ack) h fun r w h=>?_;obtain ⟨hr,h⟩:=h.purP;(try dsimp only at hr h);try rw [hr]))
     have h:=(h.blkEq (b:=b) (L':=[.int .u64 (wM v { m1 with win:=addI m1.win (sAck s) }).m.mss,.ptr (some ⟨nw,0⟩),.int .u64 (wM v { m1 with win:=addI m1.win (sAck s) }).m.r.n,.int .u64 (wM v { m1 with win:=addI m1.win (sAck s) }).m.r.nx,.int .u64 (wM v { m1 with win:=addI m1.win (sAck s) }).m.p.best,.int .i64 (wM v { m1 with win:=addI m1.win (sAck s) }).m.p.n,.bool (wM v { m1 with win:=addI m1.win (sAck s) }).m.p.full,.int .i64 (wM v { m1 with win:=addI m1.win (sAck s) }).m.c.ph,.int .u64 (wM v { m1 with win:=addI m1.win (sAck s) }).m.c.at',.int .u64 (wM v { m1 with win:=addI m1.win (sAck s) }).m.b.best,.int .u64 (wM v { m1 with win:=addI m1.win (sAck s) }).m.b.at',.bool (wM v { m1 with win:=addI m1.win (sAck s) }).m.b.on,.bool (wM v { m1 with win:=addI m1.win (sAck s) }).set,.bool (wM v { m1 with win:=addI m1.win (sAck s) }).m.b.rd,.int .u64 (wM v { m1 with win:=addI m1.win (sAck s) }).till,.bool (wM v { m1 with win:=addI m1.win (sAck s) }).m.q.use,.bool (wM v { m1 with win:=addI m1.win (sAck s) }).m.q.mea,.int .u64 (wM v { m1 with win:=addI m1.win (sAck s) }).m.q.bw,.int .i64 (wM v { m1 with win:=addI m1.win (sAck s) }).m.q.n,.int .u64 (wM v { m1 with win:=addI m1.win (sAck s) }).m.q.lost,.int .u64 (wM v { m1 with win:=addI m1.win (sAck s) }).m.q.t0,.int .u64 (wM v { m1 with win:=addI m1.win (sAck s) }).m.q.d0,.int .u64 (wM v { m1 with win:=addI m1.win (sAck s) }).m.q.l0,.int .i64 (wM v { m1 with win:=addI m1.win (sAck s) }).m.mode,.int .u64 (wM v { m1 with win:=addI m1.win (sAck s) }).m.rate,.int .u64 (wM v { m1 with win:=addI m1.win (sAck s) }).m.win,.int .u64 (wM v { m1 with win:=addI m1.win (sAck s) }).g,.bool (wM v { m1 with win:=addI m1.win (sAck s) }).m.rec',.bool (wM v { m1 with win:=addI m1.win (sAck s) }).m.first,.int .u64 (wM v { m1 with win:=addI m1.win (sAck s) }).m.til,.int .u64 (wM v { m1 with win:=addI m1.win (sAck s) }).m.sav]) (by simp))
     exact ⟨trivial,h.fin⟩
    ·rw [if_neg (of_decide_eq_false c4)]
     exact ⟨trivial,h⟩
   ·refine w_drw h fun w h=>w_deref (w_ld h rfl (w_ite (fun c4=>?_) fun c4=>?_))
    ·have c4:m1.win < mTar m1 tso:=of_decide_eq_true c4
     exact ⟨by simp [c4],h⟩
    ·have c4:¬ m1.win < mTar m1 tso:=of_decide_eq_false c4
     refine w_ld h rfl (w_deref (w_ld h rfl ?_))
     dsimp only
     rw [e10]
     exact ⟨by simp [c4],h⟩
theorem win_3 {m:Md} (h:m.mode=3) (s:Sm) (tso:Int):mWindow m s tso={ m with win:=mFloor m }:=by
 have k2:∀ m:Md,∃ x,mW2 m s tso={ m with win:=x }:=fun m=>by
  unfold mW2;(repeat' split)<;>exact ⟨_,rfl⟩
 obtain ⟨x,hx⟩:=k2 (mW1 m s)
 unfold mWindow
 rw [hx]
 unfold mW4
 rw [if_pos (by show m.mode=3;exact h)]
 rfl
theorem rrec_tri (b nw:Nat) (v:Rm) (hv:OkM v.m) (o:Bool) (s:Sm) (hs:OkS s):Tri Tryz.prog N_canterref08_Model_recover [.lf (.ptr (some ⟨b,0⟩)),.agg (Ks.mk K_u8b s),.lf (.bool o)] [] (blk b [.int .u64 v.m.mss,.ptr (some ⟨nw,0⟩),.int .u64 v.m.r.n,.int .u64 v.m.r.nx,.int .u64 v.m.p.best,.int .i64 v.m.p.n,.bool v.m.p.full,.int .i64 v.m.c.ph,.int .u64 v.m.c.at',.int .u64 v.m.b.best,.int .u64 v.m.b.at',.bool v.m.b.on,.bool v.set,.bool v.m.b.rd,.int .u64 v.till,.bool v.m.q.use,.bool v.m.q.mea,.int .u64 v.m.q.bw,.int .i64 v.m.q.n,.int .u64 v.m.q.lost,.int .u64 v.m.q.t0,.int .u64 v.m.q.d0,.int .u64 v.m.q.l0,.int .i64 v.m.mode,.int .u64 v.m.rate,.int .u64 v.m.win,.int .u64 v.g,.bool v.m.rec',.bool v.m.first,.int .u64 v.m.til,.int .u64 v.m.sav]^blk nw [.int .u64 v.m.w.w,.int .u64 v.m.w.t0,.int .u64 v.m.w.t1,.int .u64 v.m.w.t2,.int .u64 v.m.w.v0,.int .u64 v.m.w.v1,.int .u64 v.m.w.v2,.int .u64 v.m.w.la,.bool false])
  (fun _=>exq (fun x:Int=>U x∧(v.m.mode≠3→x=(mRecover v.m s o).win)) (fun x=>blk b [.int .u64 (wM v { mRecover v.m s o with win:=x }).m.mss,.ptr (some ⟨nw,0⟩),.int .u64 (wM v { mRecover v.m s o with win:=x }).m.r.n,.int .u64 (wM v { mRecover v.m s o with win:=x }).m.r.nx,.int .u64 (wM v { mRecover v.m s o with win:=x }).m.p.best,.int .i64 (wM v { mRecover v.m s o with win:=x }).m.p.n,.bool (wM v { mRecover v.m s o with win:=x }).m.p.full,.int .i64 (wM v { mRecover v.m s o with win:=x }).m.c.ph,.int .u64 (wM v { mRecover v.m s o with win:=x }).m.c.at',.int .u64 (wM v { mRecover v.m s o with win:=x }).m.b.best,.int .u64 (wM v { mRecover v.m s o with win:=x }).m.b.at',.bool (wM v { mRecover v.m s o with win:=x }).m.b.on,.bool (wM v { mRecover v.m s o with win:=x }).set,.bool (wM v { mRecover v.m s o with win:=x }).m.b.rd,.int .u64 (wM v { mRecover v.m s o with win:=x }).till,.bool (wM v { mRecover v.m s o with win:=x }).m.q.use,.bool (wM v { mRecover v.m s o with win:=x }).m.q.mea,.int .u64 (wM v { mRecover v.m s o with win:=x }).m.q.bw,.int .i64 (wM v { mRecover v.m s o with win:=x }).m.q.n,.int .u64 (wM v { mRecover v.m s o with win:=x }).m.q.lost,.int .u64 (wM v { mRecover v.m s o with win:=x }).m.q.t0,.int .u64 (wM v { mRecover v.m s o with win:=x }).m.q.d0,.int .u64 (wM v { mRecover v.m s o with win:=x }).m.q.l0,.int .i64 (wM v { mRecover v.m s o with win:=x }).m.mode,.int .u64 (wM v { mRecover v.m s o with win:=x }).m.rate,.int .u64 (wM v { mRecover v.m s o with win:=x }).m.win,.int .u64 (wM v { mRecover v.m s o with win:=x }).g,.bool (wM v { mRecover v.m s o with win:=x }).m.rec',.bool (wM v { mRecover v.m s o with win:=x }).m.first,.int .u64 (wM v { mRecover v.m s o with win:=x }).m.til,.int .u64 (wM v { mRecover v.m s o with win:=x }).m.sav]^blk nw [.int .u64 (wM v { mRecover v.m s o with win:=x }).m.w.w,.int .u64 (wM v { mRecover v.m s o with win:=x }).m.w.t0,.int .u64 (wM v { mRecover v.m s o with win:=x }).m.w.t1,.int .u64 (wM v { mRecover v.m s o with win:=x }).m.w.t2,.int .u64 (wM v { mRecover v.m s o with win:=x }).m.w.v0,.int .u64 (wM v { mRecover v.m s o with win:=x }).m.w.v1,.int .u64 (wM v { mRecover v.m s o with win:=x }).m.w.v2,.int .u64 (wM v { mRecover v.m s o with win:=x }).m.w.la,.bool false])) :=
 tri_0 (call_canterref08_Model_recover _ _ _) fun w0 S R h=>by
  unfold W_canterref08_Model_recover
  refine w_new h fun n1 w h=>?_
  have h:Own w0 S R w (blk n1 (Ks.mk K_u8b s)^blk b [.int .u64 v.m.mss,.ptr (some ⟨nw,0⟩),.int .u64 v.m.r.n,.int .u64 v.m.r.nx,.int .u64 v.m.p.best,.int .i64 v.m.p.n,.bool v.m.p.full,.int .i64 v.m.c.ph,.int .u64 v.m.c.at',.int .u64 v.m.b.best,.int .u64 v.m.b.at',.bool v.m.b.on,.bool v.set,.bool v.m.b.rd,.int .u64 v.till,.bool v.m.q.use,.bool v.m.q.mea,.int .u64 v.m.q.bw,.int .i64 v.m.q.n,.int .u64 v.m.q.lost,.int .u64 v.m.q.t0,.int .u64 v.m.q.d0,.int .u64 v.m.q.l0,.int .i64 v.m.mode,.int .u64 v.m.rate,.int .u64 v.m.win,.int .u64 v.g,.bool v.m.rec',.bool v.m.first,.int .u64 v.m.til,.int .u64 v.m.sav]^blk nw [.int .u64 v.m.w.w,.int .u64 v.m.w.t0,.int .u64 v.m.w.t1,.int .u64 v.m.w.t2,.int .u64 v.m.w.v0,.int .u64 v.m.w.v1,.int .u64 v.m.w.v2,.int .u64 v.m.w.la,.bool false]):=h
  refine w_join h (fun _=>blk n1 (Ks.mk K_u8b s)^blk b [.int .u64 v.m.mss,.ptr (some ⟨nw,0⟩),.int .u64 v.m.r.n,.int .u64 v.m.r.nx,.int .u64 v.m.p.best,.int .i64 v.m.p.n,.bool v.m.p.full,.int .i64 v.m.c.ph,.int .u64 v.m.c.at',.int .u64 v.m.b.best,.int .u64 v.m.b.at',.bool v.m.b.on,.bool v.set,.bool v.m.b.rd,.int .u64 v.till,.bool v.m.q.use,.bool v.m.q.mea,.int .u64 v.m.q.bw,.int .i64 v.m.q.n,.int .u64 v.m.q.lost,.int .u64 v.m.q.t0,.int .u64 v.m.q.d0,.int .u64 v.m.q.l0,.int .i64 v.m.mode,.int .u64 v.m.rate,.int .u64 v.m.win,.int .u64 v.g,.bool v.m.rec',.bool v.m.first,.int .u64 v.m.til,.int .u64 v.m.sav]^blk nw [.int .u64 v.m.w.w,.int .u64 v.m.w.t0,.int .u64 v.m.w.t1,.int .u64 v.m.w.t2,.int .u64 v.m.w.v0,.int .u64 v.m.w.v1,.int .u64 v.m.w.v2,.int .u64 v.m.w.la,.bool false]) (fun y:Bool=>y=decide (sLost s > 0∧v.m.rec'=false)) (fun (y:Bool) w hy h=>?_) ?_
  ·rw [hy]
   unfold mRecover
   refine w_ite (fun c=>?_) fun c=>?_
   ·rw [if_pos (of_decide_eq_true c)]
    repeat' (first
     | (refine w_drw h fun w h=>?_)
     | (refine w_deref ?_)
     | (refine w_ldAll h rfl ?_)
     | (refine w_ld h rfl ?_)
     | (refine w_chkAll h ?_)
     | (refine w_chk h rfl ?_)
     | (refine w_setAll h (by rfl) fun w h=>?_)
     | (refine w_new h fun n w h=>?_)
     | (refine w_leave h fun w h=>?_)
     | (refine w_set h rfl fun w h=>?_;dsimp only [upd,over] at h)
     | (refine w_call (radd_tri _ _ hs.del hs.fli) h fun r w h=>?_;obtain ⟨hr,h⟩:=h.purP;(try dsimp only at hr h);try rw [hr]))
    have h:=(h.blkEq (b:=b) (L':=[.int .u64 (wM v { v.m with rec':=true,first:=true,til:=addI (sDel s) (sFli s),sav:=if v.m.win > v.m.sav then v.m.win else v.m.sav }).m.mss,.ptr (some ⟨nw,0⟩),.int .u64 (wM v { v.m with rec':=true,first:=true,til:=addI (sDel s) (sFli s),sav:=if v.m.win > v.m.sav then v.m.win else v.m.sav }).m.r.n,.int .u64 (wM v { v.m with rec':=true,first:=true,til:=addI (sDel s) (sFli s),sav:=if v.m.win > v.m.sav then v.m.win else v.m.sav }).m.r.nx,.int .u64 (wM v { v.m with rec':=true,first:=true,til:=addI (sDel s) (sFli s),sav:=if v.m.win > v.m.sav then v.m.win else v.m.sav }).m.p.best,.int .i64 (wM v { v.m with rec':=true,first:=true,til:=addI (sDel s) (sFli s),sav:=if v.m.win > v.m.sav then v.m.win else v.m.sav }).m.p.n,.bool (wM v { v.m with rec':=true,first:=true,til:=addI (sDel s) (sFli s),sav:=if v.m.win > v.m.sav then v.m.win else v.m.sav }).m.p.full,.int .i64 (wM v { v.m with rec':=true,first:=true,til:=addI (sDel s) (sFli s),sav:=if v.m.win > v.m.sav then v.m.win else v.m.sav }).m.c.ph,.int .u64 (wM v { v.m with rec':=true,first:=true,til:=addI (sDel s) (sFli s),sav:=if v.m.win > v.m.sav then v.m.win else v.m.sav }).m.c.at',.int .u64 (wM v { v.m with rec':=true,first:=true,til:=addI (sDel s) (sFli s),sav:=if v.m.win > v.m.sav then v.m.win else v.m.sav }).m.b.best,.int .u64 (wM v { v.m with rec':=true,first:=true,til:=addI (sDel s) (sFli s),sav:=if v.m.win > v.m.sav then v.m.win else v.m.sav }).m.b.at',.bool (wM v { v.m with rec':=true,first:=true,til:=addI (sDel s) (sFli s),sav:=if v.m.win > v.m.sav then v.m.win else v.m.sav }).m.b.on,.bool (wM v { v.m with rec':=true,first:=true,til:=addI (sDel s) (sFli s),sav:=if v.m.win > v.m.sav then v.m.win else v.m.sav }).set,.bool (wM v { v.m with rec':=true,first:=true,til:=addI (sDel s) (sFli s),sav:=if v.m.win > v.m.sav then v.m.win else v.m.sav }).m.b.rd,.int .u64 (wM v { v.m with rec':=true,first:=true,til:=addI (sDel s) (sFli s),sav:=if v.m.win > v.m.sav then v.m.win else v.m.sav }).till,.bool (wM v { v.m with rec':=true,first:=true,til:=addI (sDel s) (sFli s),sav:=if v.m.win > v.m.sav then v.m.win else v.m.sav }).m.q.use,.bool (wM v { v.m with rec':=true,first:=true,til:=addI (sDel s) (sFli s),sav:=if v.m.win > v.m.sav then v.m.win else v.m.sav }).m.q.mea,.int .u64 (wM v { v.m with rec':=true,first:=true,til:=addI (sDel s) (sFli s),sav:=if v.m.win > v.m.sav then v.m.win else v.m.sav }).m.q.bw,.int .i64 (wM v { v.m with rec':=true,first:=true,til:=addI (sDel s) (sFli s),sav:=if v.m.win > v.m.sav then v.m.win else v.m.sav }).m.q.n,.int .u64 (wM v { v.m with rec':=true,first:=true,til:=addI (sDel s) (sFli s),sav:=if v.m.win > v.m.sav then v.m.win else v.m.sav }).m.q.lost,.int .u64 (wM v { v.m with rec':=true,first:=true,til:=addI (sDel s) (sFli s),sav:=if v.m.win > v.m.sav then v.m.win else v.m.sav }).m.q.t0,.int .u64 (wM v { v.m with rec':=true,first:=true,til:=addI (sDel s) (sFli s),sav:=if v.m.win > v.m.sav then v.m.win else v.m.sav }).m.q.d0,.int .u64 (wM v { v.m with rec':=true,first:=true,til:=addI (sDel s) (sFli s),sav:=if v.m.win > v.m.sav then v.m.win else v.m.sav }).m.q.l0,.int .i64 (wM v { v.m with rec':=true,first:=true,til:=addI (sDel s) (sFli s),sav:=if v.m.win > v.m.sav then v.m.win else v.m.sav }).m.mode,.int .u64 (wM v { v.m with rec':=true,first:=true,til:=addI (sDel s) (sFli s),sav:=if v.m.win > v.m.sav then v.m.win else v.m.sav }).m.rate,.int .u64 (wM v { v.m with rec':=true,first:=true,til:=addI (sDel s) (sFli s),sav:=if v.m.win > v.m.sav then v.m.win else v.m.sav }).m.win,.int .u64 (wM v { v.m with rec':=true,first:=true,til:=addI (sDel s) (sFli s),sav:=if v.m.win > v.m.sav then v.m.win else v.m.sav }).g,.bool (wM v { v.m with rec':=true,first:=true,til:=addI (sDel s) (sFli s),sav:=if v.m.win > v.m.sav then v.m.win else v.m.sav }).m.rec',.bool (wM v { v.m with rec':=true,first:=true,til:=addI (sDel s) (sFli s),sav:=if v.m.win > v.m.sav then v.m.win else v.m.sav }).m.first,.int .u64 (wM v { v.m with rec':=true,first:=true,til:=addI (sDel s) (sFli s),sav:=if v.m.win > v.m.sav then v.m.win else v.m.sav }).m.til,.int .u64 (wM v { v.m with rec':=true,first:=true,til:=addI (sDel s) (sFli s),sav:=if v.m.win > v.m.sav then v.m.win else v.m.sav }).m.sav]) (by simp))
    exact (h.inq v.m.win ⟨hv.win,fun _=>rfl⟩).keep
   rw [if_neg (of_decide_eq_false c)]
   refine w_deref (w_ld h rfl (w_ite (fun c2=>?_) fun c2=>?_))
   ·have c2:v.m.rec'=false:=by simpa using c2
    rw [if_neg (by rw [c2];simp)]
    exact (h.inq v.m.win ⟨hv.win,fun _=>rfl⟩).keep
   have c2:v.m.rec'=true:=by simpa using c2
   rw [if_pos c2]
   refine w_join h (fun _=>blk n1 (Ks.mk K_u8b s)^blk b [.int .u64 (wM v { v.m with first:=v.m.first && !o }).m.mss,.ptr (some ⟨nw,0⟩),.int .u64 (wM v { v.m with first:=v.m.first && !o }).m.r.n,.int .u64 (wM v { v.m with first:=v.m.first && !o }).m.r.nx,.int .u64 (wM v { v.m with first:=v.m.first && !o }).m.p.best,.int .i64 (wM v { v.m with first:=v.m.first && !o }).m.p.n,.bool (wM v { v.m with first:=v.m.first && !o }).m.p.full,.int .i64 (wM v { v.m with first:=v.m.first && !o }).m.c.ph,.int .u64 (wM v { v.m with first:=v.m.first && !o }).m.c.at',.int .u64 (wM v { v.m with first:=v.m.first && !o }).m.b.best,.int .u64 (wM v { v.m with first:=v.m.first && !o }).m.b.at',.bool (wM v { v.m with first:=v.m.first && !o }).m.b.on,.bool (wM v { v.m with first:=v.m.first && !o }).set,.bool (wM v { v.m with first:=v.m.first && !o }).m.b.rd,.int .u64 (wM v { v.m with first:=v.m.first && !o }).till,.bool (wM v { v.m with first:=v.m.first && !o }).m.q.use,.bool (wM v { v.m with first:=v.m.first && !o }).m.q.mea,.int .u64 (wM v { v.m with first:=v.m.first && !o }).m.q.bw,.int .i64 (wM v { v.m with first:=v.m.first && !o }).m.q.n,.int .u64 (wM v { v.m with first:=v.m.first && !o }).m.q.lost,.int .u64 (wM v { v.m with first:=v.m.first && !o }).m.q.t0,.int .u64 (wM v { v.m with first:=v.m.first && !o }).m.q.d0,.int .u64 (wM v { v.m with first:=v.m.first && !o }).m.q.l0,.int .i64 (wM v { v.m with first:=v.m.first && !o }).m.mode,.int .u64 (wM v { v.m with first:=v.m.first && !o }).m.rate,.int .u64 (wM v { v.m with first:=v.m.first && !o }).m.win,.int .u64 (wM v { v.m with first:=v.m.first && !o }).g,.bool (wM v { v.m with first:=v.m.first && !o }).m.rec',.bool (wM v { v.m with first:=v.m.first && !o }).m.first,.int .u64 (wM v { v.m with first:=v.m.first && !o }).m.til,.int .u64 (wM v { v.m with first:=v.m.first && !o }).m.sav]^blk nw [.int .u64 (wM v { v.m with first:=v.m.first && !o }).m.w.w,.int .u64 (wM v { v.m with first:=v.m.first && !o }).m.w.t0,.int .u64 (wM v { v.m with first:=v.m.first && !o }).m.w.t1,.int .u64 (wM v { v.m with first:=v.m.first && !o }).m.w.t2,.int .u64 (wM v { v.m with first:=v.m.first && !o }).m.w.v0,.int .u64 (wM v { v.m with first:=v.m.first && !o }).m.w.v1,.int .u64 (wM v { v.m with first:=v.m.first && !o }).m.w.v2,.int .u64 (wM v { v.m with first:=v.m.first && !o }).m.w.la,.bool false]) (fun _=>True) (fun _ w _ h=>?_) ?_
   ·repeat' (first
     | (refine w_drw h fun w h=>?_)
     | (refine w_deref ?_)
     | (refine w_ldAll h rfl ?_)
     | (refine w_ld h rfl ?_)
     | (refine w_chkAll h ?_)
     | (refine w_chk h rfl ?_)
     | (refine w_setAll h (by rfl) fun w h=>?_)
     | (refine w_new h fun n w h=>?_)
     | (refine w_leave h fun w h=>?_)
     | (refine w_set h rfl fun w h=>?_;dsimp only [upd,over] at h))
    refine w_ite (fun c3=>?_) fun c3=>?_
    ·have c3:sDel s ≥ v.m.til:=of_decide_eq_true c3
     rw [if_neg (show ¬ sDel s < v.m.til by omega)]
     repeat' (first
      | (refine w_drw h fun w h=>?_)
      | (refine w_deref ?_)
      | (refine w_ldAll h rfl ?_)
      | (refine w_ld h rfl ?_)
      | (refine w_chkAll h ?_)
      | (refine w_chk h rfl ?_)
      | (refine w_setAll h (by rfl) fun w h=>?_)
      | (refine w_new h fun n w h=>?_)
      | (refine w_leave h fun w h=>?_)
      | (refine w_set h rfl fun w h=>?_;dsimp only [upd,over] at h))
     refine w_ite (fun c4=>?_) fun c4=>?_
     ·have c4:v.m.mode≠3:=by simpa using c4
      repeat' (first
       | (refine w_drw h fun w h=>?_)
       | (refine w_deref ?_)
       | (refine w_ldAll h rfl ?_)
       | (refine w_ld h rfl ?_)
       | (refine w_chkAll h ?_)
       | (refine w_chk h rfl ?_)
       | (refine w_setAll h (by rfl) fun w h=>?_)
       | (refine w_new h fun n w h=>?_)
       | (refine w_leave h fun w h=>?_)
       | (refine w_set h rfl fun w h=>?_;dsimp only [upd,over] at h))
      have h:=(h.blkEq (b:=b) (L':=[.int .u64 (wM v (mOver { v.m with first:=v.m.first && !o })).m.mss,.ptr (some ⟨nw,0⟩),.int .u64 (wM v (mOver { v.m with first:=v.m.first && !o })).m.r.n,.int .u64 (wM v (mOver { v.m with first:=v.m.first && !o })).m.r.nx,.int .u64 (wM v (mOver { v.m with first:=v.m.first && !o })).m.p.best,.int .i64 (wM v (mOver { v.m with first:=v.m.first && !o })).m.p.n,.bool (wM v (mOver { v.m with first:=v.m.first && !o })).m.p.full,.int .i64 (wM v (mOver { v.m with first:=v.m.first && !o })).m.c.ph,.int .u64 (wM v (mOver { v.m with first:=v.m.first && !o })).m.c.at',.int .u64 (wM v (mOver { v.m with first:=v.m.first && !o })).m.b.best,.int .u64 (wM v (mOver { v.m with first:=v.m.first && !o })).m.b.at',.bool (wM v (mOver { v.m with first:=v.m.first && !o })).m.b.on,.bool (wM v (mOver { v.m with first:=v.m.first && !o })).set,.bool (wM v (mOver { v.m with first:=v.m.first && !o })).m.b.rd,.int .u64 (wM v (mOver { v.m with first:=v.m.first && !o })).till,.bool (wM v (mOver { v.m with first:=v.m.first && !o })).m.q.use,.bool (wM v (mOver { v.m with first:=v.m.first && !o })).m.q.mea,.int .u64 (wM v (mOver { v.m with first:=v.m.first && !o })).m.q.bw,.int .i64 (wM v (mOver { v.m with first:=v.m.first && !o })).m.q.n,.int .u64 (wM v (mOver { v.m with first:=v.m.first && !o })).m.q.lost,.int .u64 (wM v (mOver { v.m with first:=v.m.first && !o })).m.q.t0,.int .u64 (wM v (mOver { v.m with first:=v.m.first && !o })).m.q.d0,.int .u64 (wM v (mOver { v.m with first:=v.m.first && !o })).m.q.l0,.int .i64 (wM v (mOver { v.m with first:=v.m.first && !o })).m.mode,.int .u64 (wM v (mOver { v.m with first:=v.m.first && !o })).m.rate,.int .u64 (wM v (mOver { v.m with first:=v.m.first && !o })).m.win,.int .u64 (wM v (mOver { v.m with first:=v.m.first && !o })).g,.bool (wM v (mOver { v.m with first:=v.m.first && !o })).m.rec',.bool (wM v (mOver { v.m with first:=v.m.first && !o })).m.first,.int .u64 (wM v (mOver { v.m with first:=v.m.first && !o })).m.til,.int .u64 (wM v (mOver { v.m with first:=v.m.first && !o })).m.sav]) (by simp [mOver,c4]))
      have ew:(mOver { v.m with first:=v.m.first && !o }).w=v.m.w:=by unfold mOver;split<;>rfl
      rw [← ew] at h
      have hU:U (mOver { v.m with first:=v.m.first && !o }).win:=by
       simp only [mOver,if_pos c4]
       exact U_if hv.sav hv.win
      generalize mOver { v.m with first:=v.m.first && !o }=mo at *
      exact (h.inq mo.win ⟨hU,fun _=>rfl⟩).keep
     ·have c4:v.m.mode=3:=by simpa using c4
      have h:=(h.blkEq (b:=b) (L':=[.int .u64 (wM v { mOver { v.m with first:=v.m.first && !o } with win:=if v.m.sav > v.m.win then v.m.sav else v.m.win }).m.mss,.ptr (some ⟨nw,0⟩),.int .u64 (wM v { mOver { v.m with first:=v.m.first && !o } with win:=if v.m.sav > v.m.win then v.m.sav else v.m.win }).m.r.n,.int .u64 (wM v { mOver { v.m with first:=v.m.first && !o } with win:=if v.m.sav > v.m.win then v.m.sav else v.m.win }).m.r.nx,.int .u64 (wM v { mOver { v.m with first:=v.m.first && !o } with win:=if v.m.sav > v.m.win then v.m.sav else v.m.win }).m.p.best,.int .i64 (wM v { mOver { v.m with first:=v.m.first && !o } with win:=if v.m.sav > v.m.win then v.m.sav else v.m.win }).m.p.n,.bool (wM v { mOver { v.m with first:=v.m.first && !o } with win:=if v.m.sav > v.m.win then v.m.sav else v.m.win }).m.p.full,.int .i64 (wM v { mOver { v.m with first:=v.m.first && !o } with win:=if v.m.sav > v.m.win then v.m.sav else v.m.win }).m.c.ph,.int .u64 (wM v { mOver { v.m with first:=v.m.first && !o } with win:=if v.m.sav > v.m.win then v.m.sav else v.m.win }).m.c.at',.int .u64 (wM v { mOver { v.m with first:=v.m.first && !o } with win:=if v.m.sav > v.m.win then v.m.sav else v.m.win }).m.b.best,.int .u64 (wM v { mOver { v.m with first:=v.m.first && !o } with win:=if v.m.sav > v.m.win then v.m.sav else v.m.win }).m.b.at',.bool (wM v { mOver { v.m with first:=v.m.first && !o } with win:=if v.m.sav > v.m.win then v.m.sav else v.m.win }).m.b.on,.bool (wM v { mOver { v.m with first:=v.m.first && !o } with win:=if v.m.sav > v.m.win then v.m.sav else v.m.win }).set,.bool (wM v { mOver { v.m with first:=v.m.first && !o } with win:=if v.m.sav > v.m.win then v.m.sav else v.m.win }).m.b.rd,.int .u64 (wM v { mOver { v.m with first:=v.m.first && !o } with win:=if v.m.sav > v.m.win then v.m.sav else v.m.win }).till,.bool (wM v { mOver { v.m with first:=v.m.first && !o } with win:=if v.m.sav > v.m.win then v.m.sav else v.m.win }).m.q.use,.bool (wM v { mOver { v.m with first:=v.m.first && !o } with win:=if v.m.sav > v.m.win then v.m.sav else v.m.win }).m.q.mea,.int .u64 (wM v { mOver { v.m with first:=v.m.first && !o } with win:=if v.m.sav > v.m.win then v.m.sav else v.m.win }).m.q.bw,.int .i64 (wM v { mOver { v.m with first:=v.m.first && !o } with win:=if v.m.sav > v.m.win then v.m.sav else v.m.win }).m.q.n,.int .u64 (wM v { mOver { v.m with first:=v.m.first && !o } with win:=if v.m.sav > v.m.win then v.m.sav else v.m.win }).m.q.lost,.int .u64 (wM v { mOver { v.m with first:=v.m.first && !o } with win:=if v.m.sav > v.m.win then v.m.sav else v.m.win }).m.q.t0,.int .u64 (wM v { mOver { v.m with first:=v.m.first && !o } with win:=if v.m.sav > v.m.win then v.m.sav else v.m.win }).m.q.d0,.int .u64 (wM v { mOver { v.m with first:=v.m.first && !o } with win:=if v.m.sav > v.m.win then v.m.sav else v.m.win }).m.q.l0,.int .i64 (wM v { mOver { v.m with first:=v.m.first && !o } with win:=if v.m.sav > v.m.win then v.m.sav else v.m.win }).m.mode,.int .u64 (wM v { mOver { v.m with first:=v.m.first && !o } with win:=if v.m.sav > v.m.win then v.m.sav else v.m.win }).m.rate,.int .u64 (wM v { mOver { v.m with first:=v.m.first && !o } with win:=if v.m.sav > v.m.win then v.m.sav else v.m.win }).m.win,.int .u64 (wM v { mOver { v.m with first:=v.m.first && !o } with win:=if v.m.sav > v.m.win then v.m.sav else v.m.win }).g,.bool (wM v { mOver { v.m with first:=v.m.first && !o } with win:=if v.m.sav > v.m.win then v.m.sav else v.m.win }).m.rec',.bool (wM v { mOver { v.m with first:=v.m.first && !o } with win:=if v.m.sav > v.m.win then v.m.sav else v.m.win }).m.first,.int .u64 (wM v { mOver { v.m with first:=v.m.first && !o } with win:=if v.m.sav > v.m.win then v.m.sav else v.m.win }).m.til,.int .u64 (wM v { mOver { v.m with first:=v.m.first && !o } with win:=if v.m.sav > v.m.win then v.m.sav else v.m.win }).m.sav]) (by simp [mOver,c4]))
      have ew:(mOver { v.m with first:=v.m.first && !o }).w=v.m.w:=by unfold mOver;split<;>rfl
      rw [← ew] at h
      generalize mOver { v.m with first:=v.m.first && !o }=mo at *
      exact (h.inq (if v.m.sav > v.m.win then v.m.sav else v.m.win) ⟨U_if hv.sav hv.win,fun hh=>absurd c4 hh⟩).keep
    ·have c3:¬ sDel s ≥ v.m.til:=of_decide_eq_false c3
     rw [if_pos (show sDel s < v.m.til by omega)]
     exact (h.inq v.m.win ⟨hv.win,fun _=>rfl⟩).keep
   ·refine w_ite (fun c3=>?_) fun c3=>?_
    ·repeat' (first
      | (refine w_drw h fun w h=>?_)
      | (refine w_deref ?_)
      | (refine w_ldAll h rfl ?_)
      | (refine w_ld h rfl ?_)
      | (refine w_chkAll h ?_)
      | (refine w_chk h rfl ?_)
      | (refine w_setAll h (by rfl) fun w h=>?_)
      | (refine w_new h fun n w h=>?_)
      | (refine w_leave h fun w h=>?_)
      | (refine w_set h rfl fun w h=>?_;dsimp only [upd,over] at h))
     have h:=(h.blkEq (b:=b) (L':=[.int .u64 (wM v { v.m with first:=v.m.first && !o }).m.mss,.ptr (some ⟨nw,0⟩),.int .u64 (wM v { v.m with first:=v.m.first && !o }).m.r.n,.int .u64 (wM v { v.m with first:=v.m.first && !o }).m.r.nx,.int .u64 (wM v { v.m with first:=v.m.first && !o }).m.p.best,.int .i64 (wM v { v.m with first:=v.m.first && !o }).m.p.n,.bool (wM v { v.m with first:=v.m.first && !o }).m.p.full,.int .i64 (wM v { v.m with first:=v.m.first && !o }).m.c.ph,.int .u64 (wM v { v.m with first:=v.m.first && !o }).m.c.at',.int .u64 (wM v { v.m with first:=v.m.first && !o }).m.b.best,.int .u64 (wM v { v.m with first:=v.m.first && !o }).m.b.at',.bool (wM v { v.m with first:=v.m.first && !o }).m.b.on,.bool (wM v { v.m with first:=v.m.first && !o }).set,.bool (wM v { v.m with first:=v.m.first && !o }).m.b.rd,.int .u64 (wM v { v.m with first:=v.m.first && !o }).till,.bool (wM v { v.m with first:=v.m.first && !o }).m.q.use,.bool (wM v { v.m with first:=v.m.first && !o }).m.q.mea,.int .u64 (wM v { v.m with first:=v.m.first && !o }).m.q.bw,.int .i64 (wM v { v.m with first:=v.m.first && !o }).m.q.n,.int .u64 (wM v { v.m with first:=v.m.first && !o }).m.q.lost,.int .u64 (wM v { v.m with first:=v.m.first && !o }).m.q.t0,.int .u64 (wM v { v.m with first:=v.m.first && !o }).m.q.d0,.int .u64 (wM v { v.m with first:=v.m.first && !o }).m.q.l0,.int .i64 (wM v { v.m with first:=v.m.first && !o }).m.mode,.int .u64 (wM v { v.m with first:=v.m.first && !o }).m.rate,.int .u64 (wM v { v.m with first:=v.m.first && !o }).m.win,.int .u64 (wM v { v.m with first:=v.m.first && !o }).g,.bool (wM v { v.m with first:=v.m.first && !o }).m.rec',.bool (wM v { v.m with first:=v.m.first && !o }).m.first,.int .u64 (wM v { v.m with first:=v.m.first && !o }).m.til,.int .u64 (wM v { v.m with first:=v.m.first && !o }).m.sav]) (by rw [c3];simp))
     exact ⟨trivial,h.fin⟩
    ·have h:=(h.blkEq (b:=b) (L':=[.int .u64 (wM v { v.m with first:=v.m.first && !o }).m.mss,.ptr (some ⟨nw,0⟩),.int .u64 (wM v { v.m with first:=v.m.first && !o }).m.r.n,.int .u64 (wM v { v.m with first:=v.m.first && !o }).m.r.nx,.int .u64 (wM v { v.m with first:=v.m.first && !o }).m.p.best,.int .i64 (wM v { v.m with first:=v.m.first && !o }).m.p.n,.bool (wM v { v.m with first:=v.m.first && !o }).m.p.full,.int .i64 (wM v { v.m with first:=v.m.first && !o }).m.c.ph,.int .u64 (wM v { v.m with first:=v.m.first && !o }).m.c.at',.int .u64 (wM v { v.m with first:=v.m.first && !o }).m.b.best,.int .u64 (wM v { v.m with first:=v.m.first && !o }).m.b.at',.bool (wM v { v.m with first:=v.m.first && !o }).m.b.on,.bool (wM v { v.m with first:=v.m.first && !o }).set,.bool (wM v { v.m with first:=v.m.first && !o }).m.b.rd,.int .u64 (wM v { v.m with first:=v.m.first && !o }).till,.bool (wM v { v.m with first:=v.m.first && !o }).m.q.use,.bool (wM v { v.m with first:=v.m.first && !o }).m.q.mea,.int .u64 (wM v { v.m with first:=v.m.first && !o }).m.q.bw,.int .i64 (wM v { v.m with first:=v.m.first && !o }).m.q.n,.int .u64 (wM v { v.m with first:=v.m.first && !o }).m.q.lost,.int .u64 (wM v { v.m with first:=v.m.first && !o }).m.q.t0,.int .u64 (wM v { v.m with first:=v.m.first && !o }).m.q.d0,.int .u64 (wM v { v.m with first:=v.m.first && !o }).m.q.l0,.int .i64 (wM v { v.m with first:=v.m.first && !o }).m.mode,.int .u64 (wM v { v.m with first:=v.m.first && !o }).m.rate,.int .u64 (wM v { v.m with first:=v.m.first && !o }).m.win,.int .u64 (wM v { v.m with first:=v.m.first && !o }).g,.bool (wM v { v.m with first:=v.m.first && !o }).m.rec',.bool (wM v { v.m with first:=v.m.first && !o }).m.first,.int .u64 (wM v { v.m with first:=v.m.first && !o }).m.til,.int .u64 (wM v { v.m with first:=v.m.first && !o }).m.sav]) (by rw [c3];simp))
     exact ⟨trivial,h.fin⟩
  ·refine w_ld h rfl (w_ite (fun c=>?_) fun c=>?_)
   ·have c:sLost s > 0:=of_decide_eq_true c
    exact w_deref (w_ld h rfl ⟨by simp [c],h⟩)
   ·have c:¬ sLost s > 0:=of_decide_eq_false c
    exact ⟨by simp [c],h⟩
theorem rnew_tri (n:Int):Tri Tryz.prog N_canterref08_NewModel [.lf (.int .u64 n)] [.lf .ptr] emp (fun r=>ex fun p:Nat × Nat=>pur (r=some ⟨p.1,0⟩) (blk p.1 ((fun b nw=>[.int .u64 (Rm.mk (mNew n) false 0 739).m.mss,.ptr (some ⟨nw,0⟩),.int .u64 (Rm.mk (mNew n) false 0 739).m.r.n,.int .u64 (Rm.mk (mNew n) false 0 739).m.r.nx,.int .u64 (Rm.mk (mNew n) false 0 739).m.p.best,.int .i64 (Rm.mk (mNew n) false 0 739).m.p.n,.bool (Rm.mk (mNew n) false 0 739).m.p.full,.int .i64 (Rm.mk (mNew n) false 0 739).m.c.ph,.int .u64 (Rm.mk (mNew n) false 0 739).m.c.at',.int .u64 (Rm.mk (mNew n) false 0 739).m.b.best,.int .u64 (Rm.mk (mNew n) false 0 739).m.b.at',.bool (Rm.mk (mNew n) false 0 739).m.b.on,.bool (Rm.mk (mNew n) false 0 739).set,.bool (Rm.mk (mNew n) false 0 739).m.b.rd,.int .u64 (Rm.mk (mNew n) false 0 739).till,.bool (Rm.mk (mNew n) false 0 739).m.q.use,.bool (Rm.mk (mNew n) false 0 739).m.q.mea,.int .u64 (Rm.mk (mNew n) false 0 739).m.q.bw,.int .i64 (Rm.mk (mNew n) false 0 739).m.q.n,.int .u64 (Rm.mk (mNew n) false 0 739).m.q.lost,.int .u64 (Rm.mk (mNew n) false 0 739).m.q.t0,.int .u64 (Rm.mk (mNew n) false 0 739).m.q.d0,.int .u64 (Rm.mk (mNew n) false 0 739).m.q.l0,.int .i64 (Rm.mk (mNew n) false 0 739).m.mode,.int .u64 (Rm.mk (mNew n) false 0 739).m.rate,.int .u64 (Rm.mk (mNew n) false 0 739).m.win,.int .u64 (Rm.mk (mNew n) false 0 739).g,.bool (Rm.mk (mNew n) false 0 739).m.rec',.bool (Rm.mk (mNew n) false 0 739).m.first,.int .u64 (Rm.mk (mNew n) false 0 739).m.til,.int .u64 (Rm.mk (mNew n) false 0 739).m.sav]) p.1 p.2)^blk p.2 [.int .u64 (mNew n).w.w,.int .u64 (mNew n).w.t0,.int .u64 (mNew n).w.t1,.int .u64 (mNew n).w.t2,.int .u64 (mNew n).w.v0,.int .u64 (mNew n).w.v1,.int .u64 (mNew n).w.v2,.int .u64 (mNew n).w.la,.bool false])) :=
 tri_0 (call_canterref08_NewModel _) fun w0 S R h=>by
  unfold W_canterref08_NewModel
  refine w_call (vnew_tri 10) h fun r w h=>?_
  obtain ⟨nw,h⟩:=h.exP
  obtain ⟨hr,h⟩:=h.purP
  rw [hr]
  have em:(if (if (9000:Int) < n then (9000:Int) else n) > (100:Int) then (if (9000:Int) < n then (9000:Int) else n) else (100:Int))=mMss n:=by
   unfold mMss;(repeat' split)<;>omega
  rw [em]
  have hm:=mss_r n
  have ew:IntKind.u64.wrap ((10:Int) * mMss n)=10 * mMss n:=wu (by omega) (by omega)
  have ew2:IntKind.u64.wrap (10 * mMss n * 1000)=10 * mMss n * 1000:=wu (by omega) (by omega)
  rw [ew]
  refine w_new h fun b w h=>?_
  refine w_deref (w_set h rfl fun w h=>?_)
  dsimp only [upd,over] at h
  refine w_deref (w_ld h rfl ?_)
  dsimp only
  rw [ew2]
  refine w_call (rrate_tri _ _ ⟨by omega,by omega⟩ (U_lit 739)) h fun r w h=>?_
  obtain ⟨hr,h⟩:=h.purP
  rw [hr]
  refine w_deref (w_set h rfl fun w h=>?_)
  dsimp only [upd,over] at h
  have h:=(h.blkEq (b:=b) (L':=[.int .u64 (Rm.mk (mNew n) false 0 739).m.mss,.ptr (some ⟨nw,0⟩),.int .u64 (Rm.mk (mNew n) false 0 739).m.r.n,.int .u64 (Rm.mk (mNew n) false 0 739).m.r.nx,.int .u64 (Rm.mk (mNew n) false 0 739).m.p.best,.int .i64 (Rm.mk (mNew n) false 0 739).m.p.n,.bool (Rm.mk (mNew n) false 0 739).m.p.full,.int .i64 (Rm.mk (mNew n) false 0 739).m.c.ph,.int .u64 (Rm.mk (mNew n) false 0 739).m.c.at',.int .u64 (Rm.mk (mNew n) false 0 739).m.b.best,.int .u64 (Rm.mk (mNew n) false 0 739).m.b.at',.bool (Rm.mk (mNew n) false 0 739).m.b.on,.bool (Rm.mk (mNew n) false 0 739).set,.bool (Rm.mk (mNew n) false 0 739).m.b.rd,.int .u64 (Rm.mk (mNew n) false 0 739).till,.bool (Rm.mk (mNew n) false 0 739).m.q.use,.bool (Rm.mk (mNew n) false 0 739).m.q.mea,.int .u64 (Rm.mk (mNew n) false 0 739).m.q.bw,.int .i64 (Rm.mk (mNew n) false 0 739).m.q.n,.int .u64 (Rm.mk (mNew n) false 0 739).m.q.lost,.int .u64 (Rm.mk (mNew n) false 0 739).m.q.t0,.int .u64 (Rm.mk (mNew n) false 0 739).m.q.d0,.int .u64 (Rm.mk (mNew n) false 0 739).m.q.l0,.int .i64 (Rm.mk (mNew n) false 0 739).m.mode,.int .u64 (Rm.mk (mNew n) false 0 739).m.rate,.int .u64 (Rm.mk (mNew n) false 0 739).m.win,.int .u64 (Rm.mk (mNew n) false 0 739).g,.bool (Rm.mk (mNew n) false 0 739).m.rec',.bool (Rm.mk (mNew n) false 0 739).m.first,.int .u64 (Rm.mk (mNew n) false 0 739).m.til,.int .u64 (Rm.mk (mNew n) false 0 739).m.sav]) (by simp))
  exact Own.retE (b,nw) (Own.retP rfl h.fin)
theorem pace_tri (b nw n1 n2:Nat) (v:Rm) (hv:OkM v.m) (s:Sm) {w0 w:World} {S R:Nat→Prop} {K:WP} (h:Own w0 S R w (blk n1 (Ks.mk K_u8b s)^blk n2 [.int .i64 (0:Int),.int .i64 (0:Int),.int .u64 (0:Int),.int .u64 (0:Int),.int .u64 (0:Int),.int .u64 (0:Int),.int .u64 (0:Int),.int .u64 (0:Int),.bool false,.bool false]^blk b [.int .u64 v.m.mss,.ptr (some ⟨nw,0⟩),.int .u64 v.m.r.n,.int .u64 v.m.r.nx,.int .u64 v.m.p.best,.int .i64 v.m.p.n,.bool v.m.p.full,.int .i64 v.m.c.ph,.int .u64 v.m.c.at',.int .u64 v.m.b.best,.int .u64 v.m.b.at',.bool v.m.b.on,.bool v.set,.bool v.m.b.rd,.int .u64 v.till,.bool v.m.q.use,.bool v.m.q.mea,.int .u64 v.m.q.bw,.int .i64 v.m.q.n,.int .u64 v.m.q.lost,.int .u64 v.m.q.t0,.int .u64 v.m.q.d0,.int .u64 v.m.q.l0,.int .i64 v.m.mode,.int .u64 v.m.rate,.int .u64 v.m.win,.int .u64 v.g,.bool v.m.rec',.bool v.m.first,.int .u64 v.m.til,.int .u64 v.m.sav]^blk nw [.int .u64 v.m.w.w,.int .u64 v.m.w.t0,.int .u64 v.m.w.t1,.int .u64 v.m.w.t2,.int .u64 v.m.w.v0,.int .u64 v.m.w.v1,.int .u64 v.m.w.v2,.int .u64 v.m.w.la,.bool false])) (k:∀ w,Own w0 S R w (blk n1 (Ks.mk K_u8b s)^blk n2 [.int .i64 (0:Int),.int .i64 (0:Int),.int .u64 (0:Int),.int .u64 (0:Int),.int .u64 (0:Int),.int .u64 (0:Int),.int .u64 (0:Int),.int .u64 (0:Int),.bool false,.bool false]^blk b [.int .u64 (wM v (mPace v.m)).m.mss,.ptr (some ⟨nw,0⟩),.int .u64 (wM v (mPace v.m)).m.r.n,.int .u64 (wM v (mPace v.m)).m.r.nx,.int .u64 (wM v (mPace v.m)).m.p.best,.int .i64 (wM v (mPace v.m)).m.p.n,.bool (wM v (mPace v.m)).m.p.full,.int .i64 (wM v (mPace v.m)).m.c.ph,.int .u64 (wM v (mPace v.m)).m.c.at',.int .u64 (wM v (mPace v.m)).m.b.best,.int .u64 (wM v (mPace v.m)).m.b.at',.bool (wM v (mPace v.m)).m.b.on,.bool (wM v (mPace v.m)).set,.bool (wM v (mPace v.m)).m.b.rd,.int .u64 (wM v (mPace v.m)).till,.bool (wM v (mPace v.m)).m.q.use,.bool (wM v (mPace v.m)).m.q.mea,.int .u64 (wM v (mPace v.m)).m.q.bw,.int .i64 (wM v (mPace v.m)).m.q.n,.int .u64 (wM v (mPace v.m)).m.q.lost,.int .u64 (wM v (mPace v.m)).m.q.t0,.int .u64 (wM v (mPace v.m)).m.q.d0,.int .u64 (wM v (mPace v.m)).m.q.l0,.int .i64 (wM v (mPace v.m)).m.mode,.int .u64 (wM v (mPace v.m)).m.rate,.int .u64 (wM v (mPace v.m)).m.win,.int .u64 (wM v (mPace v.m)).g,.bool (wM v (mPace v.m)).m.rec',.bool (wM v (mPace v.m)).m.first,.int .u64 (wM v (mPace v.m)).m.til,.int .u64 (wM v (mPace v.m)).m.sav]^blk nw [.int .u64 (wM v (mPace v.m)).m.w.w,.int .u64 (wM v (mPace v.m)).m.w.t0,.int .u64 (wM v (mPace v.m)).m.w.t1,.int .u64 (wM v (mPace v.m)).m.w.t2,.int .u64 (wM v (mPace v.m)).m.w.v0,.int .u64 (wM v (mPace v.m)).m.w.v1,.int .u64 (wM v (mPace v.m)).m.w.v2,.int .u64 (wM v (mPace v.m)).m.w.la,.bool false])→K w) :
  join [] (fun J36 =>
 call Tryz.prog N_canterref08_Model_bw [.lf (.ptr (some ⟨b,0⟩))] [.lf (.int .u64)] fun (r38:Int) =>
 ite' (decide (r38 > (0:Int))) (
 call Tryz.prog N_canterref08_Model_bw [.lf (.ptr (some ⟨b,0⟩))] [.lf (.int .u64)] fun (r39:Int) =>
 call Tryz.prog N_canterref01_Rate [.lf (.int .u64 r39),.lf (.int .u64 (mGain v.m))] [.lf (.int .u64)] fun (r40:Int) =>
 join [.bool] (fun J41 =>
 deref (some ⟨b,0⟩) fun q43 =>
 ld [.bool] ⟨q43.b,q43.o+6⟩ fun (x44:Bool) =>
 ite' x44 (
 J41 true) <|
 deref (some ⟨b,0⟩) fun q45 =>
 ld [.int .u64] ⟨q45.b,q45.o+24⟩ fun (x46:Int) =>
 J41 (decide ((if r40 > (1:Int) then r40 else (1:Int)) > x46))) fun (y42:Bool) =>
 ite' y42 (
 deref (some ⟨b,0⟩) fun q47 =>
 st ⟨q47.b,q47.o+24⟩ [.int .u64 (if r40 > (1:Int) then r40 else (1:Int))] <|
 J36 ()) <|
 J36 ()) <|
 J36 ()) (fun _=>K) w:=by
 refine w_join h (fun _=>blk n1 (Ks.mk K_u8b s)^blk n2 [.int .i64 (0:Int),.int .i64 (0:Int),.int .u64 (0:Int),.int .u64 (0:Int),.int .u64 (0:Int),.int .u64 (0:Int),.int .u64 (0:Int),.int .u64 (0:Int),.bool false,.bool false]^blk b [.int .u64 (wM v (mPace v.m)).m.mss,.ptr (some ⟨nw,0⟩),.int .u64 (wM v (mPace v.m)).m.r.n,.int .u64 (wM v (mPace v.m)).m.r.nx,.int .u64 (wM v (mPace v.m)).m.p.best,.int .i64 (wM v (mPace v.m)).m.p.n,.bool (wM v (mPace v.m)).m.p.full,.int .i64 (wM v (mPace v.m)).m.c.ph,.int .u64 (wM v (mPace v.m)).m.c.at',.int .u64 (wM v (mPace v.m)).m.b.best,.int .u64 (wM v (mPace v.m)).m.b.at',.bool (wM v (mPace v.m)).m.b.on,.bool (wM v (mPace v.m)).set,.bool (wM v (mPace v.m)).m.b.rd,.int .u64 (wM v (mPace v.m)).till,.bool (wM v (mPace v.m)).m.q.use,.bool (wM v (mPace v.m)).m.q.mea,.int .u64 (wM v (mPace v.m)).m.q.bw,.int .i64 (wM v (mPace v.m)).m.q.n,.int .u64 (wM v (mPace v.m)).m.q.lost,.int .u64 (wM v (mPace v.m)).m.q.t0,.int .u64 (wM v (mPace v.m)).m.q.d0,.int .u64 (wM v (mPace v.m)).m.q.l0,.int .i64 (wM v (mPace v.m)).m.mode,.int .u64 (wM v (mPace v.m)).m.rate,.int .u64 (wM v (mPace v.m)).m.win,.int .u64 (wM v (mPace v.m)).g,.bool (wM v (mPace v.m)).m.rec',.bool (wM v (mPace v.m)).m.first,.int .u64 (wM v (mPace v.m)).m.til,.int .u64 (wM v (mPace v.m)).m.sav]^blk nw [.int .u64 (wM v (mPace v.m)).m.w.w,.int .u64 (wM v (mPace v.m)).m.w.t0,.int .u64 (wM v (mPace v.m)).m.w.t1,.int .u64 (wM v (mPace v.m)).m.w.t2,.int .u64 (wM v (mPace v.m)).m.w.v0,.int .u64 (wM v (mPace v.m)).m.w.v1,.int .u64 (wM v (mPace v.m)).m.w.v2,.int .u64 (wM v (mPace v.m)).m.w.la,.bool false]) (fun _=>True) (fun _ w _ h=>k w h) ?_
 unfold mPace
 have hb:=hv.bw
 refine w_call (rbw_tri b nw v) h fun r w h=>?_
 obtain ⟨hr,h⟩:=h.purP
 rw [hr]
 refine w_ite (fun c=>?_) fun c=>?_
 ·have c:mBw v.m > 0:=of_decide_eq_true c
  rw [if_neg (by omega)]
  refine w_call (rbw_tri b nw v) h fun r w h=>?_
  obtain ⟨hr,h⟩:=h.purP
  rw [hr]
  refine w_call (rrate_tri _ _ hb (U_gain v.m)) h fun r w h=>?_
  obtain ⟨hr,h⟩:=h.purP
  have e:(if r > (1:Int) then r else (1:Int))=mRt v.m:=by
   have e:∀ x:Int,(if x > 1 then x else 1)=if 1 > x then 1 else x:=fun x=>by (repeat' split)<;>omega
   rw [hr];exact e _
  rw [e]
  have h:Own _ _ _ _ (blk n1 (Ks.mk K_u8b s)^blk n2 [.int .i64 (0:Int),.int .i64 (0:Int),.int .u64 (0:Int),.int .u64 (0:Int),.int .u64 (0:Int),.int .u64 (0:Int),.int .u64 (0:Int),.int .u64 (0:Int),.bool false,.bool false]^blk b [.int .u64 v.m.mss,.ptr (some ⟨nw,0⟩),.int .u64 v.m.r.n,.int .u64 v.m.r.nx,.int .u64 v.m.p.best,.int .i64 v.m.p.n,.bool v.m.p.full,.int .i64 v.m.c.ph,.int .u64 v.m.c.at',.int .u64 v.m.b.best,.int .u64 v.m.b.at',.bool v.m.b.on,.bool v.set,.bool v.m.b.rd,.int .u64 v.till,.bool v.m.q.use,.bool v.m.q.mea,.int .u64 v.m.q.bw,.int .i64 v.m.q.n,.int .u64 v.m.q.lost,.int .u64 v.m.q.t0,.int .u64 v.m.q.d0,.int .u64 v.m.q.l0,.int .i64 v.m.mode,.int .u64 v.m.rate,.int .u64 v.m.win,.int .u64 v.g,.bool v.m.rec',.bool v.m.first,.int .u64 v.m.til,.int .u64 v.m.sav]^blk nw [.int .u64 v.m.w.w,.int .u64 v.m.w.t0,.int .u64 v.m.w.t1,.int .u64 v.m.w.t2,.int .u64 v.m.w.v0,.int .u64 v.m.w.v1,.int .u64 v.m.w.v2,.int .u64 v.m.w.la,.bool false]):=h.fin
  refine w_join h (fun _=>blk n1 (Ks.mk K_u8b s)^blk n2 [.int .i64 (0:Int),.int .i64 (0:Int),.int .u64 (0:Int),.int .u64 (0:Int),.int .u64 (0:Int),.int .u64 (0:Int),.int .u64 (0:Int),.int .u64 (0:Int),.bool false,.bool false]^blk b [.int .u64 v.m.mss,.ptr (some ⟨nw,0⟩),.int .u64 v.m.r.n,.int .u64 v.m.r.nx,.int .u64 v.m.p.best,.int .i64 v.m.p.n,.bool v.m.p.full,.int .i64 v.m.c.ph,.int .u64 v.m.c.at',.int .u64 v.m.b.best,.int .u64 v.m.b.at',.bool v.m.b.on,.bool v.set,.bool v.m.b.rd,.int .u64 v.till,.bool v.m.q.use,.bool v.m.q.mea,.int .u64 v.m.q.bw,.int .i64 v.m.q.n,.int .u64 v.m.q.lost,.int .u64 v.m.q.t0,.int .u64 v.m.q.d0,.int .u64 v.m.q.l0,.int .i64 v.m.mode,.int .u64 v.m.rate,.int .u64 v.m.win,.int .u64 v.g,.bool v.m.rec',.bool v.m.first,.int .u64 v.m.til,.int .u64 v.m.sav]^blk nw [.int .u64 v.m.w.w,.int .u64 v.m.w.t0,.int .u64 v.m.w.t1,.int .u64 v.m.w.t2,.int .u64 v.m.w.v0,.int .u64 v.m.w.v1,.int .u64 v.m.w.v2,.int .u64 v.m.w.la,.bool false]) (fun y:Bool=>y=decide (v.m.p.full=true∨mRt v.m > v.m.rate)) (fun (y:Bool) w hy h=>?_) ?_
  ·rw [hy]
   refine w_ite (fun c2=>?_) fun c2=>?_
   ·rw [if_pos (of_decide_eq_true c2)]
    repeat' (first
     | (refine w_drw h fun w h=>?_)
     | (refine w_deref ?_)
     | (refine w_ldAll h rfl ?_)
     | (refine w_ld h rfl ?_)
     | (refine w_chkAll h ?_)
     | (refine w_chk h rfl ?_)
     | (refine w_setAll h (by rfl) fun w h=>?_)
     | (refine w_new h fun n w h=>?_)
     | (refine w_leave h fun w h=>?_)
     | (refine w_set h rfl fun w h=>?_;dsimp only [upd,over] at h))
    have h:=(h.blkEq (b:=b) (L':=[.int .u64 (wM v { v.m with rate:=mRt v.m }).m.mss,.ptr (some ⟨nw,0⟩),.int .u64 (wM v { v.m with rate:=mRt v.m }).m.r.n,.int .u64 (wM v { v.m with rate:=mRt v.m }).m.r.nx,.int .u64 (wM v { v.m with rate:=mRt v.m }).m.p.best,.int .i64 (wM v { v.m with rate:=mRt v.m }).m.p.n,.bool (wM v { v.m with rate:=mRt v.m }).m.p.full,.int .i64 (wM v { v.m with rate:=mRt v.m }).m.c.ph,.int .u64 (wM v { v.m with rate:=mRt v.m }).m.c.at',.int .u64 (wM v { v.m with rate:=mRt v.m }).m.b.best,.int .u64 (wM v { v.m with rate:=mRt v.m }).m.b.at',.bool (wM v { v.m with rate:=mRt v.m }).m.b.on,.bool (wM v { v.m with rate:=mRt v.m }).set,.bool (wM v { v.m with rate:=mRt v.m }).m.b.rd,.int .u64 (wM v { v.m with rate:=mRt v.m }).till,.bool (wM v { v.m with rate:=mRt v.m }).m.q.use,.bool (wM v { v.m with rate:=mRt v.m }).m.q.mea,.int .u64 (wM v { v.m with rate:=mRt v.m }).m.q.bw,.int .i64 (wM v { v.m with rate:=mRt v.m }).m.q.n,.int .u64 (wM v { v.m with rate:=mRt v.m }).m.q.lost,.int .u64 (wM v { v.m with rate:=mRt v.m }).m.q.t0,.int .u64 (wM v { v.m with rate:=mRt v.m }).m.q.d0,.int .u64 (wM v { v.m with rate:=mRt v.m }).m.q.l0,.int .i64 (wM v { v.m with rate:=mRt v.m }).m.mode,.int .u64 (wM v { v.m with rate:=mRt v.m }).m.rate,.int .u64 (wM v { v.m with rate:=mRt v.m }).m.win,.int .u64 (wM v { v.m with rate:=mRt v.m }).g,.bool (wM v { v.m with rate:=mRt v.m }).m.rec',.bool (wM v { v.m with rate:=mRt v.m }).m.first,.int .u64 (wM v { v.m with rate:=mRt v.m }).m.til,.int .u64 (wM v { v.m with rate:=mRt v.m }).m.sav]) (by simp))
    exact ⟨trivial,h.fin⟩
   ·rw [if_neg (of_decide_eq_false c2)]
    exact ⟨trivial,h⟩
  ·refine w_deref (w_ld h rfl (w_ite (fun c2=>?_) fun c2=>?_))
   ·have c2:v.m.p.full=true:=c2
    exact ⟨by simp [c2],h⟩
   ·have c2:v.m.p.full=false:=c2
    exact w_deref (w_ld h rfl ⟨by simp [c2],h⟩)
 ·have c:¬ mBw v.m > 0:=of_decide_eq_false c
  have:=hb.1
  rw [if_pos (by omega)]
  exact ⟨trivial,h.fin⟩
theorem rmeas_tri (b nw n1 n2:Nat) (v:Rm) (hv:OkM v.m) (s:Sm) (hs:OkS s) {w0 w:World} {S R:Nat→Prop} {K:WP} (h:Own w0 S R w (blk n1 (Ks.mk K_u8b s)^blk n2 [.int .i64 (0:Int),.int .i64 (0:Int),.int .u64 (0:Int),.int .u64 (0:Int),.int .u64 (0:Int),.int .u64 (0:Int),.int .u64 (0:Int),.int .u64 (0:Int),.bool false,.bool false]^blk b [.int .u64 v.m.mss,.ptr (some ⟨nw,0⟩),.int .u64 v.m.r.n,.int .u64 v.m.r.nx,.int .u64 v.m.p.best,.int .i64 v.m.p.n,.bool v.m.p.full,.int .i64 v.m.c.ph,.int .u64 v.m.c.at',.int .u64 v.m.b.best,.int .u64 v.m.b.at',.bool v.m.b.on,.bool v.set,.bool v.m.b.rd,.int .u64 v.till,.bool v.m.q.use,.bool v.m.q.mea,.int .u64 v.m.q.bw,.int .i64 v.m.q.n,.int .u64 v.m.q.lost,.int .u64 v.m.q.t0,.int .u64 v.m.q.d0,.int .u64 v.m.q.l0,.int .i64 v.m.mode,.int .u64 v.m.rate,.int .u64 v.m.win,.int .u64 v.g,.bool v.m.rec',.bool v.m.first,.int .u64 v.m.til,.int .u64 v.m.sav]^blk nw [.int .u64 v.m.w.w,.int .u64 v.m.w.t0,.int .u64 v.m.w.t1,.int .u64 v.m.w.t2,.int .u64 v.m.w.v0,.int .u64 v.m.w.v1,.int .u64 v.m.w.v2,.int .u64 v.m.w.la,.bool false])) (k:∀ w,Own w0 S R w (blk n1 (Ks.mk K_u8b s)^blk n2 [.int .i64 (0:Int),.int .i64 (0:Int),.int .u64 (0:Int),.int .u64 (0:Int),.int .u64 (0:Int),.int .u64 (0:Int),.int .u64 (0:Int),.int .u64 (0:Int),.bool false,.bool false]^blk b [.int .u64 (wM v (mMeas v.m s)).m.mss,.ptr (some ⟨nw,0⟩),.int .u64 (wM v (mMeas v.m s)).m.r.n,.int .u64 (wM v (mMeas v.m s)).m.r.nx,.int .u64 (wM v (mMeas v.m s)).m.p.best,.int .i64 (wM v (mMeas v.m s)).m.p.n,.bool (wM v (mMeas v.m s)).m.p.full,.int .i64 (wM v (mMeas v.m s)).m.c.ph,.int .u64 (wM v (mMeas v.m s)).m.c.at',.int .u64 (wM v (mMeas v.m s)).m.b.best,.int .u64 (wM v (mMeas v.m s)).m.b.at',.bool (wM v (mMeas v.m s)).m.b.on,.bool (wM v (mMeas v.m s)).set,.bool (wM v (mMeas v.m s)).m.b.rd,.int .u64 (wM v (mMeas v.m s)).till,.bool (wM v (mMeas v.m s)).m.q.use,.bool (wM v (mMeas v.m s)).m.q.mea,.int .u64 (wM v (mMeas v.m s)).m.q.bw,.int .i64 (wM v (mMeas v.m s)).m.q.n,.int .u64 (wM v (mMeas v.m s)).m.q.lost,.int .u64 (wM v (mMeas v.m s)).m.q.t0,.int .u64 (wM v (mMeas v.m s)).m.q.d0,.int .u64 (wM v (mMeas v.m s)).m.q.l0,.int .i64 (wM v (mMeas v.m s)).m.mode,.int .u64 (wM v (mMeas v.m s)).m.rate,.int .u64 (wM v (mMeas v.m s)).m.win,.int .u64 (wM v (mMeas v.m s)).g,.bool (wM v (mMeas v.m s)).m.rec',.bool (wM v (mMeas v.m s)).m.first,.int .u64 (wM v (mMeas v.m s)).m.til,.int .u64 (wM v (mMeas v.m s)).m.sav]^blk nw [.int .u64 (wM v (mMeas v.m s)).m.w.w,.int .u64 (wM v (mMeas v.m s)).m.w.t0,.int .u64 (wM v (mMeas v.m s)).m.w.t1,.int .u64 (wM v (mMeas v.m s)).m.w.t2,.int .u64 (wM v (mMeas v.m s)).m.w.v0,.int .u64 (wM v (mMeas v.m s)).m.w.v1,.int .u64 (wM v (mMeas v.m s)).m.w.v2,.int .u64 (wM v (mMeas v.m s)).m.w.la,.bool false])→K w) :
  join [] (fun J9 =>
 join [.bool] (fun J11 =>
 ld [.int .u64] ⟨n1,5⟩ fun (x13:Int) =>
 ite' (decide (x13 > (0:Int))) (
 ld [.int .u64] ⟨n1,3⟩ fun (x14:Int) =>
 J11 (decide (x14 > (0:Int)))) <|
 J11 false) fun (y12:Bool) =>
 ite' y12 (
 drw <|
 ld [.int .u64] ⟨n1,1⟩ fun (x15:Int) =>
 ld [.int .u64] ⟨n1,2⟩ fun (x16:Int) =>
 ld [.int .u64] ⟨n1,3⟩ fun (x17:Int) =>
 call Tryz.prog N_canterref01_Sub [.lf (.int .u64 x15),.lf (.int .u64 x16)] [.lf (.int .u64)] fun (r18:Int) =>
 chk ⟨n1,3⟩ (Ks.mk [.int .u64] x17) <|
 call Tryz.prog N_canterref01_MulDiv [.lf (.int .u64 r18),.lf (.int .u64 (1000000000:Int)),.lf (.int .u64 x17)] [.lf (.int .u64)] fun (r19:Int) =>
 join [.bool] (fun J20 =>
 ld [.bool] ⟨n1,8⟩ fun (x22:Bool) =>
 ite' (!x22) (
 J20 true) <|
 deref (some ⟨b,0⟩) fun q23 =>
 ld [.ptr] ⟨q23.b,q23.o+1⟩ fun (x24:Option Pt) =>
 deref x24 fun q25 =>
 req (0≤(0:Int)∧(0:Int) < 3) <|
 ld [.int .u64] ⟨q25.b,q25.o+4+(0:Int).toNat * 1⟩ fun (x26:Int) =>
 J20 (decide (r19 ≥ x26))) fun (y21:Bool) =>
 ite' y21 (
 drw <|
 deref (some ⟨b,0⟩) fun q27 =>
 deref (some ⟨b,0⟩) fun q28 =>
 ld [.ptr] ⟨q27.b,q27.o+1⟩ fun (x29:Option Pt) =>
 ld [.int .u64] ⟨q28.b,q28.o+2⟩ fun (x30:Int) =>
 call Tryz.prog N_canterref08_Win_Update [.lf (.ptr x29),.lf (.int .u64 x30),.lf (.int .u64 r19)] [.lf (.int .u64)] fun (r31:Int) =>
 J9 ()) <|
 J9 ()) <|
 J9 ()) (fun _=>K) w:=by
 refine w_join h (fun _=>blk n1 (Ks.mk K_u8b s)^blk n2 [.int .i64 (0:Int),.int .i64 (0:Int),.int .u64 (0:Int),.int .u64 (0:Int),.int .u64 (0:Int),.int .u64 (0:Int),.int .u64 (0:Int),.int .u64 (0:Int),.bool false,.bool false]^blk b [.int .u64 (wM v (mMeas v.m s)).m.mss,.ptr (some ⟨nw,0⟩),.int .u64 (wM v (mMeas v.m s)).m.r.n,.int .u64 (wM v (mMeas v.m s)).m.r.nx,.int .u64 (wM v (mMeas v.m s)).m.p.best,.int .i64 (wM v (mMeas v.m s)).m.p.n,.bool (wM v (mMeas v.m s)).m.p.full,.int .i64 (wM v (mMeas v.m s)).m.c.ph,.int .u64 (wM v (mMeas v.m s)).m.c.at',.int .u64 (wM v (mMeas v.m s)).m.b.best,.int .u64 (wM v (mMeas v.m s)).m.b.at',.bool (wM v (mMeas v.m s)).m.b.on,.bool (wM v (mMeas v.m s)).set,.bool (wM v (mMeas v.m s)).m.b.rd,.int .u64 (wM v (mMeas v.m s)).till,.bool (wM v (mMeas v.m s)).m.q.use,.bool (wM v (mMeas v.m s)).m.q.mea,.int .u64 (wM v (mMeas v.m s)).m.q.bw,.int .i64 (wM v (mMeas v.m s)).m.q.n,.int .u64 (wM v (mMeas v.m s)).m.q.lost,.int .u64 (wM v (mMeas v.m s)).m.q.t0,.int .u64 (wM v (mMeas v.m s)).m.q.d0,.int .u64 (wM v (mMeas v.m s)).m.q.l0,.int .i64 (wM v (mMeas v.m s)).m.mode,.int .u64 (wM v (mMeas v.m s)).m.rate,.int .u64 (wM v (mMeas v.m s)).m.win,.int .u64 (wM v (mMeas v.m s)).g,.bool (wM v (mMeas v.m s)).m.rec',.bool (wM v (mMeas v.m s)).m.first,.int .u64 (wM v (mMeas v.m s)).m.til,.int .u64 (wM v (mMeas v.m s)).m.sav]^blk nw [.int .u64 (wM v (mMeas v.m s)).m.w.w,.int .u64 (wM v (mMeas v.m s)).m.w.t0,.int .u64 (wM v (mMeas v.m s)).m.w.t1,.int .u64 (wM v (mMeas v.m s)).m.w.t2,.int .u64 (wM v (mMeas v.m s)).m.w.v0,.int .u64 (wM v (mMeas v.m s)).m.w.v1,.int .u64 (wM v (mMeas v.m s)).m.w.v2,.int .u64 (wM v (mMeas v.m s)).m.w.la,.bool false]) (fun _=>True) (fun _ w _ h=>k w h) ?_
 unfold mMeas
 have ha:=hs.ack.1
 have hti:=hs.tim.1
 refine w_join h (fun _=>blk n1 (Ks.mk K_u8b s)^blk n2 [.int .i64 (0:Int),.int .i64 (0:Int),.int .u64 (0:Int),.int .u64 (0:Int),.int .u64 (0:Int),.int .u64 (0:Int),.int .u64 (0:Int),.int .u64 (0:Int),.bool false,.bool false]^blk b [.int .u64 v.m.mss,.ptr (some ⟨nw,0⟩),.int .u64 v.m.r.n,.int .u64 v.m.r.nx,.int .u64 v.m.p.best,.int .i64 v.m.p.n,.bool v.m.p.full,.int .i64 v.m.c.ph,.int .u64 v.m.c.at',.int .u64 v.m.b.best,.int .u64 v.m.b.at',.bool v.m.b.on,.bool v.set,.bool v.m.b.rd,.int .u64 v.till,.bool v.m.q.use,.bool v.m.q.mea,.int .u64 v.m.q.bw,.int .i64 v.m.q.n,.int .u64 v.m.q.lost,.int .u64 v.m.q.t0,.int .u64 v.m.q.d0,.int .u64 v.m.q.l0,.int .i64 v.m.mode,.int .u64 v.m.rate,.int .u64 v.m.win,.int .u64 v.g,.bool v.m.rec',.bool v.m.first,.int .u64 v.m.til,.int .u64 v.m.sav]^blk nw [.int .u64 v.m.w.w,.int .u64 v.m.w.t0,.int .u64 v.m.w.t1,.int .u64 v.m.w.t2,.int .u64 v.m.w.v0,.int .u64 v.m.w.v1,.int .u64 v.m.w.v2,.int .u64 v.m.w.la,.bool false]) (fun y:Bool=>y=decide (¬ (sAck s=0∨sTim s=0))) (fun (y:Bool) w hy h=>?_) ?_
 ·rw [hy]
  refine w_ite (fun c=>?_) fun c=>?_
  ·have c:¬ (sAck s=0∨sTim s=0):=of_decide_eq_true c
   rw [if_neg c]
   have hd:=U_sub hs.del hs.pri
   have hk:=U_md hd (U_lit 1000000000) hs.tim
   repeat' (first
    | (refine w_drw h fun w h=>?_)
    | (refine w_deref ?_)
    | (refine w_ldAll h rfl ?_)
    | (refine w_ld h rfl ?_)
    | (refine w_chkAll h ?_)
    | (refine w_chk h rfl ?_)
    | (refine w_setAll h (by rfl) fun w h=>?_)
    | (refine w_new h fun n w h=>?_)
    | (refine w_leave h fun w h=>?_)
    | (refine w_set h rfl fun w h=>?_;dsimp only [upd,over] at h)
    | (refine w_call (rsub_tri _ _ hs.del hs.pri) h fun r w h=>?_;obtain ⟨hr,h⟩:=h.purP;(try dsimp only at hr h);try rw [hr]))
   refine w_call (rmd_tri _ _ _ hd (U_lit 1000000000) hs.tim) h fun r w h=>?_
   obtain ⟨hr,h⟩:=h.purP
   have hr:r=mK s:=hr
   rw [hr]
   have h:Own _ _ _ _ (blk n1 (Ks.mk K_u8b s)^blk n2 [.int .i64 (0:Int),.int .i64 (0:Int),.int .u64 (0:Int),.int .u64 (0:Int),.int .u64 (0:Int),.int .u64 (0:Int),.int .u64 (0:Int),.int .u64 (0:Int),.bool false,.bool false]^blk b [.int .u64 v.m.mss,.ptr (some ⟨nw,0⟩),.int .u64 v.m.r.n,.int .u64 v.m.r.nx,.int .u64 v.m.p.best,.int .i64 v.m.p.n,.bool v.m.p.full,.int .i64 v.m.c.ph,.int .u64 v.m.c.at',.int .u64 v.m.b.best,.int .u64 v.m.b.at',.bool v.m.b.on,.bool v.set,.bool v.m.b.rd,.int .u64 v.till,.bool v.m.q.use,.bool v.m.q.mea,.int .u64 v.m.q.bw,.int .i64 v.m.q.n,.int .u64 v.m.q.lost,.int .u64 v.m.q.t0,.int .u64 v.m.q.d0,.int .u64 v.m.q.l0,.int .i64 v.m.mode,.int .u64 v.m.rate,.int .u64 v.m.win,.int .u64 v.g,.bool v.m.rec',.bool v.m.first,.int .u64 v.m.til,.int .u64 v.m.sav]^blk nw [.int .u64 v.m.w.w,.int .u64 v.m.w.t0,.int .u64 v.m.w.t1,.int .u64 v.m.w.t2,.int .u64 v.m.w.v0,.int .u64 v.m.w.v1,.int .u64 v.m.w.v2,.int .u64 v.m.w.la,.bool false]):=h.fin
   have hk:U (mK s):=hk
   refine w_join h (fun _=>blk n1 (Ks.mk K_u8b s)^blk n2 [.int .i64 (0:Int),.int .i64 (0:Int),.int .u64 (0:Int),.int .u64 (0:Int),.int .u64 (0:Int),.int .u64 (0:Int),.int .u64 (0:Int),.int .u64 (0:Int),.bool false,.bool false]^blk b [.int .u64 v.m.mss,.ptr (some ⟨nw,0⟩),.int .u64 v.m.r.n,.int .u64 v.m.r.nx,.int .u64 v.m.p.best,.int .i64 v.m.p.n,.bool v.m.p.full,.int .i64 v.m.c.ph,.int .u64 v.m.c.at',.int .u64 v.m.b.best,.int .u64 v.m.b.at',.bool v.m.b.on,.bool v.set,.bool v.m.b.rd,.int .u64 v.till,.bool v.m.q.use,.bool v.m.q.mea,.int .u64 v.m.q.bw,.int .i64 v.m.q.n,.int .u64 v.m.q.lost,.int .u64 v.m.q.t0,.int .u64 v.m.q.d0,.int .u64 v.m.q.l0,.int .i64 v.m.mode,.int .u64 v.m.rate,.int .u64 v.m.win,.int .u64 v.g,.bool v.m.rec',.bool v.m.first,.int .u64 v.m.til,.int .u64 v.m.sav]^blk nw [.int .u64 v.m.w.w,.int .u64 v.m.w.t0,.int .u64 v.m.w.t1,.int .u64 v.m.w.t2,.int .u64 v.m.w.v0,.int .u64 v.m.w.v1,.int .u64 v.m.w.v2,.int .u64 v.m.w.la,.bool false]) (fun y:Bool=>y=decide (sLim s=false∨mK s ≥ v.m.w.v0)) (fun (y:Bool) w hy h=>?_) ?_
   ·rw [hy]
    refine w_ite (fun c2=>?_) fun c2=>?_
    ·rw [if_pos (of_decide_eq_true c2)]
     repeat' (first
      | (refine w_drw h fun w h=>?_)
      | (refine w_deref ?_)
      | (refine w_ldAll h rfl ?_)
      | (refine w_ld h rfl ?_)
      | (refine w_chkAll h ?_)
      | (refine w_chk h rfl ?_)
      | (refine w_setAll h (by rfl) fun w h=>?_)
      | (refine w_new h fun n w h=>?_)
      | (refine w_leave h fun w h=>?_)
      | (refine w_set h rfl fun w h=>?_;dsimp only [upd,over] at h))
     refine w_call (rupd_tri nw v.m.w hv.w v.m.r.n (mK s) hv.r.n hk) h fun r w h=>?_
     obtain ⟨hr,h⟩:=h.purP
     exact ⟨trivial,h.fin⟩
    ·rw [if_neg (of_decide_eq_false c2)]
     exact ⟨trivial,h⟩
   ·refine w_ld h rfl (w_ite (fun c2=>?_) fun c2=>?_)
    ·have c2:sLim s=false:=by simpa using c2
     exact ⟨by simp [c2],h⟩
    ·have c2:sLim s=true:=by simpa using c2
     refine w_deref (w_ld h rfl (w_deref ⟨by decide,w_ld h rfl ?_⟩))
     exact ⟨by simp [c2],h⟩
  ·have c:¬ ¬ (sAck s=0∨sTim s=0):=of_decide_eq_false c
   rw [if_pos (Decidable.not_not.1 c)]
   exact ⟨trivial,h⟩
 ·refine w_ld h rfl (w_ite (fun c=>?_) fun c=>?_)
  ·have c:sAck s > 0:=of_decide_eq_true c
   refine w_ld h rfl ⟨?_,h⟩
   rw [Bool.eq_iff_iff,decide_eq_true_eq,decide_eq_true_eq]
   show sTim s > 0↔_
   omega
  ·have c:¬ sAck s > 0:=of_decide_eq_false c
   refine ⟨?_,h⟩
   have:sAck s=0:=by omega
   simp [this]
theorem gain_k {m m':Md} (h1:m'.mode=m.mode) (h2:m'.q=m.q) (h3:m'.c=m.c):mGain m'=mGain m:=by unfold mGain;rw [h1,h2,h3]
theorem wide_k {m m':Md} (h1:m'.mode=m.mode):mWide m'=mWide m:=by unfold mWide;rw [h1]
theorem k_pace (m:Md):(mPace m).mode=m.mode∧(mPace m).q=m.q∧(mPace m).c=m.c∧(mPace m).b=m.b:=by
 unfold mPace;(repeat' split)<;>exact ⟨rfl,rfl,rfl,rfl⟩
theorem k_rec (m:Md) (s:Sm) (o:Bool):(mRecover m s o).mode=m.mode∧(mRecover m s o).q=m.q∧(mRecover m s o).c=m.c∧(mRecover m s o).b=m.b:=by
 unfold mRecover mOver;(repeat' split)<;>exact ⟨rfl,rfl,rfl,rfl⟩
theorem k_window (m:Md) (s:Sm) (tso:Int):∃ x,mWindow m s tso={ m with win:=x }:=by
 have k2:∀ m:Md,∃ x,mW2 m s tso={ m with win:=x }:=fun m=>by
  unfold mW2;(repeat' split)<;>exact ⟨_,rfl⟩
 obtain ⟨x,hx⟩:=k2 (mW1 m s)
 unfold mWindow
 rw [hx]
 unfold mW4
 split<;>exact ⟨_,rfl⟩
theorem k_meas (m:Md) (s:Sm):(mMeas m s).b=m.b:=by
 unfold mMeas;(repeat' split)<;>rfl
theorem rmupd_tri (b nw:Nat) (v:Rm) (hv:OkM v.m) (hR:Rel v) (s:Sm) (hs:OkS s) (tso:Int) (ht:U tso):Tri Tryz.prog N_canterref08_Model_Update [.lf (.ptr (some ⟨b,0⟩)),.agg (Ks.mk K_u8b s),.lf (.int .u64 tso)] [.agg K_i2u6b2] (blk b [.int .u64 v.m.mss,.ptr (some ⟨nw,0⟩),.int .u64 v.m.r.n,.int .u64 v.m.r.nx,.int .u64 v.m.p.best,.int .i64 v.m.p.n,.bool v.m.p.full,.int .i64 v.m.c.ph,.int .u64 v.m.c.at',.int .u64 v.m.b.best,.int .u64 v.m.b.at',.bool v.m.b.on,.bool v.set,.bool v.m.b.rd,.int .u64 v.till,.bool v.m.q.use,.bool v.m.q.mea,.int .u64 v.m.q.bw,.int .i64 v.m.q.n,.int .u64 v.m.q.lost,.int .u64 v.m.q.t0,.int .u64 v.m.q.d0,.int .u64 v.m.q.l0,.int .i64 v.m.mode,.int .u64 v.m.rate,.int .u64 v.m.win,.int .u64 v.g,.bool v.m.rec',.bool v.m.first,.int .u64 v.m.til,.int .u64 v.m.sav]^blk nw [.int .u64 v.m.w.w,.int .u64 v.m.w.t0,.int .u64 v.m.w.t1,.int .u64 v.m.w.t2,.int .u64 v.m.w.v0,.int .u64 v.m.w.v1,.int .u64 v.m.w.v2,.int .u64 v.m.w.la,.bool false])
  (fun r=>exq (fun u:Rm=>u.m=mUpd v.m s tso∧Rel u∧u.g=mGain u.m∧r=mSt u.m) (fun u=>blk b [.int .u64 u.m.mss,.ptr (some ⟨nw,0⟩),.int .u64 u.m.r.n,.int .u64 u.m.r.nx,.int .u64 u.m.p.best,.int .i64 u.m.p.n,.bool u.m.p.full,.int .i64 u.m.c.ph,.int .u64 u.m.c.at',.int .u64 u.m.b.best,.int .u64 u.m.b.at',.bool u.m.b.on,.bool u.set,.bool u.m.b.rd,.int .u64 u.till,.bool u.m.q.use,.bool u.m.q.mea,.int .u64 u.m.q.bw,.int .i64 u.m.q.n,.int .u64 u.m.q.lost,.int .u64 u.m.q.t0,.int .u64 u.m.q.d0,.int .u64 u.m.q.l0,.int .i64 u.m.mode,.int .u64 u.m.rate,.int .u64 u.m.win,.int .u64 u.g,.bool u.m.rec',.bool u.m.first,.int .u64 u.m.til,.int .u64 u.m.sav]^blk nw [.int .u64 u.m.w.w,.int .u64 u.m.w.t0,.int .u64 u.m.w.t1,.int .u64 u.m.w.t2,.int .u64 u.m.w.v0,.int .u64 u.m.w.v1,.int .u64 u.m.w.v2,.int .u64 u.m.w.la,.bool false])) :=
 tri_0 (call_canterref08_Model_Update _ _ _) fun w0 S R h=>by
  unfold W_canterref08_Model_Update
  refine w_new h fun n1 w h=>?_
  refine w_new h fun n2 w h=>?_
  refine w_drw h fun w h=>?_
  obtain ⟨o,ho⟩:∃ o,o=rB v.m.r s:=⟨_,rfl⟩
  have hu:mUpd v.m s tso=mU3 (mU2 (mU1 v.m s) o s) o s tso:=by rw [ho];rfl
  have hm1:mU1 v.m s={ v.m with r:=rU v.m.r s,q:=qUpd v.m.q o s }:=by rw [ho]
  have o1:=hv.u1 hs
  rw [hu]
  rw [hm1] at o1 ⊢
  refine w_ldAll (x:=s) h rfl (w_deref ?_)
  refine w_call (rrnd_tri b nw v s hs) h fun r w h=>?_
  obtain ⟨hr,h⟩:=h.purP
  rw [hr,← ho]
  refine w_drw h fun w h=>?_
  refine w_ldAll (x:=s) h rfl (w_deref ?_)
  refine w_call (rlupd_tri b nw { v with m:={ v.m with r:=rU v.m.r s } } hv.q o s hs) h fun _ w h=>?_
  have hR1:Rel (wM v { v.m with r:=rU v.m.r s,q:=qUpd v.m.q o s }):=hR
  have h:Own w0 S R w (blk n1 (Ks.mk K_u8b s)^blk n2 [.int .i64 (0:Int),.int .i64 (0:Int),.int .u64 (0:Int),.int .u64 (0:Int),.int .u64 (0:Int),.int .u64 (0:Int),.int .u64 (0:Int),.int .u64 (0:Int),.bool false,.bool false]^blk b [.int .u64 (wM v { v.m with r:=rU v.m.r s,q:=qUpd v.m.q o s }).m.mss,.ptr (some ⟨nw,0⟩),.int .u64 (wM v { v.m with r:=rU v.m.r s,q:=qUpd v.m.q o s }).m.r.n,.int .u64 (wM v { v.m with r:=rU v.m.r s,q:=qUpd v.m.q o s }).m.r.nx,.int .u64 (wM v { v.m with r:=rU v.m.r s,q:=qUpd v.m.q o s }).m.p.best,.int .i64 (wM v { v.m with r:=rU v.m.r s,q:=qUpd v.m.q o s }).m.p.n,.bool (wM v { v.m with r:=rU v.m.r s,q:=qUpd v.m.q o s }).m.p.full,.int .i64 (wM v { v.m with r:=rU v.m.r s,q:=qUpd v.m.q o s }).m.c.ph,.int .u64 (wM v { v.m with r:=rU v.m.r s,q:=qUpd v.m.q o s }).m.c.at',.int .u64 (wM v { v.m with r:=rU v.m.r s,q:=qUpd v.m.q o s }).m.b.best,.int .u64 (wM v { v.m with r:=rU v.m.r s,q:=qUpd v.m.q o s }).m.b.at',.bool (wM v { v.m with r:=rU v.m.r s,q:=qUpd v.m.q o s }).m.b.on,.bool (wM v { v.m with r:=rU v.m.r s,q:=qUpd v.m.q o s }).set,.bool (wM v { v.m with r:=rU v.m.r s,q:=qUpd v.m.q o s }).m.b.rd,.int .u64 (wM v { v.m with r:=rU v.m.r s,q:=qUpd v.m.q o s }).till,.bool (wM v { v.m with r:=rU v.m.r s,q:=qUpd v.m.q o s }).m.q.use,.bool (wM v { v.m with r:=rU v.m.r s,q:=qUpd v.m.q o s }).m.q.mea,.int .u64 (wM v { v.m with r:=rU v.m.r s,q:=qUpd v.m.q o s }).m.q.bw,.int .i64 (wM v { v.m with r:=rU v.m.r s,q:=qUpd v.m.q o s }).m.q.n,.int .u64 (wM v { v.m with r:=rU v.m.r s,q:=qUpd v.m.q o s }).m.q.lost,.int .u64 (wM v { v.m with r:=rU v.m.r s,q:=qUpd v.m.q o s }).m.q.t0,.int .u64 (wM v { v.m with r:=rU v.m.r s,q:=qUpd v.m.q o s }).m.q.d0,.int .u64 (wM v { v.m with r:=rU v.m.r s,q:=qUpd v.m.q o s }).m.q.l0,.int .i64 (wM v { v.m with r:=rU v.m.r s,q:=qUpd v.m.q o s }).m.mode,.int .u64 (wM v { v.m with r:=rU v.m.r s,q:=qUpd v.m.q o s }).m.rate,.int .u64 (wM v { v.m with r:=rU v.m.r s,q:=qUpd v.m.q o s }).m.win,.int .u64 (wM v { v.m with r:=rU v.m.r s,q:=qUpd v.m.q o s }).g,.bool (wM v { v.m with r:=rU v.m.r s,q:=qUpd v.m.q o s }).m.rec',.bool (wM v { v.m with r:=rU v.m.r s,q:=qUpd v.m.q o s }).m.first,.int .u64 (wM v { v.m with r:=rU v.m.r s,q:=qUpd v.m.q o s }).m.til,.int .u64 (wM v { v.m with r:=rU v.m.r s,q:=qUpd v.m.q o s }).m.sav]^blk nw [.int .u64 (wM v { v.m with r:=rU v.m.r s,q:=qUpd v.m.q o s }).m.w.w,.int .u64 (wM v { v.m with r:=rU v.m.r s,q:=qUpd v.m.q o s }).m.w.t0,.int .u64 (wM v { v.m with r:=rU v.m.r s,q:=qUpd v.m.q o s }).m.w.t1,.int .u64 (wM v { v.m with r:=rU v.m.r s,q:=qUpd v.m.q o s }).m.w.t2,.int .u64 (wM v { v.m with r:=rU v.m.r s,q:=qUpd v.m.q o s }).m.w.v0,.int .u64 (wM v { v.m with r:=rU v.m.r s,q:=qUpd v.m.q o s }).m.w.v1,.int .u64 (wM v { v.m with r:=rU v.m.r s,q:=qUpd v.m.q o s }).m.w.v2,.int .u64 (wM v { v.m with r:=rU v.m.r s,q:=qUpd v.m.q o s }).m.w.la,.bool false]):=h.fin
  generalize ({ v.m with r:=rU v.m.r s,q:=qUpd v.m.q o s }:Md)=m1 at h hR1 o1 ⊢
  clear hm1 hu hr ho
  refine rmeas_tri b nw n1 n2 (wM v m1) o1 s hs h fun w h=>?_
  have h:Own w0 S R w (blk n1 (Ks.mk K_u8b s)^blk n2 [.int .i64 (0:Int),.int .i64 (0:Int),.int .u64 (0:Int),.int .u64 (0:Int),.int .u64 (0:Int),.int .u64 (0:Int),.int .u64 (0:Int),.int .u64 (0:Int),.bool false,.bool false]^blk b [.int .u64 (wM v (mMeas m1 s)).m.mss,.ptr (some ⟨nw,0⟩),.int .u64 (wM v (mMeas m1 s)).m.r.n,.int .u64 (wM v (mMeas m1 s)).m.r.nx,.int .u64 (wM v (mMeas m1 s)).m.p.best,.int .i64 (wM v (mMeas m1 s)).m.p.n,.bool (wM v (mMeas m1 s)).m.p.full,.int .i64 (wM v (mMeas m1 s)).m.c.ph,.int .u64 (wM v (mMeas m1 s)).m.c.at',.int .u64 (wM v (mMeas m1 s)).m.b.best,.int .u64 (wM v (mMeas m1 s)).m.b.at',.bool (wM v (mMeas m1 s)).m.b.on,.bool (wM v (mMeas m1 s)).set,.bool (wM v (mMeas m1 s)).m.b.rd,.int .u64 (wM v (mMeas m1 s)).till,.bool (wM v (mMeas m1 s)).m.q.use,.bool (wM v (mMeas m1 s)).m.q.mea,.int .u64 (wM v (mMeas m1 s)).m.q.bw,.int .i64 (wM v (mMeas m1 s)).m.q.n,.int .u64 (wM v (mMeas m1 s)).m.q.lost,.int .u64 (wM v (mMeas m1 s)).m.q.t0,.int .u64 (wM v (mMeas m1 s)).m.q.d0,.int .u64 (wM v (mMeas m1 s)).m.q.l0,.int .i64 (wM v (mMeas m1 s)).m.mode,.int .u64 (wM v (mMeas m1 s)).m.rate,.int .u64 (wM v (mMeas m1 s)).m.win,.int .u64 (wM v (mMeas m1 s)).g,.bool (wM v (mMeas m1 s)).m.rec',.bool (wM v (mMeas m1 s)).m.first,.int .u64 (wM v (mMeas m1 s)).m.til,.int .u64 (wM v (mMeas m1 s)).m.sav]^blk nw [.int .u64 (wM v (mMeas m1 s)).m.w.w,.int .u64 (wM v (mMeas m1 s)).m.w.t0,.int .u64 (wM v (mMeas m1 s)).m.w.t1,.int .u64 (wM v (mMeas m1 s)).m.w.t2,.int .u64 (wM v (mMeas m1 s)).m.w.v0,.int .u64 (wM v (mMeas m1 s)).m.w.v1,.int .u64 (wM v (mMeas m1 s)).m.w.v2,.int .u64 (wM v (mMeas m1 s)).m.w.la,.bool false]):=h
  have o2:=o1.meas hs
  have hb2:=k_meas m1 s
  have hR2:Rel (wM v (mMeas m1 s)):=fun hh=>by
   have hh:m1.b.on=true:=by rw [← hb2];exact hh
   have:=hR1 hh
   show v.set=decide ((mMeas m1 s).b.til≠0)∧(v.set=true→v.till=(mMeas m1 s).b.til)
   rw [hb2];exact this
  have hu2:mU2 m1 o s=rRest (mMeas m1 s) s o:=rfl
  rw [hu2]
  generalize mMeas m1 s=m2 at h hR2 o2 ⊢
  refine w_ldAll (x:=s) h rfl ?_
  refine w_call (rmodes_tri b nw (wM v m2) o2 hR2 o s hs) h fun _ w h=>?_
  obtain ⟨u,⟨hu,hRu,_⟩,h⟩:=h.outq
  have hu:u.m=rRest m2 s o:=hu
  have o3:OkM u.m:=by rw [hu];exact (o2.cyc hs).pipe.m1.m2 hs |>.look hs
  rw [← hu]
  clear hu
  refine w_call (rgains_tri b nw u o3) h fun r w h=>?_
  obtain ⟨hr,h⟩:=h.purP
  rw [hr]
  refine w_deref (w_set h rfl fun w h=>?_)
  dsimp only [upd,over] at h
  have h:=(h.blkEq (b:=b) (L':=[.int .u64 (Rm.mk u.m u.set u.till (mGain u.m)).m.mss,.ptr (some ⟨nw,0⟩),.int .u64 (Rm.mk u.m u.set u.till (mGain u.m)).m.r.n,.int .u64 (Rm.mk u.m u.set u.till (mGain u.m)).m.r.nx,.int .u64 (Rm.mk u.m u.set u.till (mGain u.m)).m.p.best,.int .i64 (Rm.mk u.m u.set u.till (mGain u.m)).m.p.n,.bool (Rm.mk u.m u.set u.till (mGain u.m)).m.p.full,.int .i64 (Rm.mk u.m u.set u.till (mGain u.m)).m.c.ph,.int .u64 (Rm.mk u.m u.set u.till (mGain u.m)).m.c.at',.int .u64 (Rm.mk u.m u.set u.till (mGain u.m)).m.b.best,.int .u64 (Rm.mk u.m u.set u.till (mGain u.m)).m.b.at',.bool (Rm.mk u.m u.set u.till (mGain u.m)).m.b.on,.bool (Rm.mk u.m u.set u.till (mGain u.m)).set,.bool (Rm.mk u.m u.set u.till (mGain u.m)).m.b.rd,.int .u64 (Rm.mk u.m u.set u.till (mGain u.m)).till,.bool (Rm.mk u.m u.set u.till (mGain u.m)).m.q.use,.bool (Rm.mk u.m u.set u.till (mGain u.m)).m.q.mea,.int .u64 (Rm.mk u.m u.set u.till (mGain u.m)).m.q.bw,.int .i64 (Rm.mk u.m u.set u.till (mGain u.m)).m.q.n,.int .u64 (Rm.mk u.m u.set u.till (mGain u.m)).m.q.lost,.int .u64 (Rm.mk u.m u.set u.till (mGain u.m)).m.q.t0,.int .u64 (Rm.mk u.m u.set u.till (mGain u.m)).m.q.d0,.int .u64 (Rm.mk u.m u.set u.till (mGain u.m)).m.q.l0,.int .i64 (Rm.mk u.m u.set u.till (mGain u.m)).m.mode,.int .u64 (Rm.mk u.m u.set u.till (mGain u.m)).m.rate,.int .u64 (Rm.mk u.m u.set u.till (mGain u.m)).m.win,.int .u64 (Rm.mk u.m u.set u.till (mGain u.m)).g,.bool (Rm.mk u.m u.set u.till (mGain u.m)).m.rec',.bool (Rm.mk u.m u.set u.till (mGain u.m)).m.first,.int .u64 (Rm.mk u.m u.set u.till (mGain u.m)).m.til,.int .u64 (Rm.mk u.m u.set u.till (mGain u.m)).m.sav]) (by simp))
  have h:Own w0 S R w (blk n1 (Ks.mk K_u8b s)^blk n2 [.int .i64 (0:Int),.int .i64 (0:Int),.int .u64 (0:Int),.int .u64 (0:Int),.int .u64 (0:Int),.int .u64 (0:Int),.int .u64 (0:Int),.int .u64 (0:Int),.bool false,.bool false]^blk b [.int .u64 (Rm.mk u.m u.set u.till (mGain u.m)).m.mss,.ptr (some ⟨nw,0⟩),.int .u64 (Rm.mk u.m u.set u.till (mGain u.m)).m.r.n,.int .u64 (Rm.mk u.m u.set u.till (mGain u.m)).m.r.nx,.int .u64 (Rm.mk u.m u.set u.till (mGain u.m)).m.p.best,.int .i64 (Rm.mk u.m u.set u.till (mGain u.m)).m.p.n,.bool (Rm.mk u.m u.set u.till (mGain u.m)).m.p.full,.int .i64 (Rm.mk u.m u.set u.till (mGain u.m)).m.c.ph,.int .u64 (Rm.mk u.m u.set u.till (mGain u.m)).m.c.at',.int .u64 (Rm.mk u.m u.set u.till (mGain u.m)).m.b.best,.int .u64 (Rm.mk u.m u.set u.till (mGain u.m)).m.b.at',.bool (Rm.mk u.m u.set u.till (mGain u.m)).m.b.on,.bool (Rm.mk u.m u.set u.till (mGain u.m)).set,.bool (Rm.mk u.m u.set u.till (mGain u.m)).m.b.rd,.int .u64 (Rm.mk u.m u.set u.till (mGain u.m)).till,.bool (Rm.mk u.m u.set u.till (mGain u.m)).m.q.use,.bool (Rm.mk u.m u.set u.till (mGain u.m)).m.q.mea,.int .u64 (Rm.mk u.m u.set u.till (mGain u.m)).m.q.bw,.int .i64 (Rm.mk u.m u.set u.till (mGain u.m)).m.q.n,.int .u64 (Rm.mk u.m u.set u.till (mGain u.m)).m.q.lost,.int .u64 (Rm.mk u.m u.set u.till (mGain u.m)).m.q.t0,.int .u64 (Rm.mk u.m u.set u.till (mGain u.m)).m.q.d0,.int .u64 (Rm.mk u.m u.set u.till (mGain u.m)).m.q.l0,.int .i64 (Rm.mk u.m u.set u.till (mGain u.m)).m.mode,.int .u64 (Rm.mk u.m u.set u.till (mGain u.m)).m.rate,.int .u64 (Rm.mk u.m u.set u.till (mGain u.m)).m.win,.int .u64 (Rm.mk u.m u.set u.till (mGain u.m)).g,.bool (Rm.mk u.m u.set u.till (mGain u.m)).m.rec',.bool (Rm.mk u.m u.set u.till (mGain u.m)).m.first,.int .u64 (Rm.mk u.m u.set u.till (mGain u.m)).m.til,.int .u64 (Rm.mk u.m u.set u.till (mGain u.m)).m.sav]^blk nw [.int .u64 (Rm.mk u.m u.set u.till (mGain u.m)).m.w.w,.int .u64 (Rm.mk u.m u.set u.till (mGain u.m)).m.w.t0,.int .u64 (Rm.mk u.m u.set u.till (mGain u.m)).m.w.t1,.int .u64 (Rm.mk u.m u.set u.till (mGain u.m)).m.w.t2,.int .u64 (Rm.mk u.m u.set u.till (mGain u.m)).m.w.v0,.int .u64 (Rm.mk u.m u.set u.till (mGain u.m)).m.w.v1,.int .u64 (Rm.mk u.m u.set u.till (mGain u.m)).m.w.v2,.int .u64 (Rm.mk u.m u.set u.till (mGain u.m)).m.w.la,.bool false]):=h.fin
  refine pace_tri b nw n1 n2 (Rm.mk u.m u.set u.till (mGain u.m)) o3 s h fun w h=>?_
  have o4:=o3.pace
  obtain ⟨p1,p2,p3,p4⟩:=k_pace u.m
  have g4:=gain_k p1 p2 p3
  have w4:=wide_k p1
  refine w_ldAll (x:=s) h rfl ?_
  refine w_call (rrec_tri b nw (Rm.mk (mPace u.m) u.set u.till (mGain u.m)) o4 o s hs) h fun _ w h=>?_
  obtain ⟨x,⟨hx,hx3⟩,h⟩:=h.outq
  obtain ⟨q1,q2,q3,q4⟩:=k_rec (mPace u.m) s o
  have o5:=o4.recover (o:=o) hs
  have o6:OkM { mRecover (mPace u.m) s o with win:=x }:={ o5 with win:=hx }
  have w6:mWide { mRecover (mPace u.m) s o with win:=x }=mWide u.m:=(wide_k (m:=mRecover (mPace u.m) s o) (m':={ mRecover (mPace u.m) s o with win:=x }) rfl).trans ((wide_k q1).trans w4)
  refine w_ldAll (x:=s) h rfl ?_
  dsimp only
  rw [← w6]
  refine w_call (rwin_tri' b nw (wM (Rm.mk (mPace u.m) u.set u.till (mGain u.m)) { mRecover (mPace u.m) s o with win:=x }) o6 s hs tso ht) h fun _ w h=>?_
  have hfin:mWindow { mRecover (mPace u.m) s o with win:=x } s tso=mU3 u.m o s tso:=by
   show _=mWindow (mRecover (mPace u.m) s o) s tso
   by_cases hm:(mPace u.m).mode=3
   ·rw [win_3 (m:={ mRecover (mPace u.m) s o with win:=x }) (q1.trans hm),win_3 (q1.trans hm)]
    rfl
   ·have:x=(mRecover (mPace u.m) s o).win:=hx3 hm
    rw [this]
  obtain ⟨y,hy⟩:=k_window { mRecover (mPace u.m) s o with win:=x } s tso
  have gf:mGain u.m=mGain (mU3 u.m o s tso):=by
   rw [← hfin,hy,gain_k (m:=mRecover (mPace u.m) s o) (m':={ mRecover (mPace u.m) s o with win:=y }) rfl rfl rfl,gain_k q1 q2 q3,g4]
  have bf:(mU3 u.m o s tso).b=u.m.b:=by
   rw [← hfin,hy]
   show (mRecover (mPace u.m) s o).b=u.m.b
   rw [q4,p4]
  have hRf:Rel (Rm.mk (mU3 u.m o s tso) u.set u.till (mGain u.m)):=fun hh=>by
   have:=hRu (by rw [← bf];exact hh)
   show u.set=decide ((mU3 u.m o s tso).b.til≠0)∧(u.set=true→u.till=(mU3 u.m o s tso).b.til)
   rw [bf];exact this
  have h:Own w0 S R w (blk b [.int .u64 (Rm.mk (mWindow { mRecover (mPace u.m) s o with win:=x } s tso) u.set u.till (mGain u.m)).m.mss,.ptr (some ⟨nw,0⟩),.int .u64 (Rm.mk (mWindow { mRecover (mPace u.m) s o with win:=x } s tso) u.set u.till (mGain u.m)).m.r.n,.int .u64 (Rm.mk (mWindow { mRecover (mPace u.m) s o with win:=x } s tso) u.set u.till (mGain u.m)).m.r.nx,.int .u64 (Rm.mk (mWindow { mRecover (mPace u.m) s o with win:=x } s tso) u.set u.till (mGain u.m)).m.p.best,.int .i64 (Rm.mk (mWindow { mRecover (mPace u.m) s o with win:=x } s tso) u.set u.till (mGain u.m)).m.p.n,.bool (Rm.mk (mWindow { mRecover (mPace u.m) s o with win:=x } s tso) u.set u.till (mGain u.m)).m.p.full,.int .i64 (Rm.mk (mWindow { mRecover (mPace u.m) s o with win:=x } s tso) u.set u.till (mGain u.m)).m.c.ph,.int .u64 (Rm.mk (mWindow { mRecover (mPace u.m) s o with win:=x } s tso) u.set u.till (mGain u.m)).m.c.at',.int .u64 (Rm.mk (mWindow { mRecover (mPace u.m) s o with win:=x } s tso) u.set u.till (mGain u.m)).m.b.best,.int .u64 (Rm.mk (mWindow { mRecover (mPace u.m) s o with win:=x } s tso) u.set u.till (mGain u.m)).m.b.at',.bool (Rm.mk (mWindow { mRecover (mPace u.m) s o with win:=x } s tso) u.set u.till (mGain u.m)).m.b.on,.bool (Rm.mk (mWindow { mRecover (mPace u.m) s o with win:=x } s tso) u.set u.till (mGain u.m)).set,.bool (Rm.mk (mWindow { mRecover (mPace u.m) s o with win:=x } s tso) u.set u.till (mGain u.m)).m.b.rd,.int .u64 (Rm.mk (mWindow { mRecover (mPace u.m) s o with win:=x } s tso) u.set u.till (mGain u.m)).till,.bool (Rm.mk (mWindow { mRecover (mPace u.m) s o with win:=x } s tso) u.set u.till (mGain u.m)).m.q.use,.bool (Rm.mk (mWindow { mRecover (mPace u.m) s o with win:=x } s tso) u.set u.till (mGain u.m)).m.q.mea,.int .u64 (Rm.mk (mWindow { mRecover (mPace u.m) s o with win:=x } s tso) u.set u.till (mGain u.m)).m.q.bw,.int .i64 (Rm.mk (mWindow { mRecover (mPace u.m) s o with win:=x } s tso) u.set u.till (mGain u.m)).m.q.n,.int .u64 (Rm.mk (mWindow { mRecover (mPace u.m) s o with win:=x } s tso) u.set u.till (mGain u.m)).m.q.lost,.int .u64 (Rm.mk (mWindow { mRecover (mPace u.m) s o with win:=x } s tso) u.set u.till (mGain u.m)).m.q.t0,.int .u64 (Rm.mk (mWindow { mRecover (mPace u.m) s o with win:=x } s tso) u.set u.till (mGain u.m)).m.q.d0,.int .u64 (Rm.mk (mWindow { mRecover (mPace u.m) s o with win:=x } s tso) u.set u.till (mGain u.m)).m.q.l0,.int .i64 (Rm.mk (mWindow { mRecover (mPace u.m) s o with win:=x } s tso) u.set u.till (mGain u.m)).m.mode,.int .u64 (Rm.mk (mWindow { mRecover (mPace u.m) s o with win:=x } s tso) u.set u.till (mGain u.m)).m.rate,.int .u64 (Rm.mk (mWindow { mRecover (mPace u.m) s o with win:=x } s tso) u.set u.till (mGain u.m)).m.win,.int .u64 (Rm.mk (mWindow { mRecover (mPace u.m) s o with win:=x } s tso) u.set u.till (mGain u.m)).g,.bool (Rm.mk (mWindow { mRecover (mPace u.m) s o with win:=x } s tso) u.set u.till (mGain u.m)).m.rec',.bool (Rm.mk (mWindow { mRecover (mPace u.m) s o with win:=x } s tso) u.set u.till (mGain u.m)).m.first,.int .u64 (Rm.mk (mWindow { mRecover (mPace u.m) s o with win:=x } s tso) u.set u.till (mGain u.m)).m.til,.int .u64 (Rm.mk (mWindow { mRecover (mPace u.m) s o with win:=x } s tso) u.set u.till (mGain u.m)).m.sav]^blk nw [.int .u64 (Rm.mk (mWindow { mRecover (mPace u.m) s o with win:=x } s tso) u.set u.till (mGain u.m)).m.w.w,.int .u64 (Rm.mk (mWindow { mRecover (mPace u.m) s o with win:=x } s tso) u.set u.till (mGain u.m)).m.w.t0,.int .u64 (Rm.mk (mWindow { mRecover (mPace u.m) s o with win:=x } s tso) u.set u.till (mGain u.m)).m.w.t1,.int .u64 (Rm.mk (mWindow { mRecover (mPace u.m) s o with win:=x } s tso) u.set u.till (mGain u.m)).m.w.t2,.int .u64 (Rm.mk (mWindow { mRecover (mPace u.m) s o with win:=x } s tso) u.set u.till (mGain u.m)).m.w.v0,.int .u64 (Rm.mk (mWindow { mRecover (mPace u.m) s o with win:=x } s tso) u.set u.till (mGain u.m)).m.w.v1,.int .u64 (Rm.mk (mWindow { mRecover (mPace u.m) s o with win:=x } s tso) u.set u.till (mGain u.m)).m.w.v2,.int .u64 (Rm.mk (mWindow { mRecover (mPace u.m) s o with win:=x } s tso) u.set u.till (mGain u.m)).m.w.la,.bool false]^blk n2 [.int .i64 (0:Int),.int .i64 (0:Int),.int .u64 (0:Int),.int .u64 (0:Int),.int .u64 (0:Int),.int .u64 (0:Int),.int .u64 (0:Int),.int .u64 (0:Int),.bool false,.bool false]):=h.fin
  rw [hfin] at h
  generalize mU3 u.m o s tso=mf at h gf bf hRf ⊢
  refine w_call (rstate_tri b nw (Rm.mk mf u.set u.till (mGain u.m))) h fun r w h=>?_
  obtain ⟨hr,h⟩:=h.purP
  have hr:r=mSt mf:=by rw [hr];unfold rSt mSt;rw [gf]
  rw [hr]
  refine w_setAll h (by rfl) fun w h=>?_
  refine w_ldAll (x:=mSt mf) h rfl ?_
  exact (h.inq (Rm.mk mf u.set u.till (mGain u.m)) ⟨rfl,hRf,gf,rfl⟩).keep
end BbrZ

end Go.X
