/- Contracts and plain facts: BbrX. -/
import Derived.Test.YtkideobegadadaaGreatB0
import Derived.Test.YtkideobegadadaaGreatB1
import Derived.Test.YtkideobegadadaaGreatB2
import Derived.Test.YtkideobegadadaaGreatK
import Derived.Test.YtkideobegadadaaGreatF0
import Derived.Test.YtkideobegadadaaGreatF1
import Derived.Test.YtkideobegadadaaGreatF2
set_option linter.unusedVariables false
set_option linter.unusedSimpArgs false
set_option linter.unusedSectionVars false
namespace Go.X
open Go.Proofs
namespace BbrX
open Arith ArithC _root_.Go.X.Target BbrM BbrMm BbrV
structure Rm where
 m:Md
 set:Bool
 till:Int
 g:Int
theorem rbw_tri (b nw:Nat) (v:Rm):Tri Tryz.prog N_canterref08_Model_bw [.lf (.ptr (some ⟨b,0⟩))] [.lf (.int .u64)] (blk b [.int .u64 v.m.mss,.ptr (some ⟨nw,0⟩),.int .u64 v.m.r.n,.int .u64 v.m.r.nx,.int .u64 v.m.p.best,.int .i64 v.m.p.n,.bool v.m.p.full,.int .i64 v.m.c.ph,.int .u64 v.m.c.at',.int .u64 v.m.b.best,.int .u64 v.m.b.at',.bool v.m.b.on,.bool v.set,.bool v.m.b.rd,.int .u64 v.till,.bool v.m.q.use,.bool v.m.q.mea,.int .u64 v.m.q.bw,.int .i64 v.m.q.n,.int .u64 v.m.q.lost,.int .u64 v.m.q.t0,.int .u64 v.m.q.d0,.int .u64 v.m.q.l0,.int .i64 v.m.mode,.int .u64 v.m.rate,.int .u64 v.m.win,.int .u64 v.g,.bool v.m.rec',.bool v.m.first,.int .u64 v.m.til,.int .u64 v.m.sav]^blk nw [.int .u64 v.m.w.w,.int .u64 v.m.w.t0,.int .u64 v.m.w.t1,.int .u64 v.m.w.t2,.int .u64 v.m.w.v0,.int .u64 v.m.w.v1,.int .u64 v.m.w.v2,.int .u64 v.m.w.la,.bool false]) (fun r=>pur (r=mBw v.m) (blk b [.int .u64 v.m.mss,.ptr (some ⟨nw,0⟩),.int .u64 v.m.r.n,.int .u64 v.m.r.nx,.int .u64 v.m.p.best,.int .i64 v.m.p.n,.bool v.m.p.full,.int .i64 v.m.c.ph,.int .u64 v.m.c.at',.int .u64 v.m.b.best,.int .u64 v.m.b.at',.bool v.m.b.on,.bool v.set,.bool v.m.b.rd,.int .u64 v.till,.bool v.m.q.use,.bool v.m.q.mea,.int .u64 v.m.q.bw,.int .i64 v.m.q.n,.int .u64 v.m.q.lost,.int .u64 v.m.q.t0,.int .u64 v.m.q.d0,.int .u64 v.m.q.l0,.int .i64 v.m.mode,.int .u64 v.m.rate,.int .u64 v.m.win,.int .u64 v.g,.bool v.m.rec',.bool v.m.first,.int .u64 v.m.til,.int .u64 v.m.sav]^blk nw [.int .u64 v.m.w.w,.int .u64 v.m.w.t0,.int .u64 v.m.w.t1,.int .u64 v.m.w.t2,.int .u64 v.m.w.v0,.int .u64 v.m.w.v1,.int .u64 v.m.w.v2,.int .u64 v.m.w.la,.bool false])) :=
 tri_0 (call_canterref08_Model_bw _) fun w0 S R h=>by
  unfold W_canterref08_Model_bw
  refine w_deref (w_ld h rfl (w_ite (fun c=>?_) fun c=>?_))
  ·have c:v.m.q.use=true:=c
   refine w_deref (w_ld h rfl ?_)
   exact Own.retP (by unfold mBw;rw [c];rfl) h.fin
  ·have c:v.m.q.use=false:=c
   refine w_deref (w_ld h rfl (w_deref ⟨by decide,w_ld h rfl ?_⟩))
   exact Own.retP (by unfold mBw;rw [c];rfl) h.fin
theorem rrnd_tri (b nw:Nat) (v:Rm) (s:Sm) (hs:OkS s):Tri Tryz.prog N_canterref08_Rounds_Update [.lf (.ptr (some ⟨b,2⟩)),.agg (Ks.mk K_u8b s)] [.lf .bool] (blk b [.int .u64 v.m.mss,.ptr (some ⟨nw,0⟩),.int .u64 v.m.r.n,.int .u64 v.m.r.nx,.int .u64 v.m.p.best,.int .i64 v.m.p.n,.bool v.m.p.full,.int .i64 v.m.c.ph,.int .u64 v.m.c.at',.int .u64 v.m.b.best,.int .u64 v.m.b.at',.bool v.m.b.on,.bool v.set,.bool v.m.b.rd,.int .u64 v.till,.bool v.m.q.use,.bool v.m.q.mea,.int .u64 v.m.q.bw,.int .i64 v.m.q.n,.int .u64 v.m.q.lost,.int .u64 v.m.q.t0,.int .u64 v.m.q.d0,.int .u64 v.m.q.l0,.int .i64 v.m.mode,.int .u64 v.m.rate,.int .u64 v.m.win,.int .u64 v.g,.bool v.m.rec',.bool v.m.first,.int .u64 v.m.til,.int .u64 v.m.sav]) (fun r=>pur (r=rB v.m.r s) (blk b [.int .u64 ({ v with m:={ v.m with r:=rU v.m.r s } }).m.mss,.ptr (some ⟨nw,0⟩),.int .u64 ({ v with m:={ v.m with r:=rU v.m.r s } }).m.r.n,.int .u64 ({ v with m:={ v.m with r:=rU v.m.r s } }).m.r.nx,.int .u64 ({ v with m:={ v.m with r:=rU v.m.r s } }).m.p.best,.int .i64 ({ v with m:={ v.m with r:=rU v.m.r s } }).m.p.n,.bool ({ v with m:={ v.m with r:=rU v.m.r s } }).m.p.full,.int .i64 ({ v with m:={ v.m with r:=rU v.m.r s } }).m.c.ph,.int .u64 ({ v with m:={ v.m with r:=rU v.m.r s } }).m.c.at',.int .u64 ({ v with m:={ v.m with r:=rU v.m.r s } }).m.b.best,.int .u64 ({ v with m:={ v.m with r:=rU v.m.r s } }).m.b.at',.bool ({ v with m:={ v.m with r:=rU v.m.r s } }).m.b.on,.bool ({ v with m:={ v.m with r:=rU v.m.r s } }).set,.bool ({ v with m:={ v.m with r:=rU v.m.r s } }).m.b.rd,.int .u64 ({ v with m:={ v.m with r:=rU v.m.r s } }).till,.bool ({ v with m:={ v.m with r:=rU v.m.r s } }).m.q.use,.bool ({ v with m:={ v.m with r:=rU v.m.r s } }).m.q.mea,.int .u64 ({ v with m:={ v.m with r:=rU v.m.r s } }).m.q.bw,.int .i64 ({ v with m:={ v.m with r:=rU v.m.r s } }).m.q.n,.int .u64 ({ v with m:={ v.m with r:=rU v.m.r s } }).m.q.lost,.int .u64 ({ v with m:={ v.m with r:=rU v.m.r s } }).m.q.t0,.int .u64 ({ v with m:={ v.m with r:=rU v.m.r s } }).m.q.d0,.int .u64 ({ v with m:={ v.m with r:=rU v.m.r s } }).m.q.l0,.int .i64 ({ v with m:={ v.m with r:=rU v.m.r s } }).m.mode,.int .u64 ({ v with m:={ v.m with r:=rU v.m.r s } }).m.rate,.int .u64 ({ v with m:={ v.m with r:=rU v.m.r s } }).m.win,.int .u64 ({ v with m:={ v.m with r:=rU v.m.r s } }).g,.bool ({ v with m:={ v.m with r:=rU v.m.r s } }).m.rec',.bool ({ v with m:={ v.m with r:=rU v.m.r s } }).m.first,.int .u64 ({ v with m:={ v.m with r:=rU v.m.r s } }).m.til,.int .u64 ({ v with m:={ v.m with r:=rU v.m.r s } }).m.sav])) :=
 tri_0 (call_canterref08_Rounds_Update _ _) fun w0 S R h=>by
  unfold W_canterref08_Rounds_Update
  have h0:=hs.ack.1
  simp only [sAck] at h0
  repeat' (first
   | (refine w_drw h fun w h=>?_)
   | (refine w_deref ?_)
   | (refine w_ldAll h rfl ?_)
   | (refine w_ld h rfl ?_)
   | (refine w_chkAll h ?_)
   | (refine w_chk h rfl ?_)
   | (refine w_setAll h (by rfl) fun w h=>?_)
   | (refine w_new h fun n w h=>?_)
   | (refine w_leave h fun w h=>?_)
   | (refine w_set h rfl fun w h=>?_;dsimp only [upd,over] at h)
   | (refine w_ite (fun c=>?_) fun c=>?_)
   | (refine ⟨_,fun _ _ h=>h,?_⟩;dsimp only))
  all_goals simp only [beq_iff_eq,beq_eq_false_iff_ne,decide_eq_true_eq,decide_eq_false_iff_not,ne_eq] at *
  ·have e:rB v.m.r s=false:=by simp [rB,sAck,sPri];omega
   exact Own.retP e.symm (h.blkEq (b:=b) (L':=[.int .u64 ({ v with m:={ v.m with r:=rU v.m.r s } }).m.mss,.ptr (some ⟨nw,0⟩),.int .u64 ({ v with m:={ v.m with r:=rU v.m.r s } }).m.r.n,.int .u64 ({ v with m:={ v.m with r:=rU v.m.r s } }).m.r.nx,.int .u64 ({ v with m:={ v.m with r:=rU v.m.r s } }).m.p.best,.int .i64 ({ v with m:={ v.m with r:=rU v.m.r s } }).m.p.n,.bool ({ v with m:={ v.m with r:=rU v.m.r s } }).m.p.full,.int .i64 ({ v with m:={ v.m with r:=rU v.m.r s } }).m.c.ph,.int .u64 ({ v with m:={ v.m with r:=rU v.m.r s } }).m.c.at',.int .u64 ({ v with m:={ v.m with r:=rU v.m.r s } }).m.b.best,.int .u64 ({ v with m:={ v.m with r:=rU v.m.r s } }).m.b.at',.bool ({ v with m:={ v.m with r:=rU v.m.r s } }).m.b.on,.bool ({ v with m:={ v.m with r:=rU v.m.r s } }).set,.bool ({ v with m:={ v.m with r:=rU v.m.r s } }).m.b.rd,.int .u64 ({ v with m:={ v.m with r:=rU v.m.r s } }).till,.bool ({ v with m:={ v.m with r:=rU v.m.r s } }).m.q.use,.bool ({ v with m:={ v.m with r:=rU v.m.r s } }).m.q.mea,.int .u64 ({ v with m:={ v.m with r:=rU v.m.r s } }).m.q.bw,.int .i64 ({ v with m:={ v.m with r:=rU v.m.r s } }).m.q.n,.int .u64 ({ v with m:={ v.m with r:=rU v.m.r s } }).m.q.lost,.int .u64 ({ v with m:={ v.m with r:=rU v.m.r s } }).m.q.t0,.int .u64 ({ v with m:={ v.m with r:=rU v.m.r s } }).m.q.d0,.int .u64 ({ v with m:={ v.m with r:=rU v.m.r s } }).m.q.l0,.int .i64 ({ v with m:={ v.m with r:=rU v.m.r s } }).m.mode,.int .u64 ({ v with m:={ v.m with r:=rU v.m.r s } }).m.rate,.int .u64 ({ v with m:={ v.m with r:=rU v.m.r s } }).m.win,.int .u64 ({ v with m:={ v.m with r:=rU v.m.r s } }).g,.bool ({ v with m:={ v.m with r:=rU v.m.r s } }).m.rec',.bool ({ v with m:={ v.m with r:=rU v.m.r s } }).m.first,.int .u64 ({ v with m:={ v.m with r:=rU v.m.r s } }).m.til,.int .u64 ({ v with m:={ v.m with r:=rU v.m.r s } }).m.sav]) (by simp [rU,e])).fin
  ·rename_i c1
   have e:rB v.m.r s=false:=by simp [rB,sAck,sPri];omega
   exact Own.retP e.symm (h.blkEq (b:=b) (L':=[.int .u64 ({ v with m:={ v.m with r:=rU v.m.r s } }).m.mss,.ptr (some ⟨nw,0⟩),.int .u64 ({ v with m:={ v.m with r:=rU v.m.r s } }).m.r.n,.int .u64 ({ v with m:={ v.m with r:=rU v.m.r s } }).m.r.nx,.int .u64 ({ v with m:={ v.m with r:=rU v.m.r s } }).m.p.best,.int .i64 ({ v with m:={ v.m with r:=rU v.m.r s } }).m.p.n,.bool ({ v with m:={ v.m with r:=rU v.m.r s } }).m.p.full,.int .i64 ({ v with m:={ v.m with r:=rU v.m.r s } }).m.c.ph,.int .u64 ({ v with m:={ v.m with r:=rU v.m.r s } }).m.c.at',.int .u64 ({ v with m:={ v.m with r:=rU v.m.r s } }).m.b.best,.int .u64 ({ v with m:={ v.m with r:=rU v.m.r s } }).m.b.at',.bool ({ v with m:={ v.m with r:=rU v.m.r s } }).m.b.on,.bool ({ v with m:={ v.m with r:=rU v.m.r s } }).set,.bool ({ v with m:={ v.m with r:=rU v.m.r s } }).m.b.rd,.int .u64 ({ v with m:={ v.m with r:=rU v.m.r s } }).till,.bool ({ v with m:={ v.m with r:=rU v.m.r s } }).m.q.use,.bool ({ v with m:={ v.m with r:=rU v.m.r s } }).m.q.mea,.int .u64 ({ v with m:={ v.m with r:=rU v.m.r s } }).m.q.bw,.int .i64 ({ v with m:={ v.m with r:=rU v.m.r s } }).m.q.n,.int .u64 ({ v with m:={ v.m with r:=rU v.m.r s } }).m.q.lost,.int .u64 ({ v with m:={ v.m with r:=rU v.m.r s } }).m.q.t0,.int .u64 ({ v with m:={ v.m with r:=rU v.m.r s } }).m.q.d0,.int .u64 ({ v with m:={ v.m with r:=rU v.m.r s } }).m.q.l0,.int .i64 ({ v with m:={ v.m with r:=rU v.m.r s } }).m.mode,.int .u64 ({ v with m:={ v.m with r:=rU v.m.r s } }).m.rate,.int .u64 ({ v with m:={ v.m with r:=rU v.m.r s } }).m.win,.int .u64 ({ v with m:={ v.m with r:=rU v.m.r s } }).g,.bool ({ v with m:={ v.m with r:=rU v.m.r s } }).m.rec',.bool ({ v with m:={ v.m with r:=rU v.m.r s } }).m.first,.int .u64 ({ v with m:={ v.m with r:=rU v.m.r s } }).m.til,.int .u64 ({ v with m:={ v.m with r:=rU v.m.r s } }).m.sav]) (by simp [rU,e])).fin
  ·rename_i c1
   have e:rB v.m.r s=true:=by simp [rB,sAck,sPri];omega
   exact Own.retP e.symm (h.blkEq (b:=b) (L':=[.int .u64 ({ v with m:={ v.m with r:=rU v.m.r s } }).m.mss,.ptr (some ⟨nw,0⟩),.int .u64 ({ v with m:={ v.m with r:=rU v.m.r s } }).m.r.n,.int .u64 ({ v with m:={ v.m with r:=rU v.m.r s } }).m.r.nx,.int .u64 ({ v with m:={ v.m with r:=rU v.m.r s } }).m.p.best,.int .i64 ({ v with m:={ v.m with r:=rU v.m.r s } }).m.p.n,.bool ({ v with m:={ v.m with r:=rU v.m.r s } }).m.p.full,.int .i64 ({ v with m:={ v.m with r:=rU v.m.r s } }).m.c.ph,.int .u64 ({ v with m:={ v.m with r:=rU v.m.r s } }).m.c.at',.int .u64 ({ v with m:={ v.m with r:=rU v.m.r s } }).m.b.best,.int .u64 ({ v with m:={ v.m with r:=rU v.m.r s } }).m.b.at',.bool ({ v with m:={ v.m with r:=rU v.m.r s } }).m.b.on,.bool ({ v with m:={ v.m with r:=rU v.m.r s } }).set,.bool ({ v with m:={ v.m with r:=rU v.m.r s } }).m.b.rd,.int .u64 ({ v with m:={ v.m with r:=rU v.m.r s } }).till,.bool ({ v with m:={ v.m with r:=rU v.m.r s } }).m.q.use,.bool ({ v with m:={ v.m with r:=rU v.m.r s } }).m.q.mea,.int .u64 ({ v with m:={ v.m with r:=rU v.m.r s } }).m.q.bw,.int .i64 ({ v with m:={ v.m with r:=rU v.m.r s } }).m.q.n,.int .u64 ({ v with m:={ v.m with r:=rU v.m.r s } }).m.q.lost,.int .u64 ({ v with m:={ v.m with r:=rU v.m.r s } }).m.q.t0,.int .u64 ({ v with m:={ v.m with r:=rU v.m.r s } }).m.q.d0,.int .u64 ({ v with m:={ v.m with r:=rU v.m.r s } }).m.q.l0,.int .i64 ({ v with m:={ v.m with r:=rU v.m.r s } }).m.mode,.int .u64 ({ v with m:={ v.m with r:=rU v.m.r s } }).m.rate,.int .u64 ({ v with m:={ v.m with r:=rU v.m.r s } }).m.win,.int .u64 ({ v with m:={ v.m with r:=rU v.m.r s } }).g,.bool ({ v with m:={ v.m with r:=rU v.m.r s } }).m.rec',.bool ({ v with m:={ v.m with r:=rU v.m.r s } }).m.first,.int .u64 ({ v with m:={ v.m with r:=rU v.m.r s } }).m.til,.int .u64 ({ v with m:={ v.m with r:=rU v.m.r s } }).m.sav]) (by simp [rU,e])).fin
theorem rpipe_tri (b nw:Nat) (v:Rm) (hv:OkP v.m.p) (st li:Bool) (bw:Int):Tri Tryz.prog N_canterref08_Pipe_Update [.lf (.ptr (some ⟨b,4⟩)),.lf (.bool st),.lf (.bool li),.lf (.int .u64 bw)] [.lf .bool] (blk b [.int .u64 v.m.mss,.ptr (some ⟨nw,0⟩),.int .u64 v.m.r.n,.int .u64 v.m.r.nx,.int .u64 v.m.p.best,.int .i64 v.m.p.n,.bool v.m.p.full,.int .i64 v.m.c.ph,.int .u64 v.m.c.at',.int .u64 v.m.b.best,.int .u64 v.m.b.at',.bool v.m.b.on,.bool v.set,.bool v.m.b.rd,.int .u64 v.till,.bool v.m.q.use,.bool v.m.q.mea,.int .u64 v.m.q.bw,.int .i64 v.m.q.n,.int .u64 v.m.q.lost,.int .u64 v.m.q.t0,.int .u64 v.m.q.d0,.int .u64 v.m.q.l0,.int .i64 v.m.mode,.int .u64 v.m.rate,.int .u64 v.m.win,.int .u64 v.g,.bool v.m.rec',.bool v.m.first,.int .u64 v.m.til,.int .u64 v.m.sav]) (fun _=>blk b [.int .u64 ({ v with m:={ v.m with p:=pU v.m.p st li bw } }).m.mss,.ptr (some ⟨nw,0⟩),.int .u64 ({ v with m:={ v.m with p:=pU v.m.p st li bw } }).m.r.n,.int .u64 ({ v with m:={ v.m with p:=pU v.m.p st li bw } }).m.r.nx,.int .u64 ({ v with m:={ v.m with p:=pU v.m.p st li bw } }).m.p.best,.int .i64 ({ v with m:={ v.m with p:=pU v.m.p st li bw } }).m.p.n,.bool ({ v with m:={ v.m with p:=pU v.m.p st li bw } }).m.p.full,.int .i64 ({ v with m:={ v.m with p:=pU v.m.p st li bw } }).m.c.ph,.int .u64 ({ v with m:={ v.m with p:=pU v.m.p st li bw } }).m.c.at',.int .u64 ({ v with m:={ v.m with p:=pU v.m.p st li bw } }).m.b.best,.int .u64 ({ v with m:={ v.m with p:=pU v.m.p st li bw } }).m.b.at',.bool ({ v with m:={ v.m with p:=pU v.m.p st li bw } }).m.b.on,.bool ({ v with m:={ v.m with p:=pU v.m.p st li bw } }).set,.bool ({ v with m:={ v.m with p:=pU v.m.p st li bw } }).m.b.rd,.int .u64 ({ v with m:={ v.m with p:=pU v.m.p st li bw } }).till,.bool ({ v with m:={ v.m with p:=pU v.m.p st li bw } }).m.q.use,.bool ({ v with m:={ v.m with p:=pU v.m.p st li bw } }).m.q.mea,.int .u64 ({ v with m:={ v.m with p:=pU v.m.p st li bw } }).m.q.bw,.int .i64 ({ v with m:={ v.m with p:=pU v.m.p st li bw } }).m.q.n,.int .u64 ({ v with m:={ v.m with p:=pU v.m.p st li bw } }).m.q.lost,.int .u64 ({ v with m:={ v.m with p:=pU v.m.p st li bw } }).m.q.t0,.int .u64 ({ v with m:={ v.m with p:=pU v.m.p st li bw } }).m.q.d0,.int .u64 ({ v with m:={ v.m with p:=pU v.m.p st li bw } }).m.q.l0,.int .i64 ({ v with m:={ v.m with p:=pU v.m.p st li bw } }).m.mode,.int .u64 ({ v with m:={ v.m with p:=pU v.m.p st li bw } }).m.rate,.int .u64 ({ v with m:={ v.m with p:=pU v.m.p st li bw } }).m.win,.int .u64 ({ v with m:={ v.m with p:=pU v.m.p st li bw } }).g,.bool ({ v with m:={ v.m with p:=pU v.m.p st li bw } }).m.rec',.bool ({ v with m:={ v.m with p:=pU v.m.p st li bw } }).m.first,.int .u64 ({ v with m:={ v.m with p:=pU v.m.p st li bw } }).m.til,.int .u64 ({ v with m:={ v.m with p:=pU v.m.p st li bw } }).m.sav]) :=
 tri_0 (call_canterref08_Pipe_Update _ _ _ _) fun w0 S R h=>by
  unfold W_canterref08_Pipe_Update
  have h0:=hv.n
  have h1:=hv.full
  repeat' (first
   | (refine w_drw h fun w h=>?_)
   | (refine w_deref ?_)
   | (refine w_ldAll h rfl ?_)
   | (refine w_ld h rfl ?_)
   | (refine w_chkAll h ?_)
   | (refine w_chk h rfl ?_)
   | (refine w_setAll h (by rfl) fun w h=>?_)
   | (refine w_new h fun n w h=>?_)
   | (refine w_leave h fun w h=>?_)
   | (refine w_set h rfl fun w h=>?_;dsimp only [upd,over] at h)
   | (refine w_call (rmd_tri _ _ _ hv.best (U_lit 320) (U_lit 256)) h fun r w h=>?_;obtain ⟨hr,h⟩:=h.purP;(try dsimp only at hr h);try rw [hr])
   | (refine w_ite (fun c=>?_) fun c=>?_)
   | (refine ⟨_,fun _ _ h=>h,?_⟩;dsimp only))
  ·exact (h.blkEq (b:=b) (L':=[.int .u64 ({ v with m:={ v.m with p:=pU v.m.p st li bw } }).m.mss,.ptr (some ⟨nw,0⟩),.int .u64 ({ v with m:={ v.m with p:=pU v.m.p st li bw } }).m.r.n,.int .u64 ({ v with m:={ v.m with p:=pU v.m.p st li bw } }).m.r.nx,.int .u64 ({ v with m:={ v.m with p:=pU v.m.p st li bw } }).m.p.best,.int .i64 ({ v with m:={ v.m with p:=pU v.m.p st li bw } }).m.p.n,.bool ({ v with m:={ v.m with p:=pU v.m.p st li bw } }).m.p.full,.int .i64 ({ v with m:={ v.m with p:=pU v.m.p st li bw } }).m.c.ph,.int .u64 ({ v with m:={ v.m with p:=pU v.m.p st li bw } }).m.c.at',.int .u64 ({ v with m:={ v.m with p:=pU v.m.p st li bw } }).m.b.best,.int .u64 ({ v with m:={ v.m with p:=pU v.m.p st li bw } }).m.b.at',.bool ({ v with m:={ v.m with p:=pU v.m.p st li bw } }).m.b.on,.bool ({ v with m:={ v.m with p:=pU v.m.p st li bw } }).set,.bool ({ v with m:={ v.m with p:=pU v.m.p st li bw } }).m.b.rd,.int .u64 ({ v with m:={ v.m with p:=pU v.m.p st li bw } }).till,.bool ({ v with m:={ v.m with p:=pU v.m.p st li bw } }).m.q.use,.bool ({ v with m:={ v.m with p:=pU v.m.p st li bw } }).m.q.mea,.int .u64 ({ v with m:={ v.m with p:=pU v.m.p st li bw } }).m.q.bw,.int .i64 ({ v with m:={ v.m with p:=pU v.m.p st li bw } }).m.q.n,.int .u64 ({ v with m:={ v.m with p:=pU v.m.p st li bw } }).m.q.lost,.int .u64 ({ v with m:={ v.m with p:=pU v.m.p st li bw } }).m.q.t0,.int .u64 ({ v with m:={ v.m with p:=pU v.m.p st li bw } }).m.q.d0,.int .u64 ({ v with m:={ v.m with p:=pU v.m.p st li bw } }).m.q.l0,.int .i64 ({ v with m:={ v.m with p:=pU v.m.p st li bw } }).m.mode,.int .u64 ({ v with m:={ v.m with p:=pU v.m.p st li bw } }).m.rate,.int .u64 ({ v with m:={ v.m with p:=pU v.m.p st li bw } }).m.win,.int .u64 ({ v with m:={ v.m with p:=pU v.m.p st li bw } }).g,.bool ({ v with m:={ v.m with p:=pU v.m.p st li bw } }).m.rec',.bool ({ v with m:={ v.m with p:=pU v.m.p st li bw } }).m.first,.int .u64 ({ v with m:={ v.m with p:=pU v.m.p st li bw } }).m.til,.int .u64 ({ v with m:={ v.m with p:=pU v.m.p st li bw } }).m.sav]) (by
    have e:(!v.m.p.full && st && !li)=false:=by
     revert c;cases v.m.p.full<;>cases st<;>cases li<;>simp
    simp [pU,e])).fin
  ·have c1:((v.m.p.full || (!st)) || li)=false:=by assumption
   have e:(!v.m.p.full && st && !li)=true:=by
    revert c1;cases v.m.p.full<;>cases st<;>cases li<;>simp
   have c:bw ≥ mdI v.m.p.best 320 256:=of_decide_eq_true c
   exact (h.blkEq (b:=b) (L':=[.int .u64 ({ v with m:={ v.m with p:=pU v.m.p st li bw } }).m.mss,.ptr (some ⟨nw,0⟩),.int .u64 ({ v with m:={ v.m with p:=pU v.m.p st li bw } }).m.r.n,.int .u64 ({ v with m:={ v.m with p:=pU v.m.p st li bw } }).m.r.nx,.int .u64 ({ v with m:={ v.m with p:=pU v.m.p st li bw } }).m.p.best,.int .i64 ({ v with m:={ v.m with p:=pU v.m.p st li bw } }).m.p.n,.bool ({ v with m:={ v.m with p:=pU v.m.p st li bw } }).m.p.full,.int .i64 ({ v with m:={ v.m with p:=pU v.m.p st li bw } }).m.c.ph,.int .u64 ({ v with m:={ v.m with p:=pU v.m.p st li bw } }).m.c.at',.int .u64 ({ v with m:={ v.m with p:=pU v.m.p st li bw } }).m.b.best,.int .u64 ({ v with m:={ v.m with p:=pU v.m.p st li bw } }).m.b.at',.bool ({ v with m:={ v.m with p:=pU v.m.p st li bw } }).m.b.on,.bool ({ v with m:={ v.m with p:=pU v.m.p st li bw } }).set,.bool ({ v with m:={ v.m with p:=pU v.m.p st li bw } }).m.b.rd,.int .u64 ({ v with m:={ v.m with p:=pU v.m.p st li bw } }).till,.bool ({ v with m:={ v.m with p:=pU v.m.p st li bw } }).m.q.use,.bool ({ v with m:={ v.m with p:=pU v.m.p st li bw } }).m.q.mea,.int .u64 ({ v with m:={ v.m with p:=pU v.m.p st li bw } }).m.q.bw,.int .i64 ({ v with m:={ v.m with p:=pU v.m.p st li bw } }).m.q.n,.int .u64 ({ v with m:={ v.m with p:=pU v.m.p st li bw } }).m.q.lost,.int .u64 ({ v with m:={ v.m with p:=pU v.m.p st li bw } }).m.q.t0,.int .u64 ({ v with m:={ v.m with p:=pU v.m.p st li bw } }).m.q.d0,.int .u64 ({ v with m:={ v.m with p:=pU v.m.p st li bw } }).m.q.l0,.int .i64 ({ v with m:={ v.m with p:=pU v.m.p st li bw } }).m.mode,.int .u64 ({ v with m:={ v.m with p:=pU v.m.p st li bw } }).m.rate,.int .u64 ({ v with m:={ v.m with p:=pU v.m.p st li bw } }).m.win,.int .u64 ({ v with m:={ v.m with p:=pU v.m.p st li bw } }).g,.bool ({ v with m:={ v.m with p:=pU v.m.p st li bw } }).m.rec',.bool ({ v with m:={ v.m with p:=pU v.m.p st li bw } }).m.first,.int .u64 ({ v with m:={ v.m with p:=pU v.m.p st li bw } }).m.til,.int .u64 ({ v with m:={ v.m with p:=pU v.m.p st li bw } }).m.sav]) (by simp only [pU,e,if_true,if_pos c])).fin
  ·have c1:((v.m.p.full || (!st)) || li)=false:=by assumption
   have e:(!v.m.p.full && st && !li)=true:=by
    revert c1;cases v.m.p.full<;>cases st<;>cases li<;>simp
   have c:¬ bw ≥ mdI v.m.p.best 320 256:=of_decide_eq_false c
   have hf:v.m.p.full=false:=by
    revert e;cases v.m.p.full<;>simp
   have hn:=h1 hf
   exact (h.blkEq (b:=b) (L':=[.int .u64 ({ v with m:={ v.m with p:=pU v.m.p st li bw } }).m.mss,.ptr (some ⟨nw,0⟩),.int .u64 ({ v with m:={ v.m with p:=pU v.m.p st li bw } }).m.r.n,.int .u64 ({ v with m:={ v.m with p:=pU v.m.p st li bw } }).m.r.nx,.int .u64 ({ v with m:={ v.m with p:=pU v.m.p st li bw } }).m.p.best,.int .i64 ({ v with m:={ v.m with p:=pU v.m.p st li bw } }).m.p.n,.bool ({ v with m:={ v.m with p:=pU v.m.p st li bw } }).m.p.full,.int .i64 ({ v with m:={ v.m with p:=pU v.m.p st li bw } }).m.c.ph,.int .u64 ({ v with m:={ v.m with p:=pU v.m.p st li bw } }).m.c.at',.int .u64 ({ v with m:={ v.m with p:=pU v.m.p st li bw } }).m.b.best,.int .u64 ({ v with m:={ v.m with p:=pU v.m.p st li bw } }).m.b.at',.bool ({ v with m:={ v.m with p:=pU v.m.p st li bw } }).m.b.on,.bool ({ v with m:={ v.m with p:=pU v.m.p st li bw } }).set,.bool ({ v with m:={ v.m with p:=pU v.m.p st li bw } }).m.b.rd,.int .u64 ({ v with m:={ v.m with p:=pU v.m.p st li bw } }).till,.bool ({ v with m:={ v.m with p:=pU v.m.p st li bw } }).m.q.use,.bool ({ v with m:={ v.m with p:=pU v.m.p st li bw } }).m.q.mea,.int .u64 ({ v with m:={ v.m with p:=pU v.m.p st li bw } }).m.q.bw,.int .i64 ({ v with m:={ v.m with p:=pU v.m.p st li bw } }).m.q.n,.int .u64 ({ v with m:={ v.m with p:=pU v.m.p st li bw } }).m.q.lost,.int .u64 ({ v with m:={ v.m with p:=pU v.m.p st li bw } }).m.q.t0,.int .u64 ({ v with m:={ v.m with p:=pU v.m.p st li bw } }).m.q.d0,.int .u64 ({ v with m:={ v.m with p:=pU v.m.p st li bw } }).m.q.l0,.int .i64 ({ v with m:={ v.m with p:=pU v.m.p st li bw } }).m.mode,.int .u64 ({ v with m:={ v.m with p:=pU v.m.p st li bw } }).m.rate,.int .u64 ({ v with m:={ v.m with p:=pU v.m.p st li bw } }).m.win,.int .u64 ({ v with m:={ v.m with p:=pU v.m.p st li bw } }).g,.bool ({ v with m:={ v.m with p:=pU v.m.p st li bw } }).m.rec',.bool ({ v with m:={ v.m with p:=pU v.m.p st li bw } }).m.first,.int .u64 ({ v with m:={ v.m with p:=pU v.m.p st li bw } }).m.til,.int .u64 ({ v with m:={ v.m with p:=pU v.m.p st li bw } }).m.sav]) (by
    have e3:IntKind.i64.wrap (v.m.p.n+1)=v.m.p.n+1:=wi (by omega) (by omega)
    have e4:decide (v.m.p.n+1 ≥ 3)=decide (v.m.p.n+1=3):=by rw [Bool.eq_iff_iff];simp;omega
    simp only [pU,e,if_true,if_neg c,e3,e4])).fin
theorem rcst_tri (b nw:Nat) (v:Rm) (now ph:Int) (hp:0≤ph∧ph < 100):Tri Tryz.prog N_canterref08_Cycle_Start [.lf (.ptr (some ⟨b,7⟩)),.lf (.int .u64 now),.lf (.int .i64 ph)] [] (blk b [.int .u64 v.m.mss,.ptr (some ⟨nw,0⟩),.int .u64 v.m.r.n,.int .u64 v.m.r.nx,.int .u64 v.m.p.best,.int .i64 v.m.p.n,.bool v.m.p.full,.int .i64 v.m.c.ph,.int .u64 v.m.c.at',.int .u64 v.m.b.best,.int .u64 v.m.b.at',.bool v.m.b.on,.bool v.set,.bool v.m.b.rd,.int .u64 v.till,.bool v.m.q.use,.bool v.m.q.mea,.int .u64 v.m.q.bw,.int .i64 v.m.q.n,.int .u64 v.m.q.lost,.int .u64 v.m.q.t0,.int .u64 v.m.q.d0,.int .u64 v.m.q.l0,.int .i64 v.m.mode,.int .u64 v.m.rate,.int .u64 v.m.win,.int .u64 v.g,.bool v.m.rec',.bool v.m.first,.int .u64 v.m.til,.int .u64 v.m.sav]) (fun _=>blk b [.int .u64 ({ v with m:={ v.m with c:=cSt now ph } }).m.mss,.ptr (some ⟨nw,0⟩),.int .u64 ({ v with m:={ v.m with c:=cSt now ph } }).m.r.n,.int .u64 ({ v with m:={ v.m with c:=cSt now ph } }).m.r.nx,.int .u64 ({ v with m:={ v.m with c:=cSt now ph } }).m.p.best,.int .i64 ({ v with m:={ v.m with c:=cSt now ph } }).m.p.n,.bool ({ v with m:={ v.m with c:=cSt now ph } }).m.p.full,.int .i64 ({ v with m:={ v.m with c:=cSt now ph } }).m.c.ph,.int .u64 ({ v with m:={ v.m with c:=cSt now ph } }).m.c.at',.int .u64 ({ v with m:={ v.m with c:=cSt now ph } }).m.b.best,.int .u64 ({ v with m:={ v.m with c:=cSt now ph } }).m.b.at',.bool ({ v with m:={ v.m with c:=cSt now ph } }).m.b.on,.bool ({ v with m:={ v.m with c:=cSt now ph } }).set,.bool ({ v with m:={ v.m with c:=cSt now ph } }).m.b.rd,.int .u64 ({ v with m:={ v.m with c:=cSt now ph } }).till,.bool ({ v with m:={ v.m with c:=cSt now ph } }).m.q.use,.bool ({ v with m:={ v.m with c:=cSt now ph } }).m.q.mea,.int .u64 ({ v with m:={ v.m with c:=cSt now ph } }).m.q.bw,.int .i64 ({ v with m:={ v.m with c:=cSt now ph } }).m.q.n,.int .u64 ({ v with m:={ v.m with c:=cSt now ph } }).m.q.lost,.int .u64 ({ v with m:={ v.m with c:=cSt now ph } }).m.q.t0,.int .u64 ({ v with m:={ v.m with c:=cSt now ph } }).m.q.d0,.int .u64 ({ v with m:={ v.m with c:=cSt now ph } }).m.q.l0,.int .i64 ({ v with m:={ v.m with c:=cSt now ph } }).m.mode,.int .u64 ({ v with m:={ v.m with c:=cSt now ph } }).m.rate,.int .u64 ({ v with m:={ v.m with c:=cSt now ph } }).m.win,.int .u64 ({ v with m:={ v.m with c:=cSt now ph } }).g,.bool ({ v with m:={ v.m with c:=cSt now ph } }).m.rec',.bool ({ v with m:={ v.m with c:=cSt now ph } }).m.first,.int .u64 ({ v with m:={ v.m with c:=cSt now ph } }).m.til,.int .u64 ({ v with m:={ v.m with c:=cSt now ph } }).m.sav]) :=
 tri_0 (call_canterref08_Cycle_Start _ _ _) fun w0 S R h=>by
  unfold W_canterref08_Cycle_Start
  have e:ph.tmod 8=ph % 8:=Int.tmod_eq_emod_of_nonneg hp.1
  rw [e]
  repeat' (first
   | (refine w_drw h fun w h=>?_)
   | (refine w_deref ?_)
   | (refine w_ldAll h rfl ?_)
   | (refine w_ld h rfl ?_)
   | (refine w_chkAll h ?_)
   | (refine w_chk h rfl ?_)
   | (refine w_setAll h (by rfl) fun w h=>?_)
   | (refine w_new h fun n w h=>?_)
   | (refine w_leave h fun w h=>?_)
   | (refine w_set h rfl fun w h=>?_;dsimp only [upd,over] at h)
   | (refine w_ite (fun c=>?_) fun c=>?_)
   | (refine ⟨_,fun _ _ h=>h,?_⟩;dsimp only))
  ·exfalso
   have c:ph % 8 < 0:=of_decide_eq_true c
   omega
  ·exact (h.blkEq (b:=b) (L':=[.int .u64 ({ v with m:={ v.m with c:=cSt now ph } }).m.mss,.ptr (some ⟨nw,0⟩),.int .u64 ({ v with m:={ v.m with c:=cSt now ph } }).m.r.n,.int .u64 ({ v with m:={ v.m with c:=cSt now ph } }).m.r.nx,.int .u64 ({ v with m:={ v.m with c:=cSt now ph } }).m.p.best,.int .i64 ({ v with m:={ v.m with c:=cSt now ph } }).m.p.n,.bool ({ v with m:={ v.m with c:=cSt now ph } }).m.p.full,.int .i64 ({ v with m:={ v.m with c:=cSt now ph } }).m.c.ph,.int .u64 ({ v with m:={ v.m with c:=cSt now ph } }).m.c.at',.int .u64 ({ v with m:={ v.m with c:=cSt now ph } }).m.b.best,.int .u64 ({ v with m:={ v.m with c:=cSt now ph } }).m.b.at',.bool ({ v with m:={ v.m with c:=cSt now ph } }).m.b.on,.bool ({ v with m:={ v.m with c:=cSt now ph } }).set,.bool ({ v with m:={ v.m with c:=cSt now ph } }).m.b.rd,.int .u64 ({ v with m:={ v.m with c:=cSt now ph } }).till,.bool ({ v with m:={ v.m with c:=cSt now ph } }).m.q.use,.bool ({ v with m:={ v.m with c:=cSt now ph } }).m.q.mea,.int .u64 ({ v with m:={ v.m with c:=cSt now ph } }).m.q.bw,.int .i64 ({ v with m:={ v.m with c:=cSt now ph } }).m.q.n,.int .u64 ({ v with m:={ v.m with c:=cSt now ph } }).m.q.lost,.int .u64 ({ v with m:={ v.m with c:=cSt now ph } }).m.q.t0,.int .u64 ({ v with m:={ v.m with c:=cSt now ph } }).m.q.d0,.int .u64 ({ v with m:={ v.m with c:=cSt now ph } }).m.q.l0,.int .i64 ({ v with m:={ v.m with c:=cSt now ph } }).m.mode,.int .u64 ({ v with m:={ v.m with c:=cSt now ph } }).m.rate,.int .u64 ({ v with m:={ v.m with c:=cSt now ph } }).m.win,.int .u64 ({ v with m:={ v.m with c:=cSt now ph } }).g,.bool ({ v with m:={ v.m with c:=cSt now ph } }).m.rec',.bool ({ v with m:={ v.m with c:=cSt now ph } }).m.first,.int .u64 ({ v with m:={ v.m with c:=cSt now ph } }).m.til,.int .u64 ({ v with m:={ v.m with c:=cSt now ph } }).m.sav]) (by simp only [cSt])).fin
theorem rcg_tri (b nw:Nat) (v:Rm):Tri Tryz.prog N_canterref08_Cycle_Gain [.lf (.ptr (some ⟨b,7⟩))] [.lf (.int .u64)] (blk b [.int .u64 v.m.mss,.ptr (some ⟨nw,0⟩),.int .u64 v.m.r.n,.int .u64 v.m.r.nx,.int .u64 v.m.p.best,.int .i64 v.m.p.n,.bool v.m.p.full,.int .i64 v.m.c.ph,.int .u64 v.m.c.at',.int .u64 v.m.b.best,.int .u64 v.m.b.at',.bool v.m.b.on,.bool v.set,.bool v.m.b.rd,.int .u64 v.till,.bool v.m.q.use,.bool v.m.q.mea,.int .u64 v.m.q.bw,.int .i64 v.m.q.n,.int .u64 v.m.q.lost,.int .u64 v.m.q.t0,.int .u64 v.m.q.d0,.int .u64 v.m.q.l0,.int .i64 v.m.mode,.int .u64 v.m.rate,.int .u64 v.m.win,.int .u64 v.g,.bool v.m.rec',.bool v.m.first,.int .u64 v.m.til,.int .u64 v.m.sav]) (fun r=>pur (r=cG v.m.c) (blk b [.int .u64 v.m.mss,.ptr (some ⟨nw,0⟩),.int .u64 v.m.r.n,.int .u64 v.m.r.nx,.int .u64 v.m.p.best,.int .i64 v.m.p.n,.bool v.m.p.full,.int .i64 v.m.c.ph,.int .u64 v.m.c.at',.int .u64 v.m.b.best,.int .u64 v.m.b.at',.bool v.m.b.on,.bool v.set,.bool v.m.b.rd,.int .u64 v.till,.bool v.m.q.use,.bool v.m.q.mea,.int .u64 v.m.q.bw,.int .i64 v.m.q.n,.int .u64 v.m.q.lost,.int .u64 v.m.q.t0,.int .u64 v.m.q.d0,.int .u64 v.m.q.l0,.int .i64 v.m.mode,.int .u64 v.m.rate,.int .u64 v.m.win,.int .u64 v.g,.bool v.m.rec',.bool v.m.first,.int .u64 v.m.til,.int .u64 v.m.sav])) :=
 tri_0 (call_canterref08_Cycle_Gain _) fun w0 S R h=>by
  unfold W_canterref08_Cycle_Gain
  repeat' (first
   | (refine w_drw h fun w h=>?_)
   | (refine w_deref ?_)
   | (refine w_ldAll h rfl ?_)
   | (refine w_ld h rfl ?_)
   | (refine w_chkAll h ?_)
   | (refine w_chk h rfl ?_)
   | (refine w_setAll h (by rfl) fun w h=>?_)
   | (refine w_new h fun n w h=>?_)
   | (refine w_leave h fun w h=>?_)
   | (refine w_set h rfl fun w h=>?_;dsimp only [upd,over] at h)
   | (refine w_ite (fun c=>?_) fun c=>?_)
   | (refine ⟨_,fun _ _ h=>h,?_⟩;dsimp only))
  all_goals exact Own.retP (by simp_all [cG]) h.fin
theorem rcupd_tri (b nw:Nat) (v:Rm) (hv:OkC v.m.c) (now rtt lost fl up one:Int) (hn:U now):Tri Tryz.prog N_canterref08_Cycle_Update [.lf (.ptr (some ⟨b,7⟩)),.lf (.int .u64 now),.lf (.int .u64 rtt),.lf (.int .u64 lost),.lf (.int .u64 fl),.lf (.int .u64 up),.lf (.int .u64 one)] [.lf .bool] (blk b [.int .u64 v.m.mss,.ptr (some ⟨nw,0⟩),.int .u64 v.m.r.n,.int .u64 v.m.r.nx,.int .u64 v.m.p.best,.int .i64 v.m.p.n,.bool v.m.p.full,.int .i64 v.m.c.ph,.int .u64 v.m.c.at',.int .u64 v.m.b.best,.int .u64 v.m.b.at',.bool v.m.b.on,.bool v.set,.bool v.m.b.rd,.int .u64 v.till,.bool v.m.q.use,.bool v.m.q.mea,.int .u64 v.m.q.bw,.int .i64 v.m.q.n,.int .u64 v.m.q.lost,.int .u64 v.m.q.t0,.int .u64 v.m.q.d0,.int .u64 v.m.q.l0,.int .i64 v.m.mode,.int .u64 v.m.rate,.int .u64 v.m.win,.int .u64 v.g,.bool v.m.rec',.bool v.m.first,.int .u64 v.m.til,.int .u64 v.m.sav]) (fun _=>blk b [.int .u64 ({ v with m:={ v.m with c:=cU v.m.c now rtt lost fl up one } }).m.mss,.ptr (some ⟨nw,0⟩),.int .u64 ({ v with m:={ v.m with c:=cU v.m.c now rtt lost fl up one } }).m.r.n,.int .u64 ({ v with m:={ v.m with c:=cU v.m.c now rtt lost fl up one } }).m.r.nx,.int .u64 ({ v with m:={ v.m with c:=cU v.m.c now rtt lost fl up one } }).m.p.best,.int .i64 ({ v with m:={ v.m with c:=cU v.m.c now rtt lost fl up one } }).m.p.n,.bool ({ v with m:={ v.m with c:=cU v.m.c now rtt lost fl up one } }).m.p.full,.int .i64 ({ v with m:={ v.m with c:=cU v.m.c now rtt lost fl up one } }).m.c.ph,.int .u64 ({ v with m:={ v.m with c:=cU v.m.c now rtt lost fl up one } }).m.c.at',.int .u64 ({ v with m:={ v.m with c:=cU v.m.c now rtt lost fl up one } }).m.b.best,.int .u64 ({ v with m:={ v.m with c:=cU v.m.c now rtt lost fl up one } }).m.b.at',.bool ({ v with m:={ v.m with c:=cU v.m.c now rtt lost fl up one } }).m.b.on,.bool ({ v with m:={ v.m with c:=cU v.m.c now rtt lost fl up one } }).set,.bool ({ v with m:={ v.m with c:=cU v.m.c now rtt lost fl up one } }).m.b.rd,.int .u64 ({ v with m:={ v.m with c:=cU v.m.c now rtt lost fl up one } }).till,.bool ({ v with m:={ v.m with c:=cU v.m.c now rtt lost fl up one } }).m.q.use,.bool ({ v with m:={ v.m with c:=cU v.m.c now rtt lost fl up one } }).m.q.mea,.int .u64 ({ v with m:={ v.m with c:=cU v.m.c now rtt lost fl up one } }).m.q.bw,.int .i64 ({ v with m:={ v.m with c:=cU v.m.c now rtt lost fl up one } }).m.q.n,.int .u64 ({ v with m:={ v.m with c:=cU v.m.c now rtt lost fl up one } }).m.q.lost,.int .u64 ({ v with m:={ v.m with c:=cU v.m.c now rtt lost fl up one } }).m.q.t0,.int .u64 ({ v with m:={ v.m with c:=cU v.m.c now rtt lost fl up one } }).m.q.d0,.int .u64 ({ v with m:={ v.m with c:=cU v.m.c now rtt lost fl up one } }).m.q.l0,.int .i64 ({ v with m:={ v.m with c:=cU v.m.c now rtt lost fl up one } }).m.mode,.int .u64 ({ v with m:={ v.m with c:=cU v.m.c now rtt lost fl up one } }).m.rate,.int .u64 ({ v with m:={ v.m with c:=cU v.m.c now rtt lost fl up one } }).m.win,.int .u64 ({ v with m:={ v.m with c:=cU v.m.c now rtt lost fl up one } }).g,.bool ({ v with m:={ v.m with c:=cU v.m.c now rtt lost fl up one } }).m.rec',.bool ({ v with m:={ v.m with c:=cU v.m.c now rtt lost fl up one } }).m.first,.int .u64 ({ v with m:={ v.m with c:=cU v.m.c now rtt lost fl up one } }).m.til,.int .u64 ({ v with m:={ v.m with c:=cU v.m.c now rtt lost fl up one } }).m.sav]) :=
 tri_0 (call_canterref08_Cycle_Update _ _ _ _ _ _ _) fun w0 S R h=>by
  unfold W_canterref08_Cycle_Update
  have hph:=hv.ph
  refine w_deref (w_ld h rfl (w_call (rsub_tri now v.m.c.at' hn hv.at') h fun r w h=>?_))
  obtain ⟨hr,h⟩:=h.purP
  refine w_join h (fun _=>blk b [.int .u64 v.m.mss,.ptr (some ⟨nw,0⟩),.int .u64 v.m.r.n,.int .u64 v.m.r.nx,.int .u64 v.m.p.best,.int .i64 v.m.p.n,.bool v.m.p.full,.int .i64 v.m.c.ph,.int .u64 v.m.c.at',.int .u64 v.m.b.best,.int .u64 v.m.b.at',.bool v.m.b.on,.bool v.set,.bool v.m.b.rd,.int .u64 v.till,.bool v.m.q.use,.bool v.m.q.mea,.int .u64 v.m.q.bw,.int .i64 v.m.q.n,.int .u64 v.m.q.lost,.int .u64 v.m.q.t0,.int .u64 v.m.q.d0,.int .u64 v.m.q.l0,.int .i64 v.m.mode,.int .u64 v.m.rate,.int .u64 v.m.win,.int .u64 v.g,.bool v.m.rec',.bool v.m.first,.int .u64 v.m.til,.int .u64 v.m.sav]) (fun y:Bool=>y=cB v.m.c now rtt lost fl up one) (fun (y:Bool) w hy h=>?_) ?_
  ·refine w_ite (fun c=>?_) fun c=>?_
   ·refine w_deref (w_ld h rfl ?_)
    rw [wi (n:=v.m.c.ph+1) (by omega) (by omega)]
    refine w_call (rcst_tri b nw v now (v.m.c.ph+1) (by omega)) h fun _ w h=>?_
    have e:cU v.m.c now rtt lost fl up one=cSt now (v.m.c.ph+1):=by unfold cU;rw [← hy,c];rfl
    rw [e];exact h.keep
   ·have e:cU v.m.c now rtt lost fl up one=v.m.c:=by unfold cU;rw [← hy,c];rfl
    rw [e];exact h
  ·repeat' (first
    | (refine w_drw h fun w h=>?_)
    | (refine w_deref ?_)
    | (refine w_ldAll h rfl ?_)
    | (refine w_ld h rfl ?_)
    | (refine w_chkAll h ?_)
    | (refine w_chk h rfl ?_)
    | (refine w_setAll h (by rfl) fun w h=>?_)
    | (refine w_new h fun n w h=>?_)
    | (refine w_leave h fun w h=>?_)
    | (refine w_set h rfl fun w h=>?_;dsimp only [upd,over] at h)
    | (refine w_ite (fun c=>?_) fun c=>?_)
    | (refine ⟨_,fun _ _ h=>h,?_⟩;dsimp only))
   all_goals refine ⟨?_,h.fin⟩
   ·simp only [beq_iff_eq] at c;simp [cB,c,hr]
   ·rename_i c1;simp only [beq_iff_eq] at c;simp [cB,c,hr]
   ·rename_i c1
    simp only [beq_eq_false_iff_ne,ne_eq] at c c1
    simp only [cB,if_neg c,if_neg c1,hr]
def Rel (v:Rm):Prop:=v.m.b.on=true→v.set=decide (v.m.b.til≠0)∧(v.set=true→v.till=v.m.b.til)
abbrev wB (v:Rm) (x:Pb):Rm:={ v with m:={ v.m with b:=x } }
theorem rprobe_tri (b nw:Nat) (v:Rm) (hv:OkB v.m.b) (hR:Rel v) (now rtt fl floor:Int) (st:Bool) (hn:U now) (hrt:U rtt):Tri Tryz.prog N_canterref08_Probe_Update [.lf (.ptr (some ⟨b,9⟩)),.lf (.int .u64 now),.lf (.int .u64 rtt),.lf (.bool st),.lf (.int .u64 fl),.lf (.int .u64 floor)] [.lf .bool,.lf .bool] (blk b [.int .u64 v.m.mss,.ptr (some ⟨nw,0⟩),.int .u64 v.m.r.n,.int .u64 v.m.r.nx,.int .u64 v.m.p.best,.int .i64 v.m.p.n,.bool v.m.p.full,.int .i64 v.m.c.ph,.int .u64 v.m.c.at',.int .u64 v.m.b.best,.int .u64 v.m.b.at',.bool v.m.b.on,.bool v.set,.bool v.m.b.rd,.int .u64 v.till,.bool v.m.q.use,.bool v.m.q.mea,.int .u64 v.m.q.bw,.int .i64 v.m.q.n,.int .u64 v.m.q.lost,.int .u64 v.m.q.t0,.int .u64 v.m.q.d0,.int .u64 v.m.q.l0,.int .i64 v.m.mode,.int .u64 v.m.rate,.int .u64 v.m.win,.int .u64 v.g,.bool v.m.rec',.bool v.m.first,.int .u64 v.m.til,.int .u64 v.m.sav])
  (fun r=>exq (fun u:Rm=>r=(bU v.m.b now rtt st fl floor).1∧u.m={ v.m with b:=(bU v.m.b now rtt st fl floor).2 }∧Rel u∧u.g=v.g) (fun u=>blk b [.int .u64 u.m.mss,.ptr (some ⟨nw,0⟩),.int .u64 u.m.r.n,.int .u64 u.m.r.nx,.int .u64 u.m.p.best,.int .i64 u.m.p.n,.bool u.m.p.full,.int .i64 u.m.c.ph,.int .u64 u.m.c.at',.int .u64 u.m.b.best,.int .u64 u.m.b.at',.bool u.m.b.on,.bool u.set,.bool u.m.b.rd,.int .u64 u.till,.bool u.m.q.use,.bool u.m.q.mea,.int .u64 u.m.q.bw,.int .i64 u.m.q.n,.int .u64 u.m.q.lost,.int .u64 u.m.q.t0,.int .u64 u.m.q.d0,.int .u64 u.m.q.l0,.int .i64 u.m.mode,.int .u64 u.m.rate,.int .u64 u.m.win,.int .u64 u.g,.bool u.m.rec',.bool u.m.first,.int .u64 u.m.til,.int .u64 u.m.sav])) :=
 tri_0 (call_canterref08_Probe_Update _ _ _ _ _ _) fun w0 S R h=>by
  unfold W_canterref08_Probe_Update
  refine w_join h (fun _=>blk b [.int .u64 v.m.mss,.ptr (some ⟨nw,0⟩),.int .u64 v.m.r.n,.int .u64 v.m.r.nx,.int .u64 v.m.p.best,.int .i64 v.m.p.n,.bool v.m.p.full,.int .i64 v.m.c.ph,.int .u64 v.m.c.at',.int .u64 v.m.b.best,.int .u64 v.m.b.at',.bool v.m.b.on,.bool v.set,.bool v.m.b.rd,.int .u64 v.till,.bool v.m.q.use,.bool v.m.q.mea,.int .u64 v.m.q.bw,.int .i64 v.m.q.n,.int .u64 v.m.q.lost,.int .u64 v.m.q.t0,.int .u64 v.m.q.d0,.int .u64 v.m.q.l0,.int .i64 v.m.mode,.int .u64 v.m.rate,.int .u64 v.m.win,.int .u64 v.g,.bool v.m.rec',.bool v.m.first,.int .u64 v.m.til,.int .u64 v.m.sav]) (fun y:Bool=>y=bOld v.m.b now) (fun (y:Bool) w hy h=>?_) ?_
  ·rw [hy]
   refine w_join h (fun _=>blk b [.int .u64 (wB v (bNew v.m.b now rtt)).m.mss,.ptr (some ⟨nw,0⟩),.int .u64 (wB v (bNew v.m.b now rtt)).m.r.n,.int .u64 (wB v (bNew v.m.b now rtt)).m.r.nx,.int .u64 (wB v (bNew v.m.b now rtt)).m.p.best,.int .i64 (wB v (bNew v.m.b now rtt)).m.p.n,.bool (wB v (bNew v.m.b now rtt)).m.p.full,.int .i64 (wB v (bNew v.m.b now rtt)).m.c.ph,.int .u64 (wB v (bNew v.m.b now rtt)).m.c.at',.int .u64 (wB v (bNew v.m.b now rtt)).m.b.best,.int .u64 (wB v (bNew v.m.b now rtt)).m.b.at',.bool (wB v (bNew v.m.b now rtt)).m.b.on,.bool (wB v (bNew v.m.b now rtt)).set,.bool (wB v (bNew v.m.b now rtt)).m.b.rd,.int .u64 (wB v (bNew v.m.b now rtt)).till,.bool (wB v (bNew v.m.b now rtt)).m.q.use,.bool (wB v (bNew v.m.b now rtt)).m.q.mea,.int .u64 (wB v (bNew v.m.b now rtt)).m.q.bw,.int .i64 (wB v (bNew v.m.b now rtt)).m.q.n,.int .u64 (wB v (bNew v.m.b now rtt)).m.q.lost,.int .u64 (wB v (bNew v.m.b now rtt)).m.q.t0,.int .u64 (wB v (bNew v.m.b now rtt)).m.q.d0,.int .u64 (wB v (bNew v.m.b now rtt)).m.q.l0,.int .i64 (wB v (bNew v.m.b now rtt)).m.mode,.int .u64 (wB v (bNew v.m.b now rtt)).m.rate,.int .u64 (wB v (bNew v.m.b now rtt)).m.win,.int .u64 (wB v (bNew v.m.b now rtt)).g,.bool (wB v (bNew v.m.b now rtt)).m.rec',.bool (wB v (bNew v.m.b now rtt)).m.first,.int .u64 (wB v (bNew v.m.b now rtt)).m.til,.int .u64 (wB v (bNew v.m.b now rtt)).m.sav]) (fun _=>True) (fun _ w _ h=>?_) ?_
   ·have eon:(bNew v.m.b now rtt).on=v.m.b.on:=by unfold bNew;split<;>rfl
    have etil:(bNew v.m.b now rtt).til=v.m.b.til:=by unfold bNew;split<;>rfl
    have hR2:Rel (wB v (bNew v.m.b now rtt)):=fun hh=>by
     have:=hR (by rw [← eon];exact hh)
     simpa [etil] using this
    unfold bU
    refine w_join h (fun _=>blk b [.int .u64 (wB v (bNew v.m.b now rtt)).m.mss,.ptr (some ⟨nw,0⟩),.int .u64 (wB v (bNew v.m.b now rtt)).m.r.n,.int .u64 (wB v (bNew v.m.b now rtt)).m.r.nx,.int .u64 (wB v (bNew v.m.b now rtt)).m.p.best,.int .i64 (wB v (bNew v.m.b now rtt)).m.p.n,.bool (wB v (bNew v.m.b now rtt)).m.p.full,.int .i64 (wB v (bNew v.m.b now rtt)).m.c.ph,.int .u64 (wB v (bNew v.m.b now rtt)).m.c.at',.int .u64 (wB v (bNew v.m.b now rtt)).m.b.best,.int .u64 (wB v (bNew v.m.b now rtt)).m.b.at',.bool (wB v (bNew v.m.b now rtt)).m.b.on,.bool (wB v (bNew v.m.b now rtt)).set,.bool (wB v (bNew v.m.b now rtt)).m.b.rd,.int .u64 (wB v (bNew v.m.b now rtt)).till,.bool (wB v (bNew v.m.b now rtt)).m.q.use,.bool (wB v (bNew v.m.b now rtt)).m.q.mea,.int .u64 (wB v (bNew v.m.b now rtt)).m.q.bw,.int .i64 (wB v (bNew v.m.b now rtt)).m.q.n,.int .u64 (wB v (bNew v.m.b now rtt)).m.q.lost,.int .u64 (wB v (bNew v.m.b now rtt)).m.q.t0,.int .u64 (wB v (bNew v.m.b now rtt)).m.q.d0,.int .u64 (wB v (bNew v.m.b now rtt)).m.q.l0,.int .i64 (wB v (bNew v.m.b now rtt)).m.mode,.int .u64 (wB v (bNew v.m.b now rtt)).m.rate,.int .u64 (wB v (bNew v.m.b now rtt)).m.win,.int .u64 (wB v (bNew v.m.b now rtt)).g,.bool (wB v (bNew v.m.b now rtt)).m.rec',.bool (wB v (bNew v.m.b now rtt)).m.first,.int .u64 (wB v (bNew v.m.b now rtt)).m.til,.int .u64 (wB v (bNew v.m.b now rtt)).m.sav]) (fun y:Bool=>y=(bOld v.m.b now && !v.m.b.on)) (fun (y:Bool) w hy h=>?_) ?_
    ·rw [hy]
     generalize bNew v.m.b now rtt=x at *
     refine w_ite (fun c=>?_) fun c=>?_
     ·rw [if_pos c]
      repeat' (first
       | (refine w_drw h fun w h=>?_)
       | (refine w_deref ?_)
       | (refine w_ldAll h rfl ?_)
       | (refine w_ld h rfl ?_)
       | (refine w_chkAll h ?_)
       | (refine w_chk h rfl ?_)
       | (refine w_setAll h (by rfl) fun w h=>?_)
       | (refine w_new h fun n w h=>?_)
       | (refine w_leave h fun w h=>?_)
       | (refine w_set h rfl fun w h=>?_;dsimp only [upd,over] at h))
      exact (Own.inq (h.blkEq (b:=b) (L':=[.int .u64 ({ wB v { x with on:=true,til:=0,rd:=false } with set:=false }).m.mss,.ptr (some ⟨nw,0⟩),.int .u64 ({ wB v { x with on:=true,til:=0,rd:=false } with set:=false }).m.r.n,.int .u64 ({ wB v { x with on:=true,til:=0,rd:=false } with set:=false }).m.r.nx,.int .u64 ({ wB v { x with on:=true,til:=0,rd:=false } with set:=false }).m.p.best,.int .i64 ({ wB v { x with on:=true,til:=0,rd:=false } with set:=false }).m.p.n,.bool ({ wB v { x with on:=true,til:=0,rd:=false } with set:=false }).m.p.full,.int .i64 ({ wB v { x with on:=true,til:=0,rd:=false } with set:=false }).m.c.ph,.int .u64 ({ wB v { x with on:=true,til:=0,rd:=false } with set:=false }).m.c.at',.int .u64 ({ wB v { x with on:=true,til:=0,rd:=false } with set:=false }).m.b.best,.int .u64 ({ wB v { x with on:=true,til:=0,rd:=false } with set:=false }).m.b.at',.bool ({ wB v { x with on:=true,til:=0,rd:=false } with set:=false }).m.b.on,.bool ({ wB v { x with on:=true,til:=0,rd:=false } with set:=false }).set,.bool ({ wB v { x with on:=true,til:=0,rd:=false } with set:=false }).m.b.rd,.int .u64 ({ wB v { x with on:=true,til:=0,rd:=false } with set:=false }).till,.bool ({ wB v { x with on:=true,til:=0,rd:=false } with set:=false }).m.q.use,.bool ({ wB v { x with on:=true,til:=0,rd:=false } with set:=false }).m.q.mea,.int .u64 ({ wB v { x with on:=true,til:=0,rd:=false } with set:=false }).m.q.bw,.int .i64 ({ wB v { x with on:=true,til:=0,rd:=false } with set:=false }).m.q.n,.int .u64 ({ wB v { x with on:=true,til:=0,rd:=false } with set:=false }).m.q.lost,.int .u64 ({ wB v { x with on:=true,til:=0,rd:=false } with set:=false }).m.q.t0,.int .u64 ({ wB v { x with on:=true,til:=0,rd:=false } with set:=false }).m.q.d0,.int .u64 ({ wB v { x with on:=true,til:=0,rd:=false } with set:=false }).m.q.l0,.int .i64 ({ wB v { x with on:=true,til:=0,rd:=false } with set:=false }).m.mode,.int .u64 ({ wB v { x with on:=true,til:=0,rd:=false } with set:=false }).m.rate,.int .u64 ({ wB v { x with on:=true,til:=0,rd:=false } with set:=false }).m.win,.int .u64 ({ wB v { x with on:=true,til:=0,rd:=false } with set:=false }).g,.bool ({ wB v { x with on:=true,til:=0,rd:=false } with set:=false }).m.rec',.bool ({ wB v { x with on:=true,til:=0,rd:=false } with set:=false }).m.first,.int .u64 ({ wB v { x with on:=true,til:=0,rd:=false } with set:=false }).m.til,.int .u64 ({ wB v { x with on:=true,til:=0,rd:=false } with set:=false }).m.sav]) (by simp)) { wB v { x with on:=true,til:=0,rd:=false } with set:=false } ⟨rfl,rfl,(fun _=>⟨by simp,fun hh=>by cases hh⟩),rfl⟩).keep
     rw [if_neg (by rw [c];simp)]
     refine w_deref (w_ld h rfl ?_)
     refine w_ite (fun c2=>?_) fun c2=>?_
     ·have c2:v.m.b.on=false:=by rw [← eon];simpa using c2
      rw [if_neg (by rw [c2];simp)]
      exact (h.inq (wB v x) ⟨rfl,rfl,hR2,rfl⟩).keep
     have c2:v.m.b.on=true:=by rw [← eon];simpa using c2
     rw [if_pos c2]
     obtain ⟨r1,r2⟩:=hR2 (eon.trans c2)
     refine w_deref (w_ld h rfl ?_)
     unfold bLv
     refine w_ite (fun c3=>?_) fun c3=>?_
     ·have c3:v.set=false:=by simpa using c3
      have e3:x.til=0:=by
       have r1:v.set=decide (x.til≠0):=r1
       rw [c3] at r1;simpa using r1.symm
      rw [if_pos e3]
      refine w_ite (fun c4=>?_) fun c4=>?_
      ·rw [if_pos (of_decide_eq_true c4)]
       repeat' (first
        | (refine w_drw h fun w h=>?_)
        | (refine w_deref ?_)
        | (refine w_ldAll h rfl ?_)
        | (refine w_ld h rfl ?_)
        | (refine w_chkAll h ?_)
        | (refine w_chk h rfl ?_)
        | (refine w_setAll h (by rfl) fun w h=>?_)
        | (refine w_new h fun n w h=>?_)
        | (refine w_leave h fun w h=>?_)
        | (refine w_set h rfl fun w h=>?_;dsimp only [upd,over] at h)
        | (refine w_call (radd_tri now 200000000 hn (U_lit _)) h fun r w h=>?_;obtain ⟨hr,h⟩:=h.purP;(try dsimp only at hr h);try rw [hr]))
       have e4:addI now 200000000≠0:=by
        have:=hn.1
        unfold addI;split<;>omega
       exact (Own.inq (h.blkEq (b:=b) (L':=[.int .u64 ({ wB v { x with til:=addI now 200000000,rd:=false } with set:=true,till:=addI now 200000000 }).m.mss,.ptr (some ⟨nw,0⟩),.int .u64 ({ wB v { x with til:=addI now 200000000,rd:=false } with set:=true,till:=addI now 200000000 }).m.r.n,.int .u64 ({ wB v { x with til:=addI now 200000000,rd:=false } with set:=true,till:=addI now 200000000 }).m.r.nx,.int .u64 ({ wB v { x with til:=addI now 200000000,rd:=false } with set:=true,till:=addI now 200000000 }).m.p.best,.int .i64 ({ wB v { x with til:=addI now 200000000,rd:=false } with set:=true,till:=addI now 200000000 }).m.p.n,.bool ({ wB v { x with til:=addI now 200000000,rd:=false } with set:=true,till:=addI now 200000000 }).m.p.full,.int .i64 ({ wB v { x with til:=addI now 200000000,rd:=false } with set:=true,till:=addI now 200000000 }).m.c.ph,.int .u64 ({ wB v { x with til:=addI now 200000000,rd:=false } with set:=true,till:=addI now 200000000 }).m.c.at',.int .u64 ({ wB v { x with til:=addI now 200000000,rd:=false } with set:=true,till:=addI now 200000000 }).m.b.best,.int .u64 ({ wB v { x with til:=addI now 200000000,rd:=false } with set:=true,till:=addI now 200000000 }).m.b.at',.bool ({ wB v { x with til:=addI now 200000000,rd:=false } with set:=true,till:=addI now 200000000 }).m.b.on,.bool ({ wB v { x with til:=addI now 200000000,rd:=false } with set:=true,till:=addI now 200000000 }).set,.bool ({ wB v { x with til:=addI now 200000000,rd:=false } with set:=true,till:=addI now 200000000 }).m.b.rd,.int .u64 ({ wB v { x with til:=addI now 200000000,rd:=false } with set:=true,till:=addI now 200000000 }).till,.bool ({ wB v { x with til:=addI now 200000000,rd:=false } with set:=true,till:=addI now 200000000 }).m.q.use,.bool ({ wB v { x with til:=addI now 200000000,rd:=false } with set:=true,till:=addI now 200000000 }).m.q.mea,.int .u64 ({ wB v { x with til:=addI now 200000000,rd:=false } with set:=true,till:=addI now 200000000 }).m.q.bw,.int .i64 ({ wB v { x with til:=addI now 200000000,rd:=false } with set:=true,till:=addI now 200000000 }).m.q.n,.int .u64 ({ wB v { x with til:=addI now 200000000,rd:=false } with set:=true,till:=addI now 200000000 }).m.q.lost,.int .u64 ({ wB v { x with til:=addI now 200000000,rd:=false } with set:=true,till:=addI now 200000000 }).m.q.t0,.int .u64 ({ wB v { x with til:=addI now 200000000,rd:=false } with set:=true,till:=addI now 200000000 }).m.q.d0,.int .u64 ({ wB v { x with til:=addI now 200000000,rd:=false } with set:=true,till:=addI now 200000000 }).m.q.l0,.int .i64 ({ wB v { x with til:=addI now 200000000,rd:=false } with set:=true,till:=addI now 200000000 }).m.mode,.int .u64 ({ wB v { x with til:=addI now 200000000,rd:=false } with set:=true,till:=addI now 200000000 }).m.rate,.int .u64 ({ wB v { x with til:=addI now 200000000,rd:=false } with set:=true,till:=addI now 200000000 }).m.win,.int .u64 ({ wB v { x with til:=addI now 200000000,rd:=false } with set:=true,till:=addI now 200000000 }).g,.bool ({ wB v { x with til:=addI now 200000000,rd:=false } with set:=true,till:=addI now 200000000 }).m.rec',.bool ({ wB v { x with til:=addI now 200000000,rd:=false } with set:=true,till:=addI now 200000000 }).m.first,.int .u64 ({ wB v { x with til:=addI now 200000000,rd:=false } with set:=true,till:=addI now 200000000 }).m.til,.int .u64 ({ wB v { x with til:=addI now 200000000,rd:=false } with set:=true,till:=addI now 200000000 }).m.sav]) (by simp)) { wB v { x with til:=addI now 200000000,rd:=false } with set:=true,till:=addI now 200000000 } ⟨rfl,rfl,(fun _=>⟨by simp [e4],fun _=>rfl⟩),rfl⟩).keep
      ·rw [if_neg (of_decide_eq_false c4)]
       exact (h.inq (wB v x) ⟨rfl,rfl,hR2,rfl⟩).keep
     have c3:v.set=true:=by simpa using c3
     have e3:x.til≠0:=by
      have r1:v.set=decide (x.til≠0):=r1
      rw [c3] at r1;simpa using r1.symm
     have e5:v.till=x.til:=r2 c3
     rw [if_neg e3]
     repeat' (first
      | (refine w_drw h fun w h=>?_)
      | (refine w_deref ?_)
      | (refine w_ldAll h rfl ?_)
      | (refine w_ld h rfl ?_)
      | (refine w_chkAll h ?_)
      | (refine w_chk h rfl ?_)
      | (refine w_setAll h (by rfl) fun w h=>?_)
      | (refine w_new h fun n w h=>?_)
      | (refine w_leave h fun w h=>?_)
      | (refine w_set h rfl fun w h=>?_;dsimp only [upd,over] at h))
     refine w_join h (fun _=>blk b [.int .u64 (wB v { x with rd:=x.rd || st }).m.mss,.ptr (some ⟨nw,0⟩),.int .u64 (wB v { x with rd:=x.rd || st }).m.r.n,.int .u64 (wB v { x with rd:=x.rd || st }).m.r.nx,.int .u64 (wB v { x with rd:=x.rd || st }).m.p.best,.int .i64 (wB v { x with rd:=x.rd || st }).m.p.n,.bool (wB v { x with rd:=x.rd || st }).m.p.full,.int .i64 (wB v { x with rd:=x.rd || st }).m.c.ph,.int .u64 (wB v { x with rd:=x.rd || st }).m.c.at',.int .u64 (wB v { x with rd:=x.rd || st }).m.b.best,.int .u64 (wB v { x with rd:=x.rd || st }).m.b.at',.bool (wB v { x with rd:=x.rd || st }).m.b.on,.bool (wB v { x with rd:=x.rd || st }).set,.bool (wB v { x with rd:=x.rd || st }).m.b.rd,.int .u64 (wB v { x with rd:=x.rd || st }).till,.bool (wB v { x with rd:=x.rd || st }).m.q.use,.bool (wB v { x with rd:=x.rd || st }).m.q.mea,.int .u64 (wB v { x with rd:=x.rd || st }).m.q.bw,.int .i64 (wB v { x with rd:=x.rd || st }).m.q.n,.int .u64 (wB v { x with rd:=x.rd || st }).m.q.lost,.int .u64 (wB v { x with rd:=x.rd || st }).m.q.t0,.int .u64 (wB v { x with rd:=x.rd || st }).m.q.d0,.int .u64 (wB v { x with rd:=x.rd || st }).m.q.l0,.int .i64 (wB v { x with rd:=x.rd || st }).m.mode,.int .u64 (wB v { x with rd:=x.rd || st }).m.rate,.int .u64 (wB v { x with rd:=x.rd || st }).m.win,.int .u64 (wB v { x with rd:=x.rd || st }).g,.bool (wB v { x with rd:=x.rd || st }).m.rec',.bool (wB v { x with rd:=x.rd || st }).m.first,.int .u64 (wB v { x with rd:=x.rd || st }).m.til,.int .u64 (wB v { x with rd:=x.rd || st }).m.sav]) (fun y:Bool=>y=((x.rd || st) && decide (now > x.til))) (fun (y:Bool) w hy h=>?_) ?_
     ·rw [hy]
      refine w_ite (fun c4=>?_) fun c4=>?_
      ·simp only [Bool.and_eq_true,decide_eq_true_eq] at c4
       rw [if_neg (by rw [c4.1];simp),if_neg (by omega)]
       repeat' (first
        | (refine w_drw h fun w h=>?_)
        | (refine w_deref ?_)
        | (refine w_ldAll h rfl ?_)
        | (refine w_ld h rfl ?_)
        | (refine w_chkAll h ?_)
        | (refine w_chk h rfl ?_)
        | (refine w_setAll h (by rfl) fun w h=>?_)
        | (refine w_new h fun n w h=>?_)
        | (refine w_leave h fun w h=>?_)
        | (refine w_set h rfl fun w h=>?_;dsimp only [upd,over] at h))
       exact (Own.inq (h.blkEq (b:=b) (L':=[.int .u64 ({ wB v { x with rd:=x.rd || st,at':=now,on:=false } with set:=false }).m.mss,.ptr (some ⟨nw,0⟩),.int .u64 ({ wB v { x with rd:=x.rd || st,at':=now,on:=false } with set:=false }).m.r.n,.int .u64 ({ wB v { x with rd:=x.rd || st,at':=now,on:=false } with set:=false }).m.r.nx,.int .u64 ({ wB v { x with rd:=x.rd || st,at':=now,on:=false } with set:=false }).m.p.best,.int .i64 ({ wB v { x with rd:=x.rd || st,at':=now,on:=false } with set:=false }).m.p.n,.bool ({ wB v { x with rd:=x.rd || st,at':=now,on:=false } with set:=false }).m.p.full,.int .i64 ({ wB v { x with rd:=x.rd || st,at':=now,on:=false } with set:=false }).m.c.ph,.int .u64 ({ wB v { x with rd:=x.rd || st,at':=now,on:=false } with set:=false }).m.c.at',.int .u64 ({ wB v { x with rd:=x.rd || st,at':=now,on:=false } with set:=false }).m.b.best,.int .u64 ({ wB v { x with rd:=x.rd || st,at':=now,on:=false } with set:=false }).m.b.at',.bool ({ wB v { x with rd:=x.rd || st,at':=now,on:=false } with set:=false }).m.b.on,.bool ({ wB v { x with rd:=x.rd || st,at':=now,on:=false } with set:=false }).set,.bool ({ wB v { x with rd:=x.rd || st,at':=now,on:=false } with set:=false }).m.b.rd,.int .u64 ({ wB v { x with rd:=x.rd || st,at':=now,on:=false } with set:=false }).till,.bool ({ wB v { x with rd:=x.rd || st,at':=now,on:=false } with set:=false }).m.q.use,.bool ({ wB v { x with rd:=x.rd || st,at':=now,on:=false } with set:=false }).m.q.mea,.int .u64 ({ wB v { x with rd:=x.rd || st,at':=now,on:=false } with set:=false }).m.q.bw,.int .i64 ({ wB v { x with rd:=x.rd || st,at':=now,on:=false } with set:=false }).m.q.n,.int .u64 ({ wB v { x with rd:=x.rd || st,at':=now,on:=false } with set:=false }).m.q.lost,.int .u64 ({ wB v { x with rd:=x.rd || st,at':=now,on:=false } with set:=false }).m.q.t0,.int .u64 ({ wB v { x with rd:=x.rd || st,at':=now,on:=false } with set:=false }).m.q.d0,.int .u64 ({ wB v { x with rd:=x.rd || st,at':=now,on:=false } with set:=false }).m.q.l0,.int .i64 ({ wB v { x with rd:=x.rd || st,at':=now,on:=false } with set:=false }).m.mode,.int .u64 ({ wB v { x with rd:=x.rd || st,at':=now,on:=false } with set:=false }).m.rate,.int .u64 ({ wB v { x with rd:=x.rd || st,at':=now,on:=false } with set:=false }).m.win,.int .u64 ({ wB v { x with rd:=x.rd || st,at':=now,on:=false } with set:=false }).g,.bool ({ wB v { x with rd:=x.rd || st,at':=now,on:=false } with set:=false }).m.rec',.bool ({ wB v { x with rd:=x.rd || st,at':=now,on:=false } with set:=false }).m.first,.int .u64 ({ wB v { x with rd:=x.rd || st,at':=now,on:=false } with set:=false }).m.til,.int .u64 ({ wB v { x with rd:=x.rd || st,at':=now,on:=false } with set:=false }).m.sav]) (by simp)) { wB v { x with rd:=x.rd || st,at':=now,on:=false } with set:=false } ⟨rfl,rfl,(fun hh=>by cases hh),rfl⟩).keep
      ·have hR3:Rel (wB v { x with rd:=x.rd || st }):=fun hh=>hR2 hh
       by_cases c5:(x.rd || st)=true
       ·rw [if_neg (by rw [c5];simp),if_pos (by rw [c5] at c4;simp at c4;omega)]
        exact (h.inq (wB v { x with rd:=x.rd || st }) ⟨rfl,rfl,hR3,rfl⟩).keep
       ·rw [if_pos (by simpa using c5)]
        exact (h.inq (wB v { x with rd:=x.rd || st }) ⟨rfl,rfl,hR3,rfl⟩).keep
     ·repeat' (first
       | (refine w_drw h fun w h=>?_)
       | (refine w_deref ?_)
       | (refine w_ldAll h rfl ?_)
       | (refine w_ld h rfl ?_)
       | (refine w_chkAll h ?_)
       | (refine w_chk h rfl ?_)
       | (refine w_setAll h (by rfl) fun w h=>?_)
       | (refine w_new h fun n w h=>?_)
       | (refine w_leave h fun w h=>?_)
       | (refine w_set h rfl fun w h=>?_;dsimp only [upd,over] at h)
       | (refine w_ite (fun c=>?_) fun c=>?_))
      ·have c:(x.rd || st)=true:=c
       exact ⟨by rw [c,e5];rfl,(h.blkEq (b:=b) (L':=[.int .u64 (wB v { x with rd:=x.rd || st }).m.mss,.ptr (some ⟨nw,0⟩),.int .u64 (wB v { x with rd:=x.rd || st }).m.r.n,.int .u64 (wB v { x with rd:=x.rd || st }).m.r.nx,.int .u64 (wB v { x with rd:=x.rd || st }).m.p.best,.int .i64 (wB v { x with rd:=x.rd || st }).m.p.n,.bool (wB v { x with rd:=x.rd || st }).m.p.full,.int .i64 (wB v { x with rd:=x.rd || st }).m.c.ph,.int .u64 (wB v { x with rd:=x.rd || st }).m.c.at',.int .u64 (wB v { x with rd:=x.rd || st }).m.b.best,.int .u64 (wB v { x with rd:=x.rd || st }).m.b.at',.bool (wB v { x with rd:=x.rd || st }).m.b.on,.bool (wB v { x with rd:=x.rd || st }).set,.bool (wB v { x with rd:=x.rd || st }).m.b.rd,.int .u64 (wB v { x with rd:=x.rd || st }).till,.bool (wB v { x with rd:=x.rd || st }).m.q.use,.bool (wB v { x with rd:=x.rd || st }).m.q.mea,.int .u64 (wB v { x with rd:=x.rd || st }).m.q.bw,.int .i64 (wB v { x with rd:=x.rd || st }).m.q.n,.int .u64 (wB v { x with rd:=x.rd || st }).m.q.lost,.int .u64 (wB v { x with rd:=x.rd || st }).m.q.t0,.int .u64 (wB v { x with rd:=x.rd || st }).m.q.d0,.int .u64 (wB v { x with rd:=x.rd || st }).m.q.l0,.int .i64 (wB v { x with rd:=x.rd || st }).m.mode,.int .u64 (wB v { x with rd:=x.rd || st }).m.rate,.int .u64 (wB v { x with rd:=x.rd || st }).m.win,.int .u64 (wB v { x with rd:=x.rd || st }).g,.bool (wB v { x with rd:=x.rd || st }).m.rec',.bool (wB v { x with rd:=x.rd || st }).m.first,.int .u64 (wB v { x with rd:=x.rd || st }).m.til,.int .u64 (wB v { x with rd:=x.rd || st }).m.sav]) (by simp)).fin⟩
      ·have c:(x.rd || st)=false:=c
       exact ⟨by rw [c];rfl,(h.blkEq (b:=b) (L':=[.int .u64 (wB v { x with rd:=x.rd || st }).m.mss,.ptr (some ⟨nw,0⟩),.int .u64 (wB v { x with rd:=x.rd || st }).m.r.n,.int .u64 (wB v { x with rd:=x.rd || st }).m.r.nx,.int .u64 (wB v { x with rd:=x.rd || st }).m.p.best,.int .i64 (wB v { x with rd:=x.rd || st }).m.p.n,.bool (wB v { x with rd:=x.rd || st }).m.p.full,.int .i64 (wB v { x with rd:=x.rd || st }).m.c.ph,.int .u64 (wB v { x with rd:=x.rd || st }).m.c.at',.int .u64 (wB v { x with rd:=x.rd || st }).m.b.best,.int .u64 (wB v { x with rd:=x.rd || st }).m.b.at',.bool (wB v { x with rd:=x.rd || st }).m.b.on,.bool (wB v { x with rd:=x.rd || st }).set,.bool (wB v { x with rd:=x.rd || st }).m.b.rd,.int .u64 (wB v { x with rd:=x.rd || st }).till,.bool (wB v { x with rd:=x.rd || st }).m.q.use,.bool (wB v { x with rd:=x.rd || st }).m.q.mea,.int .u64 (wB v { x with rd:=x.rd || st }).m.q.bw,.int .i64 (wB v { x with rd:=x.rd || st }).m.q.n,.int .u64 (wB v { x with rd:=x.rd || st }).m.q.lost,.int .u64 (wB v { x with rd:=x.rd || st }).m.q.t0,.int .u64 (wB v { x with rd:=x.rd || st }).m.q.d0,.int .u64 (wB v { x with rd:=x.rd || st }).m.q.l0,.int .i64 (wB v { x with rd:=x.rd || st }).m.mode,.int .u64 (wB v { x with rd:=x.rd || st }).m.rate,.int .u64 (wB v { x with rd:=x.rd || st }).m.win,.int .u64 (wB v { x with rd:=x.rd || st }).g,.bool (wB v { x with rd:=x.rd || st }).m.rec',.bool (wB v { x with rd:=x.rd || st }).m.first,.int .u64 (wB v { x with rd:=x.rd || st }).m.til,.int .u64 (wB v { x with rd:=x.rd || st }).m.sav]) (by simp)).fin⟩
    ·refine w_ite (fun c=>?_) fun c=>?_
     ·refine w_deref (w_ld h rfl ?_)
      exact ⟨by rw [c,eon];rfl,h⟩
     ·exact ⟨by rw [c];rfl,h⟩
   ·refine w_join h (fun _=>blk b [.int .u64 v.m.mss,.ptr (some ⟨nw,0⟩),.int .u64 v.m.r.n,.int .u64 v.m.r.nx,.int .u64 v.m.p.best,.int .i64 v.m.p.n,.bool v.m.p.full,.int .i64 v.m.c.ph,.int .u64 v.m.c.at',.int .u64 v.m.b.best,.int .u64 v.m.b.at',.bool v.m.b.on,.bool v.set,.bool v.m.b.rd,.int .u64 v.till,.bool v.m.q.use,.bool v.m.q.mea,.int .u64 v.m.q.bw,.int .i64 v.m.q.n,.int .u64 v.m.q.lost,.int .u64 v.m.q.t0,.int .u64 v.m.q.d0,.int .u64 v.m.q.l0,.int .i64 v.m.mode,.int .u64 v.m.rate,.int .u64 v.m.win,.int .u64 v.g,.bool v.m.rec',.bool v.m.first,.int .u64 v.m.til,.int .u64 v.m.sav]) (fun y:Bool=>y=bTake v.m.b now rtt) (fun (y:Bool) w hy h=>?_) ?_
    ·rw [hy]
     unfold bNew
     refine w_ite (fun c=>?_) fun c=>?_
     ·rw [if_pos c]
      repeat' (first
       | (refine w_drw h fun w h=>?_)
       | (refine w_deref ?_)
       | (refine w_ldAll h rfl ?_)
       | (refine w_ld h rfl ?_)
       | (refine w_chkAll h ?_)
       | (refine w_chk h rfl ?_)
       | (refine w_setAll h (by rfl) fun w h=>?_)
       | (refine w_new h fun n w h=>?_)
       | (refine w_leave h fun w h=>?_)
       | (refine w_set h rfl fun w h=>?_;dsimp only [upd,over] at h))
      exact ⟨trivial,(h.blkEq (b:=b) (L':=[.int .u64 (wB v { v.m.b with best:=rtt,at':=now }).m.mss,.ptr (some ⟨nw,0⟩),.int .u64 (wB v { v.m.b with best:=rtt,at':=now }).m.r.n,.int .u64 (wB v { v.m.b with best:=rtt,at':=now }).m.r.nx,.int .u64 (wB v { v.m.b with best:=rtt,at':=now }).m.p.best,.int .i64 (wB v { v.m.b with best:=rtt,at':=now }).m.p.n,.bool (wB v { v.m.b with best:=rtt,at':=now }).m.p.full,.int .i64 (wB v { v.m.b with best:=rtt,at':=now }).m.c.ph,.int .u64 (wB v { v.m.b with best:=rtt,at':=now }).m.c.at',.int .u64 (wB v { v.m.b with best:=rtt,at':=now }).m.b.best,.int .u64 (wB v { v.m.b with best:=rtt,at':=now }).m.b.at',.bool (wB v { v.m.b with best:=rtt,at':=now }).m.b.on,.bool (wB v { v.m.b with best:=rtt,at':=now }).set,.bool (wB v { v.m.b with best:=rtt,at':=now }).m.b.rd,.int .u64 (wB v { v.m.b with best:=rtt,at':=now }).till,.bool (wB v { v.m.b with best:=rtt,at':=now }).m.q.use,.bool (wB v { v.m.b with best:=rtt,at':=now }).m.q.mea,.int .u64 (wB v { v.m.b with best:=rtt,at':=now }).m.q.bw,.int .i64 (wB v { v.m.b with best:=rtt,at':=now }).m.q.n,.int .u64 (wB v { v.m.b with best:=rtt,at':=now }).m.q.lost,.int .u64 (wB v { v.m.b with best:=rtt,at':=now }).m.q.t0,.int .u64 (wB v { v.m.b with best:=rtt,at':=now }).m.q.d0,.int .u64 (wB v { v.m.b with best:=rtt,at':=now }).m.q.l0,.int .i64 (wB v { v.m.b with best:=rtt,at':=now }).m.mode,.int .u64 (wB v { v.m.b with best:=rtt,at':=now }).m.rate,.int .u64 (wB v { v.m.b with best:=rtt,at':=now }).m.win,.int .u64 (wB v { v.m.b with best:=rtt,at':=now }).g,.bool (wB v { v.m.b with best:=rtt,at':=now }).m.rec',.bool (wB v { v.m.b with best:=rtt,at':=now }).m.first,.int .u64 (wB v { v.m.b with best:=rtt,at':=now }).m.til,.int .u64 (wB v { v.m.b with best:=rtt,at':=now }).m.sav]) (by simp)).fin⟩
     ·rw [if_neg (by rw [c];simp)]
      exact ⟨trivial,h⟩
    ·repeat' (first
      | (refine w_drw h fun w h=>?_)
      | (refine w_deref ?_)
      | (refine w_ldAll h rfl ?_)
      | (refine w_ld h rfl ?_)
      | (refine w_chkAll h ?_)
      | (refine w_chk h rfl ?_)
      | (refine w_setAll h (by rfl) fun w h=>?_)
      | (refine w_new h fun n w h=>?_)
      | (refine w_leave h fun w h=>?_)
      | (refine w_set h rfl fun w h=>?_;dsimp only [upd,over] at h)
      | (refine w_ite (fun c=>?_) fun c=>?_))
     all_goals refine ⟨?_,h.fin⟩
     all_goals simp_all [bTake]
     all_goals (intro _;omega)
  ·refine w_deref (w_ld h rfl (w_ite (fun c=>?_) fun c=>?_))
   ·refine w_deref (w_ld h rfl (w_call (radd_tri v.m.b.at' 10000000000 hv.at' (U_lit _)) h fun r w h=>?_))
    obtain ⟨hr,h⟩:=h.purP
    rw [hr]
    exact ⟨by unfold bOld;rw [c];rfl,h.fin⟩
   ·exact ⟨by unfold bOld;rw [c];rfl,h⟩
abbrev wQ (v:Rm) (x:Pl):Rm:={ v with m:={ v.m with q:=x } }
theorem rstop_tri (b nw:Nat) (v:Rm):Tri Tryz.prog N_canterref08_Policer_stop [.lf (.ptr (some ⟨b,15⟩))] [] (blk b [.int .u64 v.m.mss,.ptr (some ⟨nw,0⟩),.int .u64 v.m.r.n,.int .u64 v.m.r.nx,.int .u64 v.m.p.best,.int .i64 v.m.p.n,.bool v.m.p.full,.int .i64 v.m.c.ph,.int .u64 v.m.c.at',.int .u64 v.m.b.best,.int .u64 v.m.b.at',.bool v.m.b.on,.bool v.set,.bool v.m.b.rd,.int .u64 v.till,.bool v.m.q.use,.bool v.m.q.mea,.int .u64 v.m.q.bw,.int .i64 v.m.q.n,.int .u64 v.m.q.lost,.int .u64 v.m.q.t0,.int .u64 v.m.q.d0,.int .u64 v.m.q.l0,.int .i64 v.m.mode,.int .u64 v.m.rate,.int .u64 v.m.win,.int .u64 v.g,.bool v.m.rec',.bool v.m.first,.int .u64 v.m.til,.int .u64 v.m.sav]) (fun _=>blk b [.int .u64 (wQ v { v.m.q with mea:=false,bw:=0 }).m.mss,.ptr (some ⟨nw,0⟩),.int .u64 (wQ v { v.m.q with mea:=false,bw:=0 }).m.r.n,.int .u64 (wQ v { v.m.q with mea:=false,bw:=0 }).m.r.nx,.int .u64 (wQ v { v.m.q with mea:=false,bw:=0 }).m.p.best,.int .i64 (wQ v { v.m.q with mea:=false,bw:=0 }).m.p.n,.bool (wQ v { v.m.q with mea:=false,bw:=0 }).m.p.full,.int .i64 (wQ v { v.m.q with mea:=false,bw:=0 }).m.c.ph,.int .u64 (wQ v { v.m.q with mea:=false,bw:=0 }).m.c.at',.int .u64 (wQ v { v.m.q with mea:=false,bw:=0 }).m.b.best,.int .u64 (wQ v { v.m.q with mea:=false,bw:=0 }).m.b.at',.bool (wQ v { v.m.q with mea:=false,bw:=0 }).m.b.on,.bool (wQ v { v.m.q with mea:=false,bw:=0 }).set,.bool (wQ v { v.m.q with mea:=false,bw:=0 }).m.b.rd,.int .u64 (wQ v { v.m.q with mea:=false,bw:=0 }).till,.bool (wQ v { v.m.q with mea:=false,bw:=0 }).m.q.use,.bool (wQ v { v.m.q with mea:=false,bw:=0 }).m.q.mea,.int .u64 (wQ v { v.m.q with mea:=false,bw:=0 }).m.q.bw,.int .i64 (wQ v { v.m.q with mea:=false,bw:=0 }).m.q.n,.int .u64 (wQ v { v.m.q with mea:=false,bw:=0 }).m.q.lost,.int .u64 (wQ v { v.m.q with mea:=false,bw:=0 }).m.q.t0,.int .u64 (wQ v { v.m.q with mea:=false,bw:=0 }).m.q.d0,.int .u64 (wQ v { v.m.q with mea:=false,bw:=0 }).m.q.l0,.int .i64 (wQ v { v.m.q with mea:=false,bw:=0 }).m.mode,.int .u64 (wQ v { v.m.q with mea:=false,bw:=0 }).m.rate,.int .u64 (wQ v { v.m.q with mea:=false,bw:=0 }).m.win,.int .u64 (wQ v { v.m.q with mea:=false,bw:=0 }).g,.bool (wQ v { v.m.q with mea:=false,bw:=0 }).m.rec',.bool (wQ v { v.m.q with mea:=false,bw:=0 }).m.first,.int .u64 (wQ v { v.m.q with mea:=false,bw:=0 }).m.til,.int .u64 (wQ v { v.m.q with mea:=false,bw:=0 }).m.sav]) :=
 tri_0 (call_canterref08_Policer_stop _) fun w0 S R h=>by
  unfold W_canterref08_Policer_stop
  repeat' (first
   | (refine w_drw h fun w h=>?_)
   | (refine w_deref ?_)
   | (refine w_ldAll h rfl ?_)
   | (refine w_ld h rfl ?_)
   | (refine w_chkAll h ?_)
   | (refine w_chk h rfl ?_)
   | (refine w_setAll h (by rfl) fun w h=>?_)
   | (refine w_new h fun n w h=>?_)
   | (refine w_leave h fun w h=>?_)
   | (refine w_set h rfl fun w h=>?_;dsimp only [upd,over] at h))
  exact (h.blkEq (b:=b) (L':=[.int .u64 (wQ v { v.m.q with mea:=false,bw:=0 }).m.mss,.ptr (some ⟨nw,0⟩),.int .u64 (wQ v { v.m.q with mea:=false,bw:=0 }).m.r.n,.int .u64 (wQ v { v.m.q with mea:=false,bw:=0 }).m.r.nx,.int .u64 (wQ v { v.m.q with mea:=false,bw:=0 }).m.p.best,.int .i64 (wQ v { v.m.q with mea:=false,bw:=0 }).m.p.n,.bool (wQ v { v.m.q with mea:=false,bw:=0 }).m.p.full,.int .i64 (wQ v { v.m.q with mea:=false,bw:=0 }).m.c.ph,.int .u64 (wQ v { v.m.q with mea:=false,bw:=0 }).m.c.at',.int .u64 (wQ v { v.m.q with mea:=false,bw:=0 }).m.b.best,.int .u64 (wQ v { v.m.q with mea:=false,bw:=0 }).m.b.at',.bool (wQ v { v.m.q with mea:=false,bw:=0 }).m.b.on,.bool (wQ v { v.m.q with mea:=false,bw:=0 }).set,.bool (wQ v { v.m.q with mea:=false,bw:=0 }).m.b.rd,.int .u64 (wQ v { v.m.q with mea:=false,bw:=0 }).till,.bool (wQ v { v.m.q with mea:=false,bw:=0 }).m.q.use,.bool (wQ v { v.m.q with mea:=false,bw:=0 }).m.q.mea,.int .u64 (wQ v { v.m.q with mea:=false,bw:=0 }).m.q.bw,.int .i64 (wQ v { v.m.q with mea:=false,bw:=0 }).m.q.n,.int .u64 (wQ v { v.m.q with mea:=false,bw:=0 }).m.q.lost,.int .u64 (wQ v { v.m.q with mea:=false,bw:=0 }).m.q.t0,.int .u64 (wQ v { v.m.q with mea:=false,bw:=0 }).m.q.d0,.int .u64 (wQ v { v.m.q with mea:=false,bw:=0 }).m.q.l0,.int .i64 (wQ v { v.m.q with mea:=false,bw:=0 }).m.mode,.int .u64 (wQ v { v.m.q with mea:=false,bw:=0 }).m.rate,.int .u64 (wQ v { v.m.q with mea:=false,bw:=0 }).m.win,.int .u64 (wQ v { v.m.q with mea:=false,bw:=0 }).g,.bool (wQ v { v.m.q with mea:=false,bw:=0 }).m.rec',.bool (wQ v { v.m.q with mea:=false,bw:=0 }).m.first,.int .u64 (wQ v { v.m.q with mea:=false,bw:=0 }).m.til,.int .u64 (wQ v { v.m.q with mea:=false,bw:=0 }).m.sav]) (by simp)).fin
theorem rbegin_tri (b nw:Nat) (v:Rm) (s:Sm):Tri Tryz.prog N_canterref08_Policer_begin [.lf (.ptr (some ⟨b,15⟩)),.agg (Ks.mk K_u8b s)] [] (blk b [.int .u64 v.m.mss,.ptr (some ⟨nw,0⟩),.int .u64 v.m.r.n,.int .u64 v.m.r.nx,.int .u64 v.m.p.best,.int .i64 v.m.p.n,.bool v.m.p.full,.int .i64 v.m.c.ph,.int .u64 v.m.c.at',.int .u64 v.m.b.best,.int .u64 v.m.b.at',.bool v.m.b.on,.bool v.set,.bool v.m.b.rd,.int .u64 v.till,.bool v.m.q.use,.bool v.m.q.mea,.int .u64 v.m.q.bw,.int .i64 v.m.q.n,.int .u64 v.m.q.lost,.int .u64 v.m.q.t0,.int .u64 v.m.q.d0,.int .u64 v.m.q.l0,.int .i64 v.m.mode,.int .u64 v.m.rate,.int .u64 v.m.win,.int .u64 v.g,.bool v.m.rec',.bool v.m.first,.int .u64 v.m.til,.int .u64 v.m.sav]) (fun _=>blk b [.int .u64 (wQ v (qBegin v.m.q s)).m.mss,.ptr (some ⟨nw,0⟩),.int .u64 (wQ v (qBegin v.m.q s)).m.r.n,.int .u64 (wQ v (qBegin v.m.q s)).m.r.nx,.int .u64 (wQ v (qBegin v.m.q s)).m.p.best,.int .i64 (wQ v (qBegin v.m.q s)).m.p.n,.bool (wQ v (qBegin v.m.q s)).m.p.full,.int .i64 (wQ v (qBegin v.m.q s)).m.c.ph,.int .u64 (wQ v (qBegin v.m.q s)).m.c.at',.int .u64 (wQ v (qBegin v.m.q s)).m.b.best,.int .u64 (wQ v (qBegin v.m.q s)).m.b.at',.bool (wQ v (qBegin v.m.q s)).m.b.on,.bool (wQ v (qBegin v.m.q s)).set,.bool (wQ v (qBegin v.m.q s)).m.b.rd,.int .u64 (wQ v (qBegin v.m.q s)).till,.bool (wQ v (qBegin v.m.q s)).m.q.use,.bool (wQ v (qBegin v.m.q s)).m.q.mea,.int .u64 (wQ v (qBegin v.m.q s)).m.q.bw,.int .i64 (wQ v (qBegin v.m.q s)).m.q.n,.int .u64 (wQ v (qBegin v.m.q s)).m.q.lost,.int .u64 (wQ v (qBegin v.m.q s)).m.q.t0,.int .u64 (wQ v (qBegin v.m.q s)).m.q.d0,.int .u64 (wQ v (qBegin v.m.q s)).m.q.l0,.int .i64 (wQ v (qBegin v.m.q s)).m.mode,.int .u64 (wQ v (qBegin v.m.q s)).m.rate,.int .u64 (wQ v (qBegin v.m.q s)).m.win,.int .u64 (wQ v (qBegin v.m.q s)).g,.bool (wQ v (qBegin v.m.q s)).m.rec',.bool (wQ v (qBegin v.m.q s)).m.first,.int .u64 (wQ v (qBegin v.m.q s)).m.til,.int .u64 (wQ v (qBegin v.m.q s)).m.sav]) :=
 tri_0 (call_canterref08_Policer_begin _ _) fun w0 S R h=>by
  unfold W_canterref08_Policer_begin
  repeat' (first
   | (refine w_drw h fun w h=>?_)
   | (refine w_deref ?_)
   | (refine w_ldAll h rfl ?_)
   | (refine w_ld h rfl ?_)
   | (refine w_chkAll h ?_)
   | (refine w_chk h rfl ?_)
   | (refine w_setAll h (by rfl) fun w h=>?_)
   | (refine w_new h fun n w h=>?_)
   | (refine w_leave h fun w h=>?_)
   | (refine w_set h rfl fun w h=>?_;dsimp only [upd,over] at h))
  exact (h.blkEq (b:=b) (L':=[.int .u64 (wQ v (qBegin v.m.q s)).m.mss,.ptr (some ⟨nw,0⟩),.int .u64 (wQ v (qBegin v.m.q s)).m.r.n,.int .u64 (wQ v (qBegin v.m.q s)).m.r.nx,.int .u64 (wQ v (qBegin v.m.q s)).m.p.best,.int .i64 (wQ v (qBegin v.m.q s)).m.p.n,.bool (wQ v (qBegin v.m.q s)).m.p.full,.int .i64 (wQ v (qBegin v.m.q s)).m.c.ph,.int .u64 (wQ v (qBegin v.m.q s)).m.c.at',.int .u64 (wQ v (qBegin v.m.q s)).m.b.best,.int .u64 (wQ v (qBegin v.m.q s)).m.b.at',.bool (wQ v (qBegin v.m.q s)).m.b.on,.bool (wQ v (qBegin v.m.q s)).set,.bool (wQ v (qBegin v.m.q s)).m.b.rd,.int .u64 (wQ v (qBegin v.m.q s)).till,.bool (wQ v (qBegin v.m.q s)).m.q.use,.bool (wQ v (qBegin v.m.q s)).m.q.mea,.int .u64 (wQ v (qBegin v.m.q s)).m.q.bw,.int .i64 (wQ v (qBegin v.m.q s)).m.q.n,.int .u64 (wQ v (qBegin v.m.q s)).m.q.lost,.int .u64 (wQ v (qBegin v.m.q s)).m.q.t0,.int .u64 (wQ v (qBegin v.m.q s)).m.q.d0,.int .u64 (wQ v (qBegin v.m.q s)).m.q.l0,.int .i64 (wQ v (qBegin v.m.q s)).m.mode,.int .u64 (wQ v (qBegin v.m.q s)).m.rate,.int .u64 (wQ v (qBegin v.m.q s)).m.win,.int .u64 (wQ v (qBegin v.m.q s)).g,.bool (wQ v (qBegin v.m.q s)).m.rec',.bool (wQ v (qBegin v.m.q s)).m.first,.int .u64 (wQ v (qBegin v.m.q s)).m.til,.int .u64 (wQ v (qBegin v.m.q s)).m.sav]) (by simp [qBegin])).fin
theorem rnear_tri (a c:Int) (ha:U a) (hc:U c):Tri Tryz.prog N_canterref08_near [.lf (.int .u64 a),.lf (.int .u64 c)] [.lf .bool] emp (fun r=>pur (r=decide (apart a c≤a / 8)) emp) :=
 tri_0 (call_canterref08_near _ _) fun w0 S R h=>by
  unfold W_canterref08_near
  refine Own.retP ?_ h
  unfold U at ha hc
  have e1:IntKind.u64.wrap ((if c > a then c else a) - (if c < a then c else a))=apart a c:=by
   unfold apart
   rw [wu (by (repeat' split)<;>omega) (by (repeat' split)<;>omega)]
   (repeat' split)<;>omega
  have e2:IntKind.u64.wrap (a.tdiv (8:Int))=a / 8:=by
   rw [Int.tdiv_eq_ediv_of_nonneg ha.1,wu (by omega) (by omega)]
  rw [e1,e2]
theorem avg_eq' {a b:Int} (ha:U a) (hb:U b):IntKind.u64.wrap ((IntKind.u64.wrap ((IntKind.u64.wrap (a.tdiv (2:Int)))+(IntKind.u64.wrap (b.tdiv (2:Int)))))+(IntKind.u64.wrap ((IntKind.u64.wrap ((a.tmod (2:Int))+(b.tmod (2:Int)))).tdiv (2:Int))))=avg a b:=by
 unfold U at ha hb
 rw [Int.tdiv_eq_ediv_of_nonneg ha.1,Int.tdiv_eq_ediv_of_nonneg hb.1,Int.tmod_eq_emod_of_nonneg ha.1,Int.tmod_eq_emod_of_nonneg hb.1]
 have e:IntKind.u64.wrap (a % 2+b % 2)=a % 2+b % 2:=wu (by omega) (by omega)
 rw [e,Int.tdiv_eq_ediv_of_nonneg (by omega)]
 unfold avg
 simp only [wm]
 omega
theorem rlook_tri (b nw:Nat) (v:Rm) (hv:OkL v.m.q) (s:Sm) (hs:OkS s):Tri Tryz.prog N_canterref08_Policer_look [.lf (.ptr (some ⟨b,15⟩)),.agg (Ks.mk K_u8b s)] [] (blk b [.int .u64 v.m.mss,.ptr (some ⟨nw,0⟩),.int .u64 v.m.r.n,.int .u64 v.m.r.nx,.int .u64 v.m.p.best,.int .i64 v.m.p.n,.bool v.m.p.full,.int .i64 v.m.c.ph,.int .u64 v.m.c.at',.int .u64 v.m.b.best,.int .u64 v.m.b.at',.bool v.m.b.on,.bool v.set,.bool v.m.b.rd,.int .u64 v.till,.bool v.m.q.use,.bool v.m.q.mea,.int .u64 v.m.q.bw,.int .i64 v.m.q.n,.int .u64 v.m.q.lost,.int .u64 v.m.q.t0,.int .u64 v.m.q.d0,.int .u64 v.m.q.l0,.int .i64 v.m.mode,.int .u64 v.m.rate,.int .u64 v.m.win,.int .u64 v.g,.bool v.m.rec',.bool v.m.first,.int .u64 v.m.til,.int .u64 v.m.sav]) (fun _=>blk b [.int .u64 (wQ v (qEnd v.m.q s)).m.mss,.ptr (some ⟨nw,0⟩),.int .u64 (wQ v (qEnd v.m.q s)).m.r.n,.int .u64 (wQ v (qEnd v.m.q s)).m.r.nx,.int .u64 (wQ v (qEnd v.m.q s)).m.p.best,.int .i64 (wQ v (qEnd v.m.q s)).m.p.n,.bool (wQ v (qEnd v.m.q s)).m.p.full,.int .i64 (wQ v (qEnd v.m.q s)).m.c.ph,.int .u64 (wQ v (qEnd v.m.q s)).m.c.at',.int .u64 (wQ v (qEnd v.m.q s)).m.b.best,.int .u64 (wQ v (qEnd v.m.q s)).m.b.at',.bool (wQ v (qEnd v.m.q s)).m.b.on,.bool (wQ v (qEnd v.m.q s)).set,.bool (wQ v (qEnd v.m.q s)).m.b.rd,.int .u64 (wQ v (qEnd v.m.q s)).till,.bool (wQ v (qEnd v.m.q s)).m.q.use,.bool (wQ v (qEnd v.m.q s)).m.q.mea,.int .u64 (wQ v (qEnd v.m.q s)).m.q.bw,.int .i64 (wQ v (qEnd v.m.q s)).m.q.n,.int .u64 (wQ v (qEnd v.m.q s)).m.q.lost,.int .u64 (wQ v (qEnd v.m.q s)).m.q.t0,.int .u64 (wQ v (qEnd v.m.q s)).m.q.d0,.int .u64 (wQ v (qEnd v.m.q s)).m.q.l0,.int .i64 (wQ v (qEnd v.m.q s)).m.mode,.int .u64 (wQ v (qEnd v.m.q s)).m.rate,.int .u64 (wQ v (qEnd v.m.q s)).m.win,.int .u64 (wQ v (qEnd v.m.q s)).g,.bool (wQ v (qEnd v.m.q s)).m.rec',.bool (wQ v (qEnd v.m.q s)).m.first,.int .u64 (wQ v (qEnd v.m.q s)).m.til,.int .u64 (wQ v (qEnd v.m.q s)).m.sav]) :=
 tri_0 (call_canterref08_Policer_look _ _) fun w0 S R h=>by
  unfold W_canterref08_Policer_look
  have hd:=U_sub hs.del hv.d0
  have ht:=U_sub hs.now hv.t0
  have hl:=U_sub hv.lost hv.l0
  refine w_new h fun n1 w h=>?_
  repeat' (first
   | (refine w_drw h fun w h=>?_)
   | (refine w_deref ?_)
   | (refine w_ldAll h rfl ?_)
   | (refine w_ld h rfl ?_)
   | (refine w_chkAll h ?_)
   | (refine w_chk h rfl ?_)
   | (refine w_setAll h (by rfl) fun w h=>?_)
   | (refine w_new h fun n w h=>?_)
   | (refine w_leave h fun w h=>?_)
   | (refine w_set h rfl fun w h=>?_;dsimp only [upd,over] at h)
   | (refine w_call (rsub_tri _ _ hs.del hv.d0) h fun r w h=>?_;obtain ⟨hr,h⟩:=h.purP;(try dsimp only at hr h);try rw [hr])
   | (refine w_call (rsub_tri _ _ hv.lost hv.l0) h fun r w h=>?_;obtain ⟨hr,h⟩:=h.purP;(try dsimp only at hr h);try rw [hr])
   | (refine w_call (rsub_tri _ _ hs.now hv.t0) h fun r w h=>?_;obtain ⟨hr,h⟩:=h.purP;(try dsimp only at hr h);try rw [hr]))
  refine w_join h (fun _=>blk n1 (Ks.mk K_u8b s)^blk b [.int .u64 v.m.mss,.ptr (some ⟨nw,0⟩),.int .u64 v.m.r.n,.int .u64 v.m.r.nx,.int .u64 v.m.p.best,.int .i64 v.m.p.n,.bool v.m.p.full,.int .i64 v.m.c.ph,.int .u64 v.m.c.at',.int .u64 v.m.b.best,.int .u64 v.m.b.at',.bool v.m.b.on,.bool v.set,.bool v.m.b.rd,.int .u64 v.till,.bool v.m.q.use,.bool v.m.q.mea,.int .u64 v.m.q.bw,.int .i64 v.m.q.n,.int .u64 v.m.q.lost,.int .u64 v.m.q.t0,.int .u64 v.m.q.d0,.int .u64 v.m.q.l0,.int .i64 v.m.mode,.int .u64 v.m.rate,.int .u64 v.m.win,.int .u64 v.g,.bool v.m.rec',.bool v.m.first,.int .u64 v.m.til,.int .u64 v.m.sav]) (fun _=>qMeas v.m.q s=some (mdI (subI (sDel s) v.m.q.d0) 1000000000 (subI (sNow s) v.m.q.t0))) (fun _ w hm h=>?_) ?_
  ·have hU:=U_meas hv hs hm
   have e:qEnd v.m.q s=qGot v.m.q s (mdI (subI (sDel s) v.m.q.d0) 1000000000 (subI (sNow s) v.m.q.t0)):=by unfold qEnd;rw [hm]
   rw [e]
   repeat' (first
    | (refine w_drw h fun w h=>?_)
    | (refine w_deref ?_)
    | (refine w_ldAll h rfl ?_)
    | (refine w_ld h rfl ?_)
    | (refine w_chkAll h ?_)
    | (refine w_chk h rfl ?_)
    | (refine w_setAll h (by rfl) fun w h=>?_)
    | (refine w_new h fun n w h=>?_)
    | (refine w_leave h fun w h=>?_)
    | (refine w_set h rfl fun w h=>?_;dsimp only [upd,over] at h)
    | (refine w_call (rmd_tri _ _ _ hd (U_lit 1000000000) ht) h fun r w h=>?_;obtain ⟨hr,h⟩:=h.purP;(try dsimp only at hr h);try rw [hr]))
   generalize mdI (subI (sDel s) v.m.q.d0) 1000000000 (subI (sNow s) v.m.q.t0)=x at *
   have h:Own _ _ _ _ (blk n1 (Ks.mk K_u8b s)^blk b [.int .u64 v.m.mss,.ptr (some ⟨nw,0⟩),.int .u64 v.m.r.n,.int .u64 v.m.r.nx,.int .u64 v.m.p.best,.int .i64 v.m.p.n,.bool v.m.p.full,.int .i64 v.m.c.ph,.int .u64 v.m.c.at',.int .u64 v.m.b.best,.int .u64 v.m.b.at',.bool v.m.b.on,.bool v.set,.bool v.m.b.rd,.int .u64 v.till,.bool v.m.q.use,.bool v.m.q.mea,.int .u64 v.m.q.bw,.int .i64 v.m.q.n,.int .u64 v.m.q.lost,.int .u64 v.m.q.t0,.int .u64 v.m.q.d0,.int .u64 v.m.q.l0,.int .i64 v.m.mode,.int .u64 v.m.rate,.int .u64 v.m.win,.int .u64 v.g,.bool v.m.rec',.bool v.m.first,.int .u64 v.m.til,.int .u64 v.m.sav]):=h.fin
   refine w_join h (fun _=>blk n1 (Ks.mk K_u8b s)^blk b [.int .u64 v.m.mss,.ptr (some ⟨nw,0⟩),.int .u64 v.m.r.n,.int .u64 v.m.r.nx,.int .u64 v.m.p.best,.int .i64 v.m.p.n,.bool v.m.p.full,.int .i64 v.m.c.ph,.int .u64 v.m.c.at',.int .u64 v.m.b.best,.int .u64 v.m.b.at',.bool v.m.b.on,.bool v.set,.bool v.m.b.rd,.int .u64 v.till,.bool v.m.q.use,.bool v.m.q.mea,.int .u64 v.m.q.bw,.int .i64 v.m.q.n,.int .u64 v.m.q.lost,.int .u64 v.m.q.t0,.int .u64 v.m.q.d0,.int .u64 v.m.q.l0,.int .i64 v.m.mode,.int .u64 v.m.rate,.int .u64 v.m.win,.int .u64 v.g,.bool v.m.rec',.bool v.m.first,.int .u64 v.m.til,.int .u64 v.m.sav]) (fun y:Bool=>y=decide (v.m.q.bw > 0∧apart v.m.q.bw x≤v.m.q.bw / 8)) (fun (y:Bool) w hy h=>?_) ?_
   ·rw [hy]
    refine w_ite (fun c=>?_) fun c=>?_
    ·have c:v.m.q.bw > 0∧apart v.m.q.bw x≤v.m.q.bw / 8:=by simpa using c
     have e:qGot v.m.q s x={ v.m.q with bw:=avg v.m.q.bw x,use:=true,n:=0 }:=by unfold qGot;rw [if_pos c]
     rw [e]
     have ea:=avg_eq' hv.bw hU
     refine w_drw h fun w h=>w_deref (w_deref (w_ld h rfl (w_ld h rfl ?_)))
     dsimp only
     rw [ea]
     repeat' (first
      | (refine w_drw h fun w h=>?_)
      | (refine w_deref ?_)
      | (refine w_ldAll h rfl ?_)
      | (refine w_ld h rfl ?_)
      | (refine w_chkAll h ?_)
      | (refine w_chk h rfl ?_)
      | (refine w_setAll h (by rfl) fun w h=>?_)
      | (refine w_new h fun n w h=>?_)
      | (refine w_leave h fun w h=>?_)
      | (refine w_set h rfl fun w h=>?_;dsimp only [upd,over] at h))
     exact (h.blkEq (b:=b) (L':=[.int .u64 (wQ v { v.m.q with bw:=avg v.m.q.bw x,use:=true,n:=0 }).m.mss,.ptr (some ⟨nw,0⟩),.int .u64 (wQ v { v.m.q with bw:=avg v.m.q.bw x,use:=true,n:=0 }).m.r.n,.int .u64 (wQ v { v.m.q with bw:=avg v.m.q.bw x,use:=true,n:=0 }).m.r.nx,.int .u64 (wQ v { v.m.q with bw:=avg v.m.q.bw x,use:=true,n:=0 }).m.p.best,.int .i64 (wQ v { v.m.q with bw:=avg v.m.q.bw x,use:=true,n:=0 }).m.p.n,.bool (wQ v { v.m.q with bw:=avg v.m.q.bw x,use:=true,n:=0 }).m.p.full,.int .i64 (wQ v { v.m.q with bw:=avg v.m.q.bw x,use:=true,n:=0 }).m.c.ph,.int .u64 (wQ v { v.m.q with bw:=avg v.m.q.bw x,use:=true,n:=0 }).m.c.at',.int .u64 (wQ v { v.m.q with bw:=avg v.m.q.bw x,use:=true,n:=0 }).m.b.best,.int .u64 (wQ v { v.m.q with bw:=avg v.m.q.bw x,use:=true,n:=0 }).m.b.at',.bool (wQ v { v.m.q with bw:=avg v.m.q.bw x,use:=true,n:=0 }).m.b.on,.bool (wQ v { v.m.q with bw:=avg v.m.q.bw x,use:=true,n:=0 }).set,.bool (wQ v { v.m.q with bw:=avg v.m.q.bw x,use:=true,n:=0 }).m.b.rd,.int .u64 (wQ v { v.m.q with bw:=avg v.m.q.bw x,use:=true,n:=0 }).till,.bool (wQ v { v.m.q with bw:=avg v.m.q.bw x,use:=true,n:=0 }).m.q.use,.bool (wQ v { v.m.q with bw:=avg v.m.q.bw x,use:=true,n:=0 }).m.q.mea,.int .u64 (wQ v { v.m.q with bw:=avg v.m.q.bw x,use:=true,n:=0 }).m.q.bw,.int .i64 (wQ v { v.m.q with bw:=avg v.m.q.bw x,use:=true,n:=0 }).m.q.n,.int .u64 (wQ v { v.m.q with bw:=avg v.m.q.bw x,use:=true,n:=0 }).m.q.lost,.int .u64 (wQ v { v.m.q with bw:=avg v.m.q.bw x,use:=true,n:=0 }).m.q.t0,.int .u64 (wQ v { v.m.q with bw:=avg v.m.q.bw x,use:=true,n:=0 }).m.q.d0,.int .u64 (wQ v { v.m.q with bw:=avg v.m.q.bw x,use:=true,n:=0 }).m.q.l0,.int .i64 (wQ v { v.m.q with bw:=avg v.m.q.bw x,use:=true,n:=0 }).m.mode,.int .u64 (wQ v { v.m.q with bw:=avg v.m.q.bw x,use:=true,n:=0 }).m.rate,.int .u64 (wQ v { v.m.q with bw:=avg v.m.q.bw x,use:=true,n:=0 }).m.win,.int .u64 (wQ v { v.m.q with bw:=avg v.m.q.bw x,use:=true,n:=0 }).g,.bool (wQ v { v.m.q with bw:=avg v.m.q.bw x,use:=true,n:=0 }).m.rec',.bool (wQ v { v.m.q with bw:=avg v.m.q.bw x,use:=true,n:=0 }).m.first,.int .u64 (wQ v { v.m.q with bw:=avg v.m.q.bw x,use:=true,n:=0 }).m.til,.int .u64 (wQ v { v.m.q with bw:=avg v.m.q.bw x,use:=true,n:=0 }).m.sav]) (by simp)).fin
    ·have c:¬ (v.m.q.bw > 0∧apart v.m.q.bw x≤v.m.q.bw / 8):=by simpa using c
     have e:qGot v.m.q s x=qBegin { v.m.q with bw:=x } s:=by unfold qGot;rw [if_neg c]
     rw [e]
     refine w_deref (w_set h rfl fun w h=>?_)
     have h:=(h.blkEq (b:=b) (L':=[.int .u64 (wQ v { v.m.q with bw:=x }).m.mss,.ptr (some ⟨nw,0⟩),.int .u64 (wQ v { v.m.q with bw:=x }).m.r.n,.int .u64 (wQ v { v.m.q with bw:=x }).m.r.nx,.int .u64 (wQ v { v.m.q with bw:=x }).m.p.best,.int .i64 (wQ v { v.m.q with bw:=x }).m.p.n,.bool (wQ v { v.m.q with bw:=x }).m.p.full,.int .i64 (wQ v { v.m.q with bw:=x }).m.c.ph,.int .u64 (wQ v { v.m.q with bw:=x }).m.c.at',.int .u64 (wQ v { v.m.q with bw:=x }).m.b.best,.int .u64 (wQ v { v.m.q with bw:=x }).m.b.at',.bool (wQ v { v.m.q with bw:=x }).m.b.on,.bool (wQ v { v.m.q with bw:=x }).set,.bool (wQ v { v.m.q with bw:=x }).m.b.rd,.int .u64 (wQ v { v.m.q with bw:=x }).till,.bool (wQ v { v.m.q with bw:=x }).m.q.use,.bool (wQ v { v.m.q with bw:=x }).m.q.mea,.int .u64 (wQ v { v.m.q with bw:=x }).m.q.bw,.int .i64 (wQ v { v.m.q with bw:=x }).m.q.n,.int .u64 (wQ v { v.m.q with bw:=x }).m.q.lost,.int .u64 (wQ v { v.m.q with bw:=x }).m.q.t0,.int .u64 (wQ v { v.m.q with bw:=x }).m.q.d0,.int .u64 (wQ v { v.m.q with bw:=x }).m.q.l0,.int .i64 (wQ v { v.m.q with bw:=x }).m.mode,.int .u64 (wQ v { v.m.q with bw:=x }).m.rate,.int .u64 (wQ v { v.m.q with bw:=x }).m.win,.int .u64 (wQ v { v.m.q with bw:=x }).g,.bool (wQ v { v.m.q with bw:=x }).m.rec',.bool (wQ v { v.m.q with bw:=x }).m.first,.int .u64 (wQ v { v.m.q with bw:=x }).m.til,.int .u64 (wQ v { v.m.q with bw:=x }).m.sav]) (by simp [upd,over]))
     have h:Own _ _ _ _ (blk n1 (Ks.mk K_u8b s)^blk b [.int .u64 (wQ v { v.m.q with bw:=x }).m.mss,.ptr (some ⟨nw,0⟩),.int .u64 (wQ v { v.m.q with bw:=x }).m.r.n,.int .u64 (wQ v { v.m.q with bw:=x }).m.r.nx,.int .u64 (wQ v { v.m.q with bw:=x }).m.p.best,.int .i64 (wQ v { v.m.q with bw:=x }).m.p.n,.bool (wQ v { v.m.q with bw:=x }).m.p.full,.int .i64 (wQ v { v.m.q with bw:=x }).m.c.ph,.int .u64 (wQ v { v.m.q with bw:=x }).m.c.at',.int .u64 (wQ v { v.m.q with bw:=x }).m.b.best,.int .u64 (wQ v { v.m.q with bw:=x }).m.b.at',.bool (wQ v { v.m.q with bw:=x }).m.b.on,.bool (wQ v { v.m.q with bw:=x }).set,.bool (wQ v { v.m.q with bw:=x }).m.b.rd,.int .u64 (wQ v { v.m.q with bw:=x }).till,.bool (wQ v { v.m.q with bw:=x }).m.q.use,.bool (wQ v { v.m.q with bw:=x }).m.q.mea,.int .u64 (wQ v { v.m.q with bw:=x }).m.q.bw,.int .i64 (wQ v { v.m.q with bw:=x }).m.q.n,.int .u64 (wQ v { v.m.q with bw:=x }).m.q.lost,.int .u64 (wQ v { v.m.q with bw:=x }).m.q.t0,.int .u64 (wQ v { v.m.q with bw:=x }).m.q.d0,.int .u64 (wQ v { v.m.q with bw:=x }).m.q.l0,.int .i64 (wQ v { v.m.q with bw:=x }).m.mode,.int .u64 (wQ v { v.m.q with bw:=x }).m.rate,.int .u64 (wQ v { v.m.q with bw:=x }).m.win,.int .u64 (wQ v { v.m.q with bw:=x }).g,.bool (wQ v { v.m.q with bw:=x }).m.rec',.bool (wQ v { v.m.q with bw:=x }).m.first,.int .u64 (wQ v { v.m.q with bw:=x }).m.til,.int .u64 (wQ v { v.m.q with bw:=x }).m.sav]):=h.fin
     refine w_ldAll (x:=s) h rfl ?_
     refine w_call (rbegin_tri b nw (wQ v { v.m.q with bw:=x }) s) h fun _ w h=>?_
     exact h.fin
   ·refine w_deref (w_ld h rfl (w_ite (fun c=>?_) fun c=>?_))
    ·refine w_deref (w_ld h rfl (w_call (rnear_tri v.m.q.bw x hv.bw hU) h fun r w h=>?_))
     obtain ⟨hr,h⟩:=h.purP
     have c:v.m.q.bw > 0:=of_decide_eq_true c
     exact ⟨by rw [hr];simp [c],h.fin⟩
    ·have c:¬ v.m.q.bw > 0:=of_decide_eq_false c
     exact ⟨by simp [c],h.fin⟩
  ·refine w_ite (fun c=>?_) fun c=>?_
   ·have c:subI (sDel s) v.m.q.d0=0∨subI (sNow s) v.m.q.t0=0:=by simpa using c
    have e:qEnd v.m.q s=v.m.q:=by unfold qEnd qMeas;rw [if_pos c]
    rw [e];exact h.fin
   have c:¬ (subI (sDel s) v.m.q.d0=0∨subI (sNow s) v.m.q.t0=0):=by simpa using c
   refine w_call (rmd_tri _ _ _ hd (U_lit 50) (U_lit 256)) h fun r w h=>?_
   obtain ⟨hr,h⟩:=h.purP
   rw [hr]
   refine w_ite (fun c2=>?_) fun c2=>?_
   ·have e:qEnd v.m.q s=v.m.q:=by unfold qEnd qMeas;rw [if_neg c,if_pos (of_decide_eq_true c2)]
    rw [e];exact h.fin
   ·exact ⟨by unfold qMeas;rw [if_neg c,if_neg (of_decide_eq_false c2)],h.fin⟩
theorem rlupd_tri (b nw:Nat) (v:Rm) (hv:OkL v.m.q) (o:Bool) (s:Sm) (hs:OkS s):Tri Tryz.prog N_canterref08_Policer_Update [.lf (.ptr (some ⟨b,15⟩)),.lf (.bool o),.agg (Ks.mk K_u8b s)] [] (blk b [.int .u64 v.m.mss,.ptr (some ⟨nw,0⟩),.int .u64 v.m.r.n,.int .u64 v.m.r.nx,.int .u64 v.m.p.best,.int .i64 v.m.p.n,.bool v.m.p.full,.int .i64 v.m.c.ph,.int .u64 v.m.c.at',.int .u64 v.m.b.best,.int .u64 v.m.b.at',.bool v.m.b.on,.bool v.set,.bool v.m.b.rd,.int .u64 v.till,.bool v.m.q.use,.bool v.m.q.mea,.int .u64 v.m.q.bw,.int .i64 v.m.q.n,.int .u64 v.m.q.lost,.int .u64 v.m.q.t0,.int .u64 v.m.q.d0,.int .u64 v.m.q.l0,.int .i64 v.m.mode,.int .u64 v.m.rate,.int .u64 v.m.win,.int .u64 v.g,.bool v.m.rec',.bool v.m.first,.int .u64 v.m.til,.int .u64 v.m.sav]) (fun _=>blk b [.int .u64 (wQ v (qUpd v.m.q o s)).m.mss,.ptr (some ⟨nw,0⟩),.int .u64 (wQ v (qUpd v.m.q o s)).m.r.n,.int .u64 (wQ v (qUpd v.m.q o s)).m.r.nx,.int .u64 (wQ v (qUpd v.m.q o s)).m.p.best,.int .i64 (wQ v (qUpd v.m.q o s)).m.p.n,.bool (wQ v (qUpd v.m.q o s)).m.p.full,.int .i64 (wQ v (qUpd v.m.q o s)).m.c.ph,.int .u64 (wQ v (qUpd v.m.q o s)).m.c.at',.int .u64 (wQ v (qUpd v.m.q o s)).m.b.best,.int .u64 (wQ v (qUpd v.m.q o s)).m.b.at',.bool (wQ v (qUpd v.m.q o s)).m.b.on,.bool (wQ v (qUpd v.m.q o s)).set,.bool (wQ v (qUpd v.m.q o s)).m.b.rd,.int .u64 (wQ v (qUpd v.m.q o s)).till,.bool (wQ v (qUpd v.m.q o s)).m.q.use,.bool (wQ v (qUpd v.m.q o s)).m.q.mea,.int .u64 (wQ v (qUpd v.m.q o s)).m.q.bw,.int .i64 (wQ v (qUpd v.m.q o s)).m.q.n,.int .u64 (wQ v (qUpd v.m.q o s)).m.q.lost,.int .u64 (wQ v (qUpd v.m.q o s)).m.q.t0,.int .u64 (wQ v (qUpd v.m.q o s)).m.q.d0,.int .u64 (wQ v (qUpd v.m.q o s)).m.q.l0,.int .i64 (wQ v (qUpd v.m.q o s)).m.mode,.int .u64 (wQ v (qUpd v.m.q o s)).m.rate,.int .u64 (wQ v (qUpd v.m.q o s)).m.win,.int .u64 (wQ v (qUpd v.m.q o s)).g,.bool (wQ v (qUpd v.m.q o s)).m.rec',.bool (wQ v (qUpd v.m.q o s)).m.first,.int .u64 (wQ v (qUpd v.m.q o s)).m.til,.int .u64 (wQ v (qUpd v.m.q o s)).m.sav]) :=
 tri_0 (call_canterref08_Policer_Update _ _ _) fun w0 S R h=>by
  unfold W_canterref08_Policer_Update
  refine w_new h fun n1 w h=>?_
  repeat' (first
   | (refine w_drw h fun w h=>?_)
   | (refine w_deref ?_)
   | (refine w_ldAll h rfl ?_)
   | (refine w_ld h rfl ?_)
   | (refine w_chkAll h ?_)
   | (refine w_chk h rfl ?_)
   | (refine w_setAll h (by rfl) fun w h=>?_)
   | (refine w_new h fun n w h=>?_)
   | (refine w_leave h fun w h=>?_)
   | (refine w_set h rfl fun w h=>?_;dsimp only [upd,over] at h)
   | (refine w_call (radd_tri _ _ hv.lost hs.lost) h fun r w h=>?_;obtain ⟨hr,h⟩:=h.purP;(try dsimp only at hr h);try rw [hr]))
  have hq1:=hv.add hs
  have hdef:qUpd v.m.q o s=if (qAdd v.m.q s).use=false∧(qAdd v.m.q s).mea=false then (if sLost s > 0 then qBegin (qAdd v.m.q s) s else qAdd v.m.q s)
    else if (qAdd v.m.q s).use=false∧sLim s=true then qLeave (qAdd v.m.q s) else qGo (qTick (qAdd v.m.q s) o) o s:=rfl
  rw [hdef]
  have h:=(h.blkEq (b:=b) (L':=[.int .u64 (wQ v (qAdd v.m.q s)).m.mss,.ptr (some ⟨nw,0⟩),.int .u64 (wQ v (qAdd v.m.q s)).m.r.n,.int .u64 (wQ v (qAdd v.m.q s)).m.r.nx,.int .u64 (wQ v (qAdd v.m.q s)).m.p.best,.int .i64 (wQ v (qAdd v.m.q s)).m.p.n,.bool (wQ v (qAdd v.m.q s)).m.p.full,.int .i64 (wQ v (qAdd v.m.q s)).m.c.ph,.int .u64 (wQ v (qAdd v.m.q s)).m.c.at',.int .u64 (wQ v (qAdd v.m.q s)).m.b.best,.int .u64 (wQ v (qAdd v.m.q s)).m.b.at',.bool (wQ v (qAdd v.m.q s)).m.b.on,.bool (wQ v (qAdd v.m.q s)).set,.bool (wQ v (qAdd v.m.q s)).m.b.rd,.int .u64 (wQ v (qAdd v.m.q s)).till,.bool (wQ v (qAdd v.m.q s)).m.q.use,.bool (wQ v (qAdd v.m.q s)).m.q.mea,.int .u64 (wQ v (qAdd v.m.q s)).m.q.bw,.int .i64 (wQ v (qAdd v.m.q s)).m.q.n,.int .u64 (wQ v (qAdd v.m.q s)).m.q.lost,.int .u64 (wQ v (qAdd v.m.q s)).m.q.t0,.int .u64 (wQ v (qAdd v.m.q s)).m.q.d0,.int .u64 (wQ v (qAdd v.m.q s)).m.q.l0,.int .i64 (wQ v (qAdd v.m.q s)).m.mode,.int .u64 (wQ v (qAdd v.m.q s)).m.rate,.int .u64 (wQ v (qAdd v.m.q s)).m.win,.int .u64 (wQ v (qAdd v.m.q s)).g,.bool (wQ v (qAdd v.m.q s)).m.rec',.bool (wQ v (qAdd v.m.q s)).m.first,.int .u64 (wQ v (qAdd v.m.q s)).m.til,.int .u64 (wQ v (qAdd v.m.q s)).m.sav]) (by simp [qAdd]))
  have e1:v.m.q.use=(qAdd v.m.q s).use:=rfl
  have e2:v.m.q.mea=(qAdd v.m.q s).mea:=rfl
  rw [e1]
  generalize qAdd v.m.q s=u at *
  have h:Own _ _ _ _ (blk n1 (Ks.mk K_u8b s)^blk b [.int .u64 (wQ v u).m.mss,.ptr (some ⟨nw,0⟩),.int .u64 (wQ v u).m.r.n,.int .u64 (wQ v u).m.r.nx,.int .u64 (wQ v u).m.p.best,.int .i64 (wQ v u).m.p.n,.bool (wQ v u).m.p.full,.int .i64 (wQ v u).m.c.ph,.int .u64 (wQ v u).m.c.at',.int .u64 (wQ v u).m.b.best,.int .u64 (wQ v u).m.b.at',.bool (wQ v u).m.b.on,.bool (wQ v u).set,.bool (wQ v u).m.b.rd,.int .u64 (wQ v u).till,.bool (wQ v u).m.q.use,.bool (wQ v u).m.q.mea,.int .u64 (wQ v u).m.q.bw,.int .i64 (wQ v u).m.q.n,.int .u64 (wQ v u).m.q.lost,.int .u64 (wQ v u).m.q.t0,.int .u64 (wQ v u).m.q.d0,.int .u64 (wQ v u).m.q.l0,.int .i64 (wQ v u).m.mode,.int .u64 (wQ v u).m.rate,.int .u64 (wQ v u).m.win,.int .u64 (wQ v u).g,.bool (wQ v u).m.rec',.bool (wQ v u).m.first,.int .u64 (wQ v u).m.til,.int .u64 (wQ v u).m.sav]):=h.fin
  have hn:=hq1.n
  have htick:∀ (w:World),Own w0 S R w (blk n1 (Ks.mk K_u8b s)^blk b [.int .u64 (wQ v u).m.mss,.ptr (some ⟨nw,0⟩),.int .u64 (wQ v u).m.r.n,.int .u64 (wQ v u).m.r.nx,.int .u64 (wQ v u).m.p.best,.int .i64 (wQ v u).m.p.n,.bool (wQ v u).m.p.full,.int .i64 (wQ v u).m.c.ph,.int .u64 (wQ v u).m.c.at',.int .u64 (wQ v u).m.b.best,.int .u64 (wQ v u).m.b.at',.bool (wQ v u).m.b.on,.bool (wQ v u).set,.bool (wQ v u).m.b.rd,.int .u64 (wQ v u).till,.bool (wQ v u).m.q.use,.bool (wQ v u).m.q.mea,.int .u64 (wQ v u).m.q.bw,.int .i64 (wQ v u).m.q.n,.int .u64 (wQ v u).m.q.lost,.int .u64 (wQ v u).m.q.t0,.int .u64 (wQ v u).m.q.d0,.int .u64 (wQ v u).m.q.l0,.int .i64 (wQ v u).m.mode,.int .u64 (wQ v u).m.rate,.int .u64 (wQ v u).m.win,.int .u64 (wQ v u).g,.bool (wQ v u).m.rec',.bool (wQ v u).m.first,.int .u64 (wQ v u).m.til,.int .u64 (wQ v u).m.sav])→∀ K:WP,(∀ w,Own w0 S R w (blk n1 (Ks.mk K_u8b s)^blk b [.int .u64 (wQ v (qTick u o)).m.mss,.ptr (some ⟨nw,0⟩),.int .u64 (wQ v (qTick u o)).m.r.n,.int .u64 (wQ v (qTick u o)).m.r.nx,.int .u64 (wQ v (qTick u o)).m.p.best,.int .i64 (wQ v (qTick u o)).m.p.n,.bool (wQ v (qTick u o)).m.p.full,.int .i64 (wQ v (qTick u o)).m.c.ph,.int .u64 (wQ v (qTick u o)).m.c.at',.int .u64 (wQ v (qTick u o)).m.b.best,.int .u64 (wQ v (qTick u o)).m.b.at',.bool (wQ v (qTick u o)).m.b.on,.bool (wQ v (qTick u o)).set,.bool (wQ v (qTick u o)).m.b.rd,.int .u64 (wQ v (qTick u o)).till,.bool (wQ v (qTick u o)).m.q.use,.bool (wQ v (qTick u o)).m.q.mea,.int .u64 (wQ v (qTick u o)).m.q.bw,.int .i64 (wQ v (qTick u o)).m.q.n,.int .u64 (wQ v (qTick u o)).m.q.lost,.int .u64 (wQ v (qTick u o)).m.q.t0,.int .u64 (wQ v (qTick u o)).m.q.d0,.int .u64 (wQ v (qTick u o)).m.q.l0,.int .i64 (wQ v (qTick u o)).m.mode,.int .u64 (wQ v (qTick u o)).m.rate,.int .u64 (wQ v (qTick u o)).m.win,.int .u64 (wQ v (qTick u o)).g,.bool (wQ v (qTick u o)).m.rec',.bool (wQ v (qTick u o)).m.first,.int .u64 (wQ v (qTick u o)).m.til,.int .u64 (wQ v (qTick u o)).m.sav])→K w) →
    ite' o (deref (some ⟨b,15⟩) fun q11=>ld [.int .i64] ⟨q11.b,q11.o+3⟩ fun (x12:Int)=>deref (some ⟨b,15⟩) fun q13=>st ⟨q13.b,q13.o+3⟩ [.int .i64 (IntKind.i64.wrap (x12+(1:Int)))] <| K) K w:=by
   intro w h K hK
   refine w_ite (fun c=>?_) fun c=>?_
   ·refine w_deref (w_ld h rfl (w_deref ?_))
    dsimp only
    rw [wi (n:=u.n+1) (by omega) (by omega)]
    refine w_set h rfl fun w h=>hK w ?_
    have h:=(h.blkEq (b:=b) (L':=[.int .u64 (wQ v (qTick u o)).m.mss,.ptr (some ⟨nw,0⟩),.int .u64 (wQ v (qTick u o)).m.r.n,.int .u64 (wQ v (qTick u o)).m.r.nx,.int .u64 (wQ v (qTick u o)).m.p.best,.int .i64 (wQ v (qTick u o)).m.p.n,.bool (wQ v (qTick u o)).m.p.full,.int .i64 (wQ v (qTick u o)).m.c.ph,.int .u64 (wQ v (qTick u o)).m.c.at',.int .u64 (wQ v (qTick u o)).m.b.best,.int .u64 (wQ v (qTick u o)).m.b.at',.bool (wQ v (qTick u o)).m.b.on,.bool (wQ v (qTick u o)).set,.bool (wQ v (qTick u o)).m.b.rd,.int .u64 (wQ v (qTick u o)).till,.bool (wQ v (qTick u o)).m.q.use,.bool (wQ v (qTick u o)).m.q.mea,.int .u64 (wQ v (qTick u o)).m.q.bw,.int .i64 (wQ v (qTick u o)).m.q.n,.int .u64 (wQ v (qTick u o)).m.q.lost,.int .u64 (wQ v (qTick u o)).m.q.t0,.int .u64 (wQ v (qTick u o)).m.q.d0,.int .u64 (wQ v (qTick u o)).m.q.l0,.int .i64 (wQ v (qTick u o)).m.mode,.int .u64 (wQ v (qTick u o)).m.rate,.int .u64 (wQ v (qTick u o)).m.win,.int .u64 (wQ v (qTick u o)).g,.bool (wQ v (qTick u o)).m.rec',.bool (wQ v (qTick u o)).m.first,.int .u64 (wQ v (qTick u o)).m.til,.int .u64 (wQ v (qTick u o)).m.sav]) (by rw [c];simp [qTick,upd,over]))
    exact h.fin
   ·have e:qTick u o=u:=by unfold qTick;rw [c];rfl
    exact hK w (by rw [e];exact h)
  refine w_ite (fun c=>?_) fun c=>?_
  ·have c:u.use=true:=c
   rw [if_neg (by rw [c];simp),if_neg (by rw [c];simp)]
   have hnu:=hq1.nu c
   refine w_join h (fun _=>blk n1 (Ks.mk K_u8b s)^blk b [.int .u64 (wQ v (qTick u o)).m.mss,.ptr (some ⟨nw,0⟩),.int .u64 (wQ v (qTick u o)).m.r.n,.int .u64 (wQ v (qTick u o)).m.r.nx,.int .u64 (wQ v (qTick u o)).m.p.best,.int .i64 (wQ v (qTick u o)).m.p.n,.bool (wQ v (qTick u o)).m.p.full,.int .i64 (wQ v (qTick u o)).m.c.ph,.int .u64 (wQ v (qTick u o)).m.c.at',.int .u64 (wQ v (qTick u o)).m.b.best,.int .u64 (wQ v (qTick u o)).m.b.at',.bool (wQ v (qTick u o)).m.b.on,.bool (wQ v (qTick u o)).set,.bool (wQ v (qTick u o)).m.b.rd,.int .u64 (wQ v (qTick u o)).till,.bool (wQ v (qTick u o)).m.q.use,.bool (wQ v (qTick u o)).m.q.mea,.int .u64 (wQ v (qTick u o)).m.q.bw,.int .i64 (wQ v (qTick u o)).m.q.n,.int .u64 (wQ v (qTick u o)).m.q.lost,.int .u64 (wQ v (qTick u o)).m.q.t0,.int .u64 (wQ v (qTick u o)).m.q.d0,.int .u64 (wQ v (qTick u o)).m.q.l0,.int .i64 (wQ v (qTick u o)).m.mode,.int .u64 (wQ v (qTick u o)).m.rate,.int .u64 (wQ v (qTick u o)).m.win,.int .u64 (wQ v (qTick u o)).g,.bool (wQ v (qTick u o)).m.rec',.bool (wQ v (qTick u o)).m.first,.int .u64 (wQ v (qTick u o)).m.til,.int .u64 (wQ v (qTick u o)).m.sav]) (fun _=>True) (fun _ w _ h=>?_) (htick _ h _ fun w h=>⟨trivial,h⟩)
   have hu2:(qTick u o).use=true:=by cases o<;>exact c
   unfold qGo
   rw [if_pos hu2]
   refine w_deref (w_ld h rfl (w_ite (fun c2=>?_) fun c2=>?_))
   ·have c2:(qTick u o).n ≥ 48:=of_decide_eq_true c2
    have hq:o=true∧(qTick u o).n=48:=by
     cases o with
     | false=>exfalso;have c2:u.n ≥ 48:=c2;omega
     | true=>exact ⟨rfl,by have c2:u.n+1 ≥ 48:=c2;show u.n+1=48;omega⟩
    rw [if_pos hq]
    generalize qTick u o=x at *
    have e9:({ qLeave x with n:=0 }:Pl)=⟨false,false,0,0,x.lost,x.t0,x.d0,x.l0⟩:=rfl
    rw [e9]
    repeat' (first
     | (refine w_drw h fun w h=>?_)
     | (refine w_deref ?_)
     | (refine w_ldAll h rfl ?_)
     | (refine w_ld h rfl ?_)
     | (refine w_chkAll h ?_)
     | (refine w_chk h rfl ?_)
     | (refine w_setAll h (by rfl) fun w h=>?_)
     | (refine w_new h fun n w h=>?_)
     | (refine w_leave h fun w h=>?_)
     | (refine w_set h rfl fun w h=>?_;dsimp only [upd,over] at h))
    have h:=(h.blkEq (b:=b) (L':=[.int .u64 (wQ v { x with use:=false,n:=0 }).m.mss,.ptr (some ⟨nw,0⟩),.int .u64 (wQ v { x with use:=false,n:=0 }).m.r.n,.int .u64 (wQ v { x with use:=false,n:=0 }).m.r.nx,.int .u64 (wQ v { x with use:=false,n:=0 }).m.p.best,.int .i64 (wQ v { x with use:=false,n:=0 }).m.p.n,.bool (wQ v { x with use:=false,n:=0 }).m.p.full,.int .i64 (wQ v { x with use:=false,n:=0 }).m.c.ph,.int .u64 (wQ v { x with use:=false,n:=0 }).m.c.at',.int .u64 (wQ v { x with use:=false,n:=0 }).m.b.best,.int .u64 (wQ v { x with use:=false,n:=0 }).m.b.at',.bool (wQ v { x with use:=false,n:=0 }).m.b.on,.bool (wQ v { x with use:=false,n:=0 }).set,.bool (wQ v { x with use:=false,n:=0 }).m.b.rd,.int .u64 (wQ v { x with use:=false,n:=0 }).till,.bool (wQ v { x with use:=false,n:=0 }).m.q.use,.bool (wQ v { x with use:=false,n:=0 }).m.q.mea,.int .u64 (wQ v { x with use:=false,n:=0 }).m.q.bw,.int .i64 (wQ v { x with use:=false,n:=0 }).m.q.n,.int .u64 (wQ v { x with use:=false,n:=0 }).m.q.lost,.int .u64 (wQ v { x with use:=false,n:=0 }).m.q.t0,.int .u64 (wQ v { x with use:=false,n:=0 }).m.q.d0,.int .u64 (wQ v { x with use:=false,n:=0 }).m.q.l0,.int .i64 (wQ v { x with use:=false,n:=0 }).m.mode,.int .u64 (wQ v { x with use:=false,n:=0 }).m.rate,.int .u64 (wQ v { x with use:=false,n:=0 }).m.win,.int .u64 (wQ v { x with use:=false,n:=0 }).g,.bool (wQ v { x with use:=false,n:=0 }).m.rec',.bool (wQ v { x with use:=false,n:=0 }).m.first,.int .u64 (wQ v { x with use:=false,n:=0 }).m.til,.int .u64 (wQ v { x with use:=false,n:=0 }).m.sav]) (by simp))
    refine w_call (rstop_tri b nw (wQ v { x with use:=false,n:=0 })) h fun _ w h=>?_
    exact h.fin
   ·have c2:¬ (qTick u o).n ≥ 48:=of_decide_eq_false c2
    rw [if_neg (by omega)]
    exact h.fin
  have c:u.use=false:=c
  refine w_deref (w_ld h rfl (w_ite (fun c2=>?_) fun c2=>?_))
  ·have c2:u.mea=false:=by simpa using c2
   rw [if_pos ⟨c,c2⟩]
   refine w_ld h rfl (w_ite (fun c3=>?_) fun c3=>?_)
   ·rw [if_pos (of_decide_eq_true c3)]
    refine w_ldAll (x:=s) h rfl ?_
    refine w_call (rbegin_tri b nw (wQ v u) s) h fun _ w h=>?_
    exact h.fin
   ·rw [if_neg (of_decide_eq_false c3)]
    exact h.fin
  have c2:u.mea=true:=by simpa using c2
  rw [if_neg (by rw [c2];simp)]
  have hlv:qLeave u={ u with mea:=false,bw:=0 }:=by unfold qLeave;rw [← c]
  refine w_ld h rfl (w_ite (fun c3=>?_) fun c3=>?_)
  ·rw [if_pos ⟨c,c3⟩,hlv]
   refine w_call (rstop_tri b nw (wQ v u)) h fun _ w h=>?_
   exact h.fin
  rw [if_neg (by rw [show sLim s=false from c3];simp)]
  refine w_join h (fun _=>blk n1 (Ks.mk K_u8b s)^blk b [.int .u64 (wQ v (qTick u o)).m.mss,.ptr (some ⟨nw,0⟩),.int .u64 (wQ v (qTick u o)).m.r.n,.int .u64 (wQ v (qTick u o)).m.r.nx,.int .u64 (wQ v (qTick u o)).m.p.best,.int .i64 (wQ v (qTick u o)).m.p.n,.bool (wQ v (qTick u o)).m.p.full,.int .i64 (wQ v (qTick u o)).m.c.ph,.int .u64 (wQ v (qTick u o)).m.c.at',.int .u64 (wQ v (qTick u o)).m.b.best,.int .u64 (wQ v (qTick u o)).m.b.at',.bool (wQ v (qTick u o)).m.b.on,.bool (wQ v (qTick u o)).set,.bool (wQ v (qTick u o)).m.b.rd,.int .u64 (wQ v (qTick u o)).till,.bool (wQ v (qTick u o)).m.q.use,.bool (wQ v (qTick u o)).m.q.mea,.int .u64 (wQ v (qTick u o)).m.q.bw,.int .i64 (wQ v (qTick u o)).m.q.n,.int .u64 (wQ v (qTick u o)).m.q.lost,.int .u64 (wQ v (qTick u o)).m.q.t0,.int .u64 (wQ v (qTick u o)).m.q.d0,.int .u64 (wQ v (qTick u o)).m.q.l0,.int .i64 (wQ v (qTick u o)).m.mode,.int .u64 (wQ v (qTick u o)).m.rate,.int .u64 (wQ v (qTick u o)).m.win,.int .u64 (wQ v (qTick u o)).g,.bool (wQ v (qTick u o)).m.rec',.bool (wQ v (qTick u o)).m.first,.int .u64 (wQ v (qTick u o)).m.til,.int .u64 (wQ v (qTick u o)).m.sav]) (fun _=>True) (fun _ w _ h=>?_) (htick _ h _ fun w h=>⟨trivial,h⟩)
  have hu2:(qTick u o).use=false:=by cases o<;>exact c
  have tk:=BbrL.tick_ok hq1 o
  unfold qGo
  rw [if_neg (by rw [hu2];simp)]
  have hlv:qLeave (qTick u o)={ qTick u o with mea:=false,bw:=0 }:=by unfold qLeave;rw [← hu2]
  generalize qTick u o=x at *
  refine w_deref (w_ld h rfl (w_ite (fun c4=>?_) fun c4=>?_))
  ·rw [if_pos (of_decide_eq_true c4),hlv]
   refine w_call (rstop_tri b nw (wQ v x)) h fun _ w h=>?_
   exact h.fin
  have c4:¬ x.n > 16:=of_decide_eq_false c4
  rw [if_neg c4]
  refine w_join h (fun _=>blk n1 (Ks.mk K_u8b s)^blk b [.int .u64 (wQ v x).m.mss,.ptr (some ⟨nw,0⟩),.int .u64 (wQ v x).m.r.n,.int .u64 (wQ v x).m.r.nx,.int .u64 (wQ v x).m.p.best,.int .i64 (wQ v x).m.p.n,.bool (wQ v x).m.p.full,.int .i64 (wQ v x).m.c.ph,.int .u64 (wQ v x).m.c.at',.int .u64 (wQ v x).m.b.best,.int .u64 (wQ v x).m.b.at',.bool (wQ v x).m.b.on,.bool (wQ v x).set,.bool (wQ v x).m.b.rd,.int .u64 (wQ v x).till,.bool (wQ v x).m.q.use,.bool (wQ v x).m.q.mea,.int .u64 (wQ v x).m.q.bw,.int .i64 (wQ v x).m.q.n,.int .u64 (wQ v x).m.q.lost,.int .u64 (wQ v x).m.q.t0,.int .u64 (wQ v x).m.q.d0,.int .u64 (wQ v x).m.q.l0,.int .i64 (wQ v x).m.mode,.int .u64 (wQ v x).m.rate,.int .u64 (wQ v x).m.win,.int .u64 (wQ v x).g,.bool (wQ v x).m.rec',.bool (wQ v x).m.first,.int .u64 (wQ v x).m.til,.int .u64 (wQ v x).m.sav]) (fun y:Bool=>y=decide (x.n ≥ 4∧sLost s > 0)) (fun (y:Bool) w hy h=>?_) ?_
  ·rw [hy]
   refine w_ite (fun c5=>?_) fun c5=>?_
   ·rw [if_pos (of_decide_eq_true c5)]
    refine w_ldAll (x:=s) h rfl ?_
    refine w_call (rlook_tri b nw (wQ v x) (tk (fun _=>by omega) hu2) s hs) h fun _ w h=>?_
    exact h.fin
   ·rw [if_neg (of_decide_eq_false c5)]
    exact h.fin
  ·refine w_deref (w_ld h rfl (w_ite (fun c5=>?_) fun c5=>?_))
   ·have c5:x.n ≥ 4:=of_decide_eq_true c5
    exact w_ld h rfl ⟨by rw [Bool.eq_iff_iff];simp [c5],h⟩
   ·have c5:¬ x.n ≥ 4:=of_decide_eq_false c5
    exact ⟨by simp [c5],h⟩
end BbrX

end Go.X
