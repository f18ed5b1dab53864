/- Contracts and plain facts: BbrN BbrO. -/
import Derived.Test.YtkideobegadadaaBArith
import Derived.Test.YtkideobegadadaaBDelays
import Derived.Test.YtkideobegadadaaBTarget
import Derived.Test.YtkideobegadadaaBBbrMm
import Derived.Test.YtkideobegadadaaBBbrW
import Derived.Test.YtkideobegadadaaBBbrL
import Derived.Test.YtkideobegadadaaXw
import Derived.Test.YtkideobegadadaaK
import Derived.Test.YtkideobegadadaaF0
import Derived.Test.YtkideobegadadaaF1
set_option linter.unusedVariables false
set_option linter.unusedSimpArgs false
set_option linter.unusedSectionVars false
namespace Go.X
open Go.Proofs
namespace BbrN
open Arith ArithC _root_.Go.X.Target BbrM BbrMm BbrP BbrW BbrQ BbrL
theorem new_tri (n : Int) : Tri Try.prog N_bbr_New [.lf (.int .u64 n)] [.lf .ptr] emp (fun r => ex fun x : Nat × Nat × Nat × Nat × Nat × Nat × Nat => match x with | (b, n1, n2, n3, n4, n5, n6) => pur (r = some ⟨b, 0⟩) (blk b [.ptr (some ⟨n1, 0⟩), .ptr (some ⟨n2, 0⟩), .ptr (some ⟨n3, 0⟩), .ptr (some ⟨n4, 0⟩), .ptr (some ⟨n5, 0⟩), .ptr (some ⟨n6, 0⟩), .int .u64 (mNew n).mss, .int .i64 (mNew n).mode, .int .u64 (mNew n).rate, .int .u64 (mNew n).win, .int .u64 (mNew n).sav, .bool (mNew n).rec', .bool (mNew n).first, .int .u64 (mNew n).til] ^ blk n1 [.int .u64 (mNew n).w.w, .int .u64 (mNew n).w.t0, .int .u64 (mNew n).w.v0, .int .u64 (mNew n).w.t1, .int .u64 (mNew n).w.v1, .int .u64 (mNew n).w.t2, .int .u64 (mNew n).w.v2, .int .u64 (mNew n).w.la] ^ blk n2 [.int .u64 (mNew n).r.n, .int .u64 (mNew n).r.nx] ^ blk n3 [.int .u64 (mNew n).p.best, .int .i64 (mNew n).p.n, .bool (mNew n).p.full] ^ blk n4 [.int .i64 (mNew n).c.ph, .int .u64 (mNew n).c.at'] ^ blk n5 [.int .u64 (mNew n).b.best, .int .u64 (mNew n).b.at', .bool (mNew n).b.on, .int .u64 (mNew n).b.til, .bool (mNew n).b.rd] ^ blk n6 [.bool (mNew n).q.use, .bool (mNew n).q.mea, .int .u64 (mNew n).q.bw, .int .i64 (mNew n).q.n, .int .u64 (mNew n).q.lost, .int .u64 (mNew n).q.t0, .int .u64 (mNew n).q.d0, .int .u64 (mNew n).q.l0])) :=
  tri_0 (call_bbr_New _) fun w0 S R h => by
    unfold W_bbr_New
    refine w_call (wnew_tri 10) h fun r w h => ?_
    obtain ⟨n1, h⟩ := h.exP; obtain ⟨hr, h⟩ := h.purP; rw [hr]
    refine w_call rnew_tri h fun r w h => ?_
    obtain ⟨n2, h⟩ := h.exP; obtain ⟨hr, h⟩ := h.purP; rw [hr]
    refine w_call pnew_tri h fun r w h => ?_
    obtain ⟨n3, h⟩ := h.exP; obtain ⟨hr, h⟩ := h.purP; rw [hr]
    refine w_call cnew_tri h fun r w h => ?_
    obtain ⟨n4, h⟩ := h.exP; obtain ⟨hr, h⟩ := h.purP; rw [hr]
    refine w_call bnew_tri h fun r w h => ?_
    obtain ⟨n5, h⟩ := h.exP; obtain ⟨hr, h⟩ := h.purP; rw [hr]
    refine w_call lnew_tri h fun r w h => ?_
    obtain ⟨n6, h⟩ := h.exP; obtain ⟨hr, h⟩ := h.purP; rw [hr]
    have hm := mss_r n
    refine w_new h fun b w h => ?_
    change Own w0 S R w (blk b [.ptr (some ⟨n1, 0⟩), .ptr (some ⟨n2, 0⟩), .ptr (some ⟨n3, 0⟩), .ptr (some ⟨n4, 0⟩), .ptr (some ⟨n5, 0⟩), .ptr (some ⟨n6, 0⟩), .int .u64 (mMss n), .int .i64 0, .int .u64 0, .int .u64 0, .int .u64 0, .bool false, .bool false, .int .u64 0] ^ _) at h
    change deref _ (fun q8 => st _ [.int .u64 (IntKind.u64.wrap (10 * mMss n))] _) w
    rw [wu (n := 10 * mMss n) (by omega) (by omega)]
    refine w_deref (w_setTo h b [.ptr (some ⟨n1, 0⟩), .ptr (some ⟨n2, 0⟩), .ptr (some ⟨n3, 0⟩), .ptr (some ⟨n4, 0⟩), .ptr (some ⟨n5, 0⟩), .ptr (some ⟨n6, 0⟩), .int .u64 (mMss n), .int .i64 0, .int .u64 0, .int .u64 (10 * mMss n), .int .u64 0, .bool false, .bool false, .int .u64 0] rfl rfl rfl fun w h => ?_)
    refine w_deref (w_ld h rfl ?_)
    rw [wu (n := 10 * mMss n * 1000) (by omega) (by omega)]
    refine w_call (rate_tri (10 * mMss n * 1000) 739 ⟨by omega, by omega⟩ (U_lit _)) h fun r w h => ?_
    obtain ⟨hr, h⟩ := h.purP; rw [hr]
    refine w_deref (w_setTo h b [.ptr (some ⟨n1, 0⟩), .ptr (some ⟨n2, 0⟩), .ptr (some ⟨n3, 0⟩), .ptr (some ⟨n4, 0⟩), .ptr (some ⟨n5, 0⟩), .ptr (some ⟨n6, 0⟩), .int .u64 (mNew n).mss, .int .i64 (mNew n).mode, .int .u64 (mNew n).rate, .int .u64 (mNew n).win, .int .u64 (mNew n).sav, .bool (mNew n).rec', .bool (mNew n).first, .int .u64 (mNew n).til] rfl rfl rfl fun w h => ?_)
    exact Own.retE (b, n1, n2, n3, n4, n5, n6) (Own.retP rfl h.fin)
section
variable (b n1 n2 n3 n4 n5 n6 : Nat) (m : Md)
theorem bw_tri : Tri Try.prog N_bbr_Model_bw [.lf (.ptr (some ⟨b, 0⟩))] [.lf (.int .u64)] (blk b [.ptr (some ⟨n1, 0⟩), .ptr (some ⟨n2, 0⟩), .ptr (some ⟨n3, 0⟩), .ptr (some ⟨n4, 0⟩), .ptr (some ⟨n5, 0⟩), .ptr (some ⟨n6, 0⟩), .int .u64 m.mss, .int .i64 m.mode, .int .u64 m.rate, .int .u64 m.win, .int .u64 m.sav, .bool m.rec', .bool m.first, .int .u64 m.til] ^ blk n1 [.int .u64 m.w.w, .int .u64 m.w.t0, .int .u64 m.w.v0, .int .u64 m.w.t1, .int .u64 m.w.v1, .int .u64 m.w.t2, .int .u64 m.w.v2, .int .u64 m.w.la] ^ blk n2 [.int .u64 m.r.n, .int .u64 m.r.nx] ^ blk n3 [.int .u64 m.p.best, .int .i64 m.p.n, .bool m.p.full] ^ blk n4 [.int .i64 m.c.ph, .int .u64 m.c.at'] ^ blk n5 [.int .u64 m.b.best, .int .u64 m.b.at', .bool m.b.on, .int .u64 m.b.til, .bool m.b.rd] ^ blk n6 [.bool m.q.use, .bool m.q.mea, .int .u64 m.q.bw, .int .i64 m.q.n, .int .u64 m.q.lost, .int .u64 m.q.t0, .int .u64 m.q.d0, .int .u64 m.q.l0]) (fun r => pur (r = mBw m) (blk b [.ptr (some ⟨n1, 0⟩), .ptr (some ⟨n2, 0⟩), .ptr (some ⟨n3, 0⟩), .ptr (some ⟨n4, 0⟩), .ptr (some ⟨n5, 0⟩), .ptr (some ⟨n6, 0⟩), .int .u64 m.mss, .int .i64 m.mode, .int .u64 m.rate, .int .u64 m.win, .int .u64 m.sav, .bool m.rec', .bool m.first, .int .u64 m.til] ^ blk n1 [.int .u64 m.w.w, .int .u64 m.w.t0, .int .u64 m.w.v0, .int .u64 m.w.t1, .int .u64 m.w.v1, .int .u64 m.w.t2, .int .u64 m.w.v2, .int .u64 m.w.la] ^ blk n2 [.int .u64 m.r.n, .int .u64 m.r.nx] ^ blk n3 [.int .u64 m.p.best, .int .i64 m.p.n, .bool m.p.full] ^ blk n4 [.int .i64 m.c.ph, .int .u64 m.c.at'] ^ blk n5 [.int .u64 m.b.best, .int .u64 m.b.at', .bool m.b.on, .int .u64 m.b.til, .bool m.b.rd] ^ blk n6 [.bool m.q.use, .bool m.q.mea, .int .u64 m.q.bw, .int .i64 m.q.n, .int .u64 m.q.lost, .int .u64 m.q.t0, .int .u64 m.q.d0, .int .u64 m.q.l0])) :=
  tri_0 (call_bbr_Model_bw _) fun w0 S R h => by
    unfold W_bbr_Model_bw
    repeat' (first
      | (refine w_drw h fun w h => ?_)
      | (refine w_deref ?_)
      | (refine w_ldAll h rfl ?_)
      | (refine w_ld h rfl ?_)
      | (refine w_chkAll h ?_)
      | (refine w_chk h rfl ?_)
      | (refine w_setAll h (by rfl) fun w h => ?_)
      | (refine w_new h fun n w h => ?_)
      | (refine w_leave h fun w h => ?_)
      | (refine w_set h rfl fun w h => ?_; dsimp only [upd, over] at h)
      | (refine w_call (luse_tri n6 m.q) h fun r w h => ?_; obtain ⟨hr, h⟩ := h.purP; (try dsimp only at hr h); try rw [hr]))
    refine w_ite (fun c => ?_) fun c => ?_
    · have c : m.q.use = true := c
      exact Own.retP (by unfold mBw; rw [c]; rfl) h.fin
    · have c : m.q.use = false := c
      repeat' (first
        | (refine w_drw h fun w h => ?_)
        | (refine w_deref ?_)
        | (refine w_ldAll h rfl ?_)
        | (refine w_ld h rfl ?_)
        | (refine w_chkAll h ?_)
        | (refine w_chk h rfl ?_)
        | (refine w_setAll h (by rfl) fun w h => ?_)
        | (refine w_new h fun n w h => ?_)
        | (refine w_leave h fun w h => ?_)
        | (refine w_set h rfl fun w h => ?_; dsimp only [upd, over] at h)
        | (refine w_call (best_tri n1 m.w) h fun r w h => ?_; obtain ⟨hr, h⟩ := h.purP; (try dsimp only at hr h); try rw [hr]))
      exact Own.retP (by unfold mBw; rw [c]; rfl) h.fin
theorem pol_tri : Tri Try.prog N_bbr_Model_policed [.lf (.ptr (some ⟨b, 0⟩))] [.lf .bool] (blk b [.ptr (some ⟨n1, 0⟩), .ptr (some ⟨n2, 0⟩), .ptr (some ⟨n3, 0⟩), .ptr (some ⟨n4, 0⟩), .ptr (some ⟨n5, 0⟩), .ptr (some ⟨n6, 0⟩), .int .u64 m.mss, .int .i64 m.mode, .int .u64 m.rate, .int .u64 m.win, .int .u64 m.sav, .bool m.rec', .bool m.first, .int .u64 m.til] ^ blk n1 [.int .u64 m.w.w, .int .u64 m.w.t0, .int .u64 m.w.v0, .int .u64 m.w.t1, .int .u64 m.w.v1, .int .u64 m.w.t2, .int .u64 m.w.v2, .int .u64 m.w.la] ^ blk n2 [.int .u64 m.r.n, .int .u64 m.r.nx] ^ blk n3 [.int .u64 m.p.best, .int .i64 m.p.n, .bool m.p.full] ^ blk n4 [.int .i64 m.c.ph, .int .u64 m.c.at'] ^ blk n5 [.int .u64 m.b.best, .int .u64 m.b.at', .bool m.b.on, .int .u64 m.b.til, .bool m.b.rd] ^ blk n6 [.bool m.q.use, .bool m.q.mea, .int .u64 m.q.bw, .int .i64 m.q.n, .int .u64 m.q.lost, .int .u64 m.q.t0, .int .u64 m.q.d0, .int .u64 m.q.l0]) (fun r => pur (r = m.q.use) (blk b [.ptr (some ⟨n1, 0⟩), .ptr (some ⟨n2, 0⟩), .ptr (some ⟨n3, 0⟩), .ptr (some ⟨n4, 0⟩), .ptr (some ⟨n5, 0⟩), .ptr (some ⟨n6, 0⟩), .int .u64 m.mss, .int .i64 m.mode, .int .u64 m.rate, .int .u64 m.win, .int .u64 m.sav, .bool m.rec', .bool m.first, .int .u64 m.til] ^ blk n1 [.int .u64 m.w.w, .int .u64 m.w.t0, .int .u64 m.w.v0, .int .u64 m.w.t1, .int .u64 m.w.v1, .int .u64 m.w.t2, .int .u64 m.w.v2, .int .u64 m.w.la] ^ blk n2 [.int .u64 m.r.n, .int .u64 m.r.nx] ^ blk n3 [.int .u64 m.p.best, .int .i64 m.p.n, .bool m.p.full] ^ blk n4 [.int .i64 m.c.ph, .int .u64 m.c.at'] ^ blk n5 [.int .u64 m.b.best, .int .u64 m.b.at', .bool m.b.on, .int .u64 m.b.til, .bool m.b.rd] ^ blk n6 [.bool m.q.use, .bool m.q.mea, .int .u64 m.q.bw, .int .i64 m.q.n, .int .u64 m.q.lost, .int .u64 m.q.t0, .int .u64 m.q.d0, .int .u64 m.q.l0])) :=
  tri_0 (call_bbr_Model_policed _) fun w0 S R h => by
    unfold W_bbr_Model_policed
    repeat' (first
      | (refine w_drw h fun w h => ?_)
      | (refine w_deref ?_)
      | (refine w_ldAll h rfl ?_)
      | (refine w_ld h rfl ?_)
      | (refine w_chkAll h ?_)
      | (refine w_chk h rfl ?_)
      | (refine w_setAll h (by rfl) fun w h => ?_)
      | (refine w_new h fun n w h => ?_)
      | (refine w_leave h fun w h => ?_)
      | (refine w_set h rfl fun w h => ?_; dsimp only [upd, over] at h)
      | (refine w_call (luse_tri n6 m.q) h fun r w h => ?_; obtain ⟨hr, h⟩ := h.purP; (try dsimp only at hr h); try rw [hr]))
    exact Own.retP rfl h.fin
theorem gainm_tri : Tri Try.prog N_bbr_Model_gain [.lf (.ptr (some ⟨b, 0⟩))] [.lf (.int .u64)] (blk b [.ptr (some ⟨n1, 0⟩), .ptr (some ⟨n2, 0⟩), .ptr (some ⟨n3, 0⟩), .ptr (some ⟨n4, 0⟩), .ptr (some ⟨n5, 0⟩), .ptr (some ⟨n6, 0⟩), .int .u64 m.mss, .int .i64 m.mode, .int .u64 m.rate, .int .u64 m.win, .int .u64 m.sav, .bool m.rec', .bool m.first, .int .u64 m.til] ^ blk n1 [.int .u64 m.w.w, .int .u64 m.w.t0, .int .u64 m.w.v0, .int .u64 m.w.t1, .int .u64 m.w.v1, .int .u64 m.w.t2, .int .u64 m.w.v2, .int .u64 m.w.la] ^ blk n2 [.int .u64 m.r.n, .int .u64 m.r.nx] ^ blk n3 [.int .u64 m.p.best, .int .i64 m.p.n, .bool m.p.full] ^ blk n4 [.int .i64 m.c.ph, .int .u64 m.c.at'] ^ blk n5 [.int .u64 m.b.best, .int .u64 m.b.at', .bool m.b.on, .int .u64 m.b.til, .bool m.b.rd] ^ blk n6 [.bool m.q.use, .bool m.q.mea, .int .u64 m.q.bw, .int .i64 m.q.n, .int .u64 m.q.lost, .int .u64 m.q.t0, .int .u64 m.q.d0, .int .u64 m.q.l0]) (fun r => pur (r = mGain m) (blk b [.ptr (some ⟨n1, 0⟩), .ptr (some ⟨n2, 0⟩), .ptr (some ⟨n3, 0⟩), .ptr (some ⟨n4, 0⟩), .ptr (some ⟨n5, 0⟩), .ptr (some ⟨n6, 0⟩), .int .u64 m.mss, .int .i64 m.mode, .int .u64 m.rate, .int .u64 m.win, .int .u64 m.sav, .bool m.rec', .bool m.first, .int .u64 m.til] ^ blk n1 [.int .u64 m.w.w, .int .u64 m.w.t0, .int .u64 m.w.v0, .int .u64 m.w.t1, .int .u64 m.w.v1, .int .u64 m.w.t2, .int .u64 m.w.v2, .int .u64 m.w.la] ^ blk n2 [.int .u64 m.r.n, .int .u64 m.r.nx] ^ blk n3 [.int .u64 m.p.best, .int .i64 m.p.n, .bool m.p.full] ^ blk n4 [.int .i64 m.c.ph, .int .u64 m.c.at'] ^ blk n5 [.int .u64 m.b.best, .int .u64 m.b.at', .bool m.b.on, .int .u64 m.b.til, .bool m.b.rd] ^ blk n6 [.bool m.q.use, .bool m.q.mea, .int .u64 m.q.bw, .int .i64 m.q.n, .int .u64 m.q.lost, .int .u64 m.q.t0, .int .u64 m.q.d0, .int .u64 m.q.l0])) :=
  tri_0 (call_bbr_Model_gain _) fun w0 S R h => by
    unfold W_bbr_Model_gain
    repeat' (first
      | (refine w_drw h fun w h => ?_)
      | (refine w_deref ?_)
      | (refine w_ldAll h rfl ?_)
      | (refine w_ld h rfl ?_)
      | (refine w_chkAll h ?_)
      | (refine w_chk h rfl ?_)
      | (refine w_setAll h (by rfl) fun w h => ?_)
      | (refine w_new h fun n w h => ?_)
      | (refine w_leave h fun w h => ?_)
      | (refine w_set h rfl fun w h => ?_; dsimp only [upd, over] at h))
    refine w_ite (fun c => ?_) fun c => ?_
    · exact Own.retP (by unfold mGain; rw [if_pos (by simpa using c)]) h.fin
    repeat' (first
      | (refine w_drw h fun w h => ?_)
      | (refine w_deref ?_)
      | (refine w_ldAll h rfl ?_)
      | (refine w_ld h rfl ?_)
      | (refine w_chkAll h ?_)
      | (refine w_chk h rfl ?_)
      | (refine w_setAll h (by rfl) fun w h => ?_)
      | (refine w_new h fun n w h => ?_)
      | (refine w_leave h fun w h => ?_)
      | (refine w_set h rfl fun w h => ?_; dsimp only [upd, over] at h))
    refine w_ite (fun c2 => ?_) fun c2 => ?_
    · exact Own.retP (by unfold mGain; rw [if_neg (by simpa using c), if_pos (by simpa using c2)]) h.fin
    have e : mGain m = if m.mode = 2 ∧ m.q.use = false then cG m.c else 256 := by unfold mGain; rw [if_neg (by simpa using c), if_neg (by simpa using c2)]
    rw [e]
    refine w_join h (fun _ => blk b [.ptr (some ⟨n1, 0⟩), .ptr (some ⟨n2, 0⟩), .ptr (some ⟨n3, 0⟩), .ptr (some ⟨n4, 0⟩), .ptr (some ⟨n5, 0⟩), .ptr (some ⟨n6, 0⟩), .int .u64 m.mss, .int .i64 m.mode, .int .u64 m.rate, .int .u64 m.win, .int .u64 m.sav, .bool m.rec', .bool m.first, .int .u64 m.til] ^ blk n1 [.int .u64 m.w.w, .int .u64 m.w.t0, .int .u64 m.w.v0, .int .u64 m.w.t1, .int .u64 m.w.v1, .int .u64 m.w.t2, .int .u64 m.w.v2, .int .u64 m.w.la] ^ blk n2 [.int .u64 m.r.n, .int .u64 m.r.nx] ^ blk n3 [.int .u64 m.p.best, .int .i64 m.p.n, .bool m.p.full] ^ blk n4 [.int .i64 m.c.ph, .int .u64 m.c.at'] ^ blk n5 [.int .u64 m.b.best, .int .u64 m.b.at', .bool m.b.on, .int .u64 m.b.til, .bool m.b.rd] ^ blk n6 [.bool m.q.use, .bool m.q.mea, .int .u64 m.q.bw, .int .i64 m.q.n, .int .u64 m.q.lost, .int .u64 m.q.t0, .int .u64 m.q.d0, .int .u64 m.q.l0]) (fun y : Bool => y = decide (m.mode = 2 ∧ m.q.use = false)) (fun (y : Bool) w hy h => ?_) ?_
    · rw [hy]
      refine w_ite (fun c3 => ?_) fun c3 => ?_
      · have c3 : m.mode = 2 ∧ m.q.use = false := by simpa using c3
        rw [if_pos c3]
        repeat' (first
          | (refine w_drw h fun w h => ?_)
          | (refine w_deref ?_)
          | (refine w_ldAll h rfl ?_)
          | (refine w_ld h rfl ?_)
          | (refine w_chkAll h ?_)
          | (refine w_chk h rfl ?_)
          | (refine w_setAll h (by rfl) fun w h => ?_)
          | (refine w_new h fun n w h => ?_)
          | (refine w_leave h fun w h => ?_)
          | (refine w_set h rfl fun w h => ?_; dsimp only [upd, over] at h)
          | (refine w_call (gain_tri n4 m.c) h fun r w h => ?_; obtain ⟨hr, h⟩ := h.purP; (try dsimp only at hr h); try rw [hr]))
        exact Own.retP rfl h.fin
      · have c3 : ¬ (m.mode = 2 ∧ m.q.use = false) := by simpa using c3
        rw [if_neg c3]
        exact Own.retP rfl h.fin
    · repeat' (first
        | (refine w_drw h fun w h => ?_)
        | (refine w_deref ?_)
        | (refine w_ldAll h rfl ?_)
        | (refine w_ld h rfl ?_)
        | (refine w_chkAll h ?_)
        | (refine w_chk h rfl ?_)
        | (refine w_setAll h (by rfl) fun w h => ?_)
        | (refine w_new h fun n w h => ?_)
        | (refine w_leave h fun w h => ?_)
        | (refine w_set h rfl fun w h => ?_; dsimp only [upd, over] at h))
      refine w_ite (fun c3 => ?_) fun c3 => ?_
      · have c3 : m.mode = 2 := by simpa using c3
        repeat' (first
          | (refine w_drw h fun w h => ?_)
          | (refine w_deref ?_)
          | (refine w_ldAll h rfl ?_)
          | (refine w_ld h rfl ?_)
          | (refine w_chkAll h ?_)
          | (refine w_chk h rfl ?_)
          | (refine w_setAll h (by rfl) fun w h => ?_)
          | (refine w_new h fun n w h => ?_)
          | (refine w_leave h fun w h => ?_)
          | (refine w_set h rfl fun w h => ?_; dsimp only [upd, over] at h)
          | (refine w_call (pol_tri b n1 n2 n3 n4 n5 n6 m) h fun r w h => ?_; obtain ⟨hr, h⟩ := h.purP; (try dsimp only at hr h); try rw [hr]))
        exact ⟨by rw [Bool.eq_iff_iff]; simp [c3], h.fin⟩
      · have c3 : ¬ m.mode = 2 := by simpa using c3
        exact ⟨by simp [c3], h.fin⟩
theorem wide_tri' : Tri Try.prog N_bbr_Model_wideGain [.lf (.ptr (some ⟨b, 0⟩))] [.lf (.int .u64)] (blk b [.ptr (some ⟨n1, 0⟩), .ptr (some ⟨n2, 0⟩), .ptr (some ⟨n3, 0⟩), .ptr (some ⟨n4, 0⟩), .ptr (some ⟨n5, 0⟩), .ptr (some ⟨n6, 0⟩), .int .u64 m.mss, .int .i64 m.mode, .int .u64 m.rate, .int .u64 m.win, .int .u64 m.sav, .bool m.rec', .bool m.first, .int .u64 m.til] ^ blk n1 [.int .u64 m.w.w, .int .u64 m.w.t0, .int .u64 m.w.v0, .int .u64 m.w.t1, .int .u64 m.w.v1, .int .u64 m.w.t2, .int .u64 m.w.v2, .int .u64 m.w.la] ^ blk n2 [.int .u64 m.r.n, .int .u64 m.r.nx] ^ blk n3 [.int .u64 m.p.best, .int .i64 m.p.n, .bool m.p.full] ^ blk n4 [.int .i64 m.c.ph, .int .u64 m.c.at'] ^ blk n5 [.int .u64 m.b.best, .int .u64 m.b.at', .bool m.b.on, .int .u64 m.b.til, .bool m.b.rd] ^ blk n6 [.bool m.q.use, .bool m.q.mea, .int .u64 m.q.bw, .int .i64 m.q.n, .int .u64 m.q.lost, .int .u64 m.q.t0, .int .u64 m.q.d0, .int .u64 m.q.l0]) (fun r => pur (r = mWide m) (blk b [.ptr (some ⟨n1, 0⟩), .ptr (some ⟨n2, 0⟩), .ptr (some ⟨n3, 0⟩), .ptr (some ⟨n4, 0⟩), .ptr (some ⟨n5, 0⟩), .ptr (some ⟨n6, 0⟩), .int .u64 m.mss, .int .i64 m.mode, .int .u64 m.rate, .int .u64 m.win, .int .u64 m.sav, .bool m.rec', .bool m.first, .int .u64 m.til] ^ blk n1 [.int .u64 m.w.w, .int .u64 m.w.t0, .int .u64 m.w.v0, .int .u64 m.w.t1, .int .u64 m.w.v1, .int .u64 m.w.t2, .int .u64 m.w.v2, .int .u64 m.w.la] ^ blk n2 [.int .u64 m.r.n, .int .u64 m.r.nx] ^ blk n3 [.int .u64 m.p.best, .int .i64 m.p.n, .bool m.p.full] ^ blk n4 [.int .i64 m.c.ph, .int .u64 m.c.at'] ^ blk n5 [.int .u64 m.b.best, .int .u64 m.b.at', .bool m.b.on, .int .u64 m.b.til, .bool m.b.rd] ^ blk n6 [.bool m.q.use, .bool m.q.mea, .int .u64 m.q.bw, .int .i64 m.q.n, .int .u64 m.q.lost, .int .u64 m.q.t0, .int .u64 m.q.d0, .int .u64 m.q.l0])) :=
  tri_0 (call_bbr_Model_wideGain _) fun w0 S R h => by
    unfold W_bbr_Model_wideGain
    repeat' (first
      | (refine w_drw h fun w h => ?_)
      | (refine w_deref ?_)
      | (refine w_ldAll h rfl ?_)
      | (refine w_ld h rfl ?_)
      | (refine w_chkAll h ?_)
      | (refine w_chk h rfl ?_)
      | (refine w_setAll h (by rfl) fun w h => ?_)
      | (refine w_new h fun n w h => ?_)
      | (refine w_leave h fun w h => ?_)
      | (refine w_set h rfl fun w h => ?_; dsimp only [upd, over] at h))
    refine w_ite (fun c => ?_) fun c => ?_
    · exact Own.retP (by unfold mWide; rw [if_pos (by simpa using c)]) h.fin
    refine w_ite (fun c2 => ?_) fun c2 => ?_
    · exact Own.retP (by unfold mWide; rw [if_neg (by simpa using c), if_pos (by simpa using c2)]) h.fin
    · exact Own.retP (by unfold mWide; rw [if_neg (by simpa using c), if_neg (by simpa using c2)]) h.fin
theorem floor_tri (hm : OkM m) : Tri Try.prog N_bbr_Model_floor [.lf (.ptr (some ⟨b, 0⟩))] [.lf (.int .u64)] (blk b [.ptr (some ⟨n1, 0⟩), .ptr (some ⟨n2, 0⟩), .ptr (some ⟨n3, 0⟩), .ptr (some ⟨n4, 0⟩), .ptr (some ⟨n5, 0⟩), .ptr (some ⟨n6, 0⟩), .int .u64 m.mss, .int .i64 m.mode, .int .u64 m.rate, .int .u64 m.win, .int .u64 m.sav, .bool m.rec', .bool m.first, .int .u64 m.til] ^ blk n1 [.int .u64 m.w.w, .int .u64 m.w.t0, .int .u64 m.w.v0, .int .u64 m.w.t1, .int .u64 m.w.v1, .int .u64 m.w.t2, .int .u64 m.w.v2, .int .u64 m.w.la] ^ blk n2 [.int .u64 m.r.n, .int .u64 m.r.nx] ^ blk n3 [.int .u64 m.p.best, .int .i64 m.p.n, .bool m.p.full] ^ blk n4 [.int .i64 m.c.ph, .int .u64 m.c.at'] ^ blk n5 [.int .u64 m.b.best, .int .u64 m.b.at', .bool m.b.on, .int .u64 m.b.til, .bool m.b.rd] ^ blk n6 [.bool m.q.use, .bool m.q.mea, .int .u64 m.q.bw, .int .i64 m.q.n, .int .u64 m.q.lost, .int .u64 m.q.t0, .int .u64 m.q.d0, .int .u64 m.q.l0]) (fun r => pur (r = mFloor m) (blk b [.ptr (some ⟨n1, 0⟩), .ptr (some ⟨n2, 0⟩), .ptr (some ⟨n3, 0⟩), .ptr (some ⟨n4, 0⟩), .ptr (some ⟨n5, 0⟩), .ptr (some ⟨n6, 0⟩), .int .u64 m.mss, .int .i64 m.mode, .int .u64 m.rate, .int .u64 m.win, .int .u64 m.sav, .bool m.rec', .bool m.first, .int .u64 m.til] ^ blk n1 [.int .u64 m.w.w, .int .u64 m.w.t0, .int .u64 m.w.v0, .int .u64 m.w.t1, .int .u64 m.w.v1, .int .u64 m.w.t2, .int .u64 m.w.v2, .int .u64 m.w.la] ^ blk n2 [.int .u64 m.r.n, .int .u64 m.r.nx] ^ blk n3 [.int .u64 m.p.best, .int .i64 m.p.n, .bool m.p.full] ^ blk n4 [.int .i64 m.c.ph, .int .u64 m.c.at'] ^ blk n5 [.int .u64 m.b.best, .int .u64 m.b.at', .bool m.b.on, .int .u64 m.b.til, .bool m.b.rd] ^ blk n6 [.bool m.q.use, .bool m.q.mea, .int .u64 m.q.bw, .int .i64 m.q.n, .int .u64 m.q.lost, .int .u64 m.q.t0, .int .u64 m.q.d0, .int .u64 m.q.l0])) :=
  tri_0 (call_bbr_Model_floor _) fun w0 S R h => by
    unfold W_bbr_Model_floor
    repeat' (first
      | (refine w_drw h fun w h => ?_)
      | (refine w_deref ?_)
      | (refine w_ldAll h rfl ?_)
      | (refine w_ld h rfl ?_)
      | (refine w_chkAll h ?_)
      | (refine w_chk h rfl ?_)
      | (refine w_setAll h (by rfl) fun w h => ?_)
      | (refine w_new h fun n w h => ?_)
      | (refine w_leave h fun w h => ?_)
      | (refine w_set h rfl fun w h => ?_; dsimp only [upd, over] at h))
    have := hm.mss
    exact Own.retP (wu (by omega) (by omega)) h.fin
theorem bdpm_tri (hm : OkM m) (g : Int) (hg : U g) : Tri Try.prog N_bbr_Model_bdp [.lf (.ptr (some ⟨b, 0⟩)), .lf (.int .u64 g)] [.lf (.int .u64)] (blk b [.ptr (some ⟨n1, 0⟩), .ptr (some ⟨n2, 0⟩), .ptr (some ⟨n3, 0⟩), .ptr (some ⟨n4, 0⟩), .ptr (some ⟨n5, 0⟩), .ptr (some ⟨n6, 0⟩), .int .u64 m.mss, .int .i64 m.mode, .int .u64 m.rate, .int .u64 m.win, .int .u64 m.sav, .bool m.rec', .bool m.first, .int .u64 m.til] ^ blk n1 [.int .u64 m.w.w, .int .u64 m.w.t0, .int .u64 m.w.v0, .int .u64 m.w.t1, .int .u64 m.w.v1, .int .u64 m.w.t2, .int .u64 m.w.v2, .int .u64 m.w.la] ^ blk n2 [.int .u64 m.r.n, .int .u64 m.r.nx] ^ blk n3 [.int .u64 m.p.best, .int .i64 m.p.n, .bool m.p.full] ^ blk n4 [.int .i64 m.c.ph, .int .u64 m.c.at'] ^ blk n5 [.int .u64 m.b.best, .int .u64 m.b.at', .bool m.b.on, .int .u64 m.b.til, .bool m.b.rd] ^ blk n6 [.bool m.q.use, .bool m.q.mea, .int .u64 m.q.bw, .int .i64 m.q.n, .int .u64 m.q.lost, .int .u64 m.q.t0, .int .u64 m.q.d0, .int .u64 m.q.l0]) (fun r => pur (r = mBdp m g) (blk b [.ptr (some ⟨n1, 0⟩), .ptr (some ⟨n2, 0⟩), .ptr (some ⟨n3, 0⟩), .ptr (some ⟨n4, 0⟩), .ptr (some ⟨n5, 0⟩), .ptr (some ⟨n6, 0⟩), .int .u64 m.mss, .int .i64 m.mode, .int .u64 m.rate, .int .u64 m.win, .int .u64 m.sav, .bool m.rec', .bool m.first, .int .u64 m.til] ^ blk n1 [.int .u64 m.w.w, .int .u64 m.w.t0, .int .u64 m.w.v0, .int .u64 m.w.t1, .int .u64 m.w.v1, .int .u64 m.w.t2, .int .u64 m.w.v2, .int .u64 m.w.la] ^ blk n2 [.int .u64 m.r.n, .int .u64 m.r.nx] ^ blk n3 [.int .u64 m.p.best, .int .i64 m.p.n, .bool m.p.full] ^ blk n4 [.int .i64 m.c.ph, .int .u64 m.c.at'] ^ blk n5 [.int .u64 m.b.best, .int .u64 m.b.at', .bool m.b.on, .int .u64 m.b.til, .bool m.b.rd] ^ blk n6 [.bool m.q.use, .bool m.q.mea, .int .u64 m.q.bw, .int .i64 m.q.n, .int .u64 m.q.lost, .int .u64 m.q.t0, .int .u64 m.q.d0, .int .u64 m.q.l0])) :=
  tri_0 (call_bbr_Model_bdp _ _) fun w0 S R h => by
    unfold W_bbr_Model_bdp
    have h : Own w0 S R w0 ((blk b [.ptr (some ⟨n1, 0⟩), .ptr (some ⟨n2, 0⟩), .ptr (some ⟨n3, 0⟩), .ptr (some ⟨n4, 0⟩), .ptr (some ⟨n5, 0⟩), .ptr (some ⟨n6, 0⟩), .int .u64 m.mss, .int .i64 m.mode, .int .u64 m.rate, .int .u64 m.win, .int .u64 m.sav, .bool m.rec', .bool m.first, .int .u64 m.til] ^ blk n1 [.int .u64 m.w.w, .int .u64 m.w.t0, .int .u64 m.w.v0, .int .u64 m.w.t1, .int .u64 m.w.v1, .int .u64 m.w.t2, .int .u64 m.w.v2, .int .u64 m.w.la] ^ blk n2 [.int .u64 m.r.n, .int .u64 m.r.nx] ^ blk n3 [.int .u64 m.p.best, .int .i64 m.p.n, .bool m.p.full] ^ blk n4 [.int .i64 m.c.ph, .int .u64 m.c.at'] ^ blk n5 [.int .u64 m.b.best, .int .u64 m.b.at', .bool m.b.on, .int .u64 m.b.til, .bool m.b.rd] ^ blk n6 [.bool m.q.use, .bool m.q.mea, .int .u64 m.q.bw, .int .i64 m.q.n, .int .u64 m.q.lost, .int .u64 m.q.t0, .int .u64 m.q.d0, .int .u64 m.q.l0]) ^ emp) := h.le (star_emp _)
    repeat' (first
      | (refine w_drw h fun w h => ?_)
      | (refine w_deref ?_)
      | (refine w_ldAll h rfl ?_)
      | (refine w_ld h rfl ?_)
      | (refine w_chkAll h ?_)
      | (refine w_chk h rfl ?_)
      | (refine w_setAll h (by rfl) fun w h => ?_)
      | (refine w_new h fun n w h => ?_)
      | (refine w_leave h fun w h => ?_)
      | (refine w_set h rfl fun w h => ?_; dsimp only [upd, over] at h)
      | (refine w_call (bw_tri b n1 n2 n3 n4 n5 n6 m) h fun r w h => ?_; obtain ⟨hr, h⟩ := h.purP; (try dsimp only at hr h); try rw [hr])
      | (refine w_call (bbest_tri n5 m.b) h fun r w h => ?_; obtain ⟨hr, h⟩ := h.purP; (try dsimp only at hr h); try rw [hr])
      | (refine w_call (bdp_tri (mBw m) m.b.best g hm.bw hm.b.best hg) h fun r w h => ?_; obtain ⟨hr, h⟩ := h.purP; (try dsimp only at hr h); try rw [hr]))
    exact Own.retP rfl h.fin
theorem cruise_tri (now : Int) : Tri Try.prog N_bbr_Model_cruise [.lf (.ptr (some ⟨b, 0⟩)), .lf (.int .u64 now)] [] (blk b [.ptr (some ⟨n1, 0⟩), .ptr (some ⟨n2, 0⟩), .ptr (some ⟨n3, 0⟩), .ptr (some ⟨n4, 0⟩), .ptr (some ⟨n5, 0⟩), .ptr (some ⟨n6, 0⟩), .int .u64 m.mss, .int .i64 m.mode, .int .u64 m.rate, .int .u64 m.win, .int .u64 m.sav, .bool m.rec', .bool m.first, .int .u64 m.til] ^ blk n1 [.int .u64 m.w.w, .int .u64 m.w.t0, .int .u64 m.w.v0, .int .u64 m.w.t1, .int .u64 m.w.v1, .int .u64 m.w.t2, .int .u64 m.w.v2, .int .u64 m.w.la] ^ blk n2 [.int .u64 m.r.n, .int .u64 m.r.nx] ^ blk n3 [.int .u64 m.p.best, .int .i64 m.p.n, .bool m.p.full] ^ blk n4 [.int .i64 m.c.ph, .int .u64 m.c.at'] ^ blk n5 [.int .u64 m.b.best, .int .u64 m.b.at', .bool m.b.on, .int .u64 m.b.til, .bool m.b.rd] ^ blk n6 [.bool m.q.use, .bool m.q.mea, .int .u64 m.q.bw, .int .i64 m.q.n, .int .u64 m.q.lost, .int .u64 m.q.t0, .int .u64 m.q.d0, .int .u64 m.q.l0]) (fun _ => blk b [.ptr (some ⟨n1, 0⟩), .ptr (some ⟨n2, 0⟩), .ptr (some ⟨n3, 0⟩), .ptr (some ⟨n4, 0⟩), .ptr (some ⟨n5, 0⟩), .ptr (some ⟨n6, 0⟩), .int .u64 (mCruise m now).mss, .int .i64 (mCruise m now).mode, .int .u64 (mCruise m now).rate, .int .u64 (mCruise m now).win, .int .u64 (mCruise m now).sav, .bool (mCruise m now).rec', .bool (mCruise m now).first, .int .u64 (mCruise m now).til] ^ blk n1 [.int .u64 (mCruise m now).w.w, .int .u64 (mCruise m now).w.t0, .int .u64 (mCruise m now).w.v0, .int .u64 (mCruise m now).w.t1, .int .u64 (mCruise m now).w.v1, .int .u64 (mCruise m now).w.t2, .int .u64 (mCruise m now).w.v2, .int .u64 (mCruise m now).w.la] ^ blk n2 [.int .u64 (mCruise m now).r.n, .int .u64 (mCruise m now).r.nx] ^ blk n3 [.int .u64 (mCruise m now).p.best, .int .i64 (mCruise m now).p.n, .bool (mCruise m now).p.full] ^ blk n4 [.int .i64 (mCruise m now).c.ph, .int .u64 (mCruise m now).c.at'] ^ blk n5 [.int .u64 (mCruise m now).b.best, .int .u64 (mCruise m now).b.at', .bool (mCruise m now).b.on, .int .u64 (mCruise m now).b.til, .bool (mCruise m now).b.rd] ^ blk n6 [.bool (mCruise m now).q.use, .bool (mCruise m now).q.mea, .int .u64 (mCruise m now).q.bw, .int .i64 (mCruise m now).q.n, .int .u64 (mCruise m now).q.lost, .int .u64 (mCruise m now).q.t0, .int .u64 (mCruise m now).q.d0, .int .u64 (mCruise m now).q.l0]) :=
  tri_0 (call_bbr_Model_cruise _ _) fun w0 S R h => by
    unfold W_bbr_Model_cruise
    refine w_deref (w_setTo h b [.ptr (some ⟨n1, 0⟩), .ptr (some ⟨n2, 0⟩), .ptr (some ⟨n3, 0⟩), .ptr (some ⟨n4, 0⟩), .ptr (some ⟨n5, 0⟩), .ptr (some ⟨n6, 0⟩), .int .u64 (mCruise m now).mss, .int .i64 (mCruise m now).mode, .int .u64 (mCruise m now).rate, .int .u64 (mCruise m now).win, .int .u64 (mCruise m now).sav, .bool (mCruise m now).rec', .bool (mCruise m now).first, .int .u64 (mCruise m now).til] rfl rfl rfl fun w h => ?_)
    refine w_deref (w_ld h rfl ?_)
    refine w_call (cst_tri n4 m.c now 2 (by decide) (by decide)) h fun r w h => ?_
    show Own w0 S R w (blk b [.ptr (some ⟨n1, 0⟩), .ptr (some ⟨n2, 0⟩), .ptr (some ⟨n3, 0⟩), .ptr (some ⟨n4, 0⟩), .ptr (some ⟨n5, 0⟩), .ptr (some ⟨n6, 0⟩), .int .u64 (mCruise m now).mss, .int .i64 (mCruise m now).mode, .int .u64 (mCruise m now).rate, .int .u64 (mCruise m now).win, .int .u64 (mCruise m now).sav, .bool (mCruise m now).rec', .bool (mCruise m now).first, .int .u64 (mCruise m now).til] ^ blk n1 [.int .u64 (mCruise m now).w.w, .int .u64 (mCruise m now).w.t0, .int .u64 (mCruise m now).w.v0, .int .u64 (mCruise m now).w.t1, .int .u64 (mCruise m now).w.v1, .int .u64 (mCruise m now).w.t2, .int .u64 (mCruise m now).w.v2, .int .u64 (mCruise m now).w.la] ^ blk n2 [.int .u64 (mCruise m now).r.n, .int .u64 (mCruise m now).r.nx] ^ blk n3 [.int .u64 (mCruise m now).p.best, .int .i64 (mCruise m now).p.n, .bool (mCruise m now).p.full] ^ blk n4 [.int .i64 (mCruise m now).c.ph, .int .u64 (mCruise m now).c.at'] ^ blk n5 [.int .u64 (mCruise m now).b.best, .int .u64 (mCruise m now).b.at', .bool (mCruise m now).b.on, .int .u64 (mCruise m now).b.til, .bool (mCruise m now).b.rd] ^ blk n6 [.bool (mCruise m now).q.use, .bool (mCruise m now).q.mea, .int .u64 (mCruise m now).q.bw, .int .i64 (mCruise m now).q.n, .int .u64 (mCruise m now).q.lost, .int .u64 (mCruise m now).q.t0, .int .u64 (mCruise m now).q.d0, .int .u64 (mCruise m now).q.l0])
    exact h.fin
theorem back_tri : Tri Try.prog N_bbr_Model_back [.lf (.ptr (some ⟨b, 0⟩))] [] (blk b [.ptr (some ⟨n1, 0⟩), .ptr (some ⟨n2, 0⟩), .ptr (some ⟨n3, 0⟩), .ptr (some ⟨n4, 0⟩), .ptr (some ⟨n5, 0⟩), .ptr (some ⟨n6, 0⟩), .int .u64 m.mss, .int .i64 m.mode, .int .u64 m.rate, .int .u64 m.win, .int .u64 m.sav, .bool m.rec', .bool m.first, .int .u64 m.til] ^ blk n1 [.int .u64 m.w.w, .int .u64 m.w.t0, .int .u64 m.w.v0, .int .u64 m.w.t1, .int .u64 m.w.v1, .int .u64 m.w.t2, .int .u64 m.w.v2, .int .u64 m.w.la] ^ blk n2 [.int .u64 m.r.n, .int .u64 m.r.nx] ^ blk n3 [.int .u64 m.p.best, .int .i64 m.p.n, .bool m.p.full] ^ blk n4 [.int .i64 m.c.ph, .int .u64 m.c.at'] ^ blk n5 [.int .u64 m.b.best, .int .u64 m.b.at', .bool m.b.on, .int .u64 m.b.til, .bool m.b.rd] ^ blk n6 [.bool m.q.use, .bool m.q.mea, .int .u64 m.q.bw, .int .i64 m.q.n, .int .u64 m.q.lost, .int .u64 m.q.t0, .int .u64 m.q.d0, .int .u64 m.q.l0]) (fun _ => blk b [.ptr (some ⟨n1, 0⟩), .ptr (some ⟨n2, 0⟩), .ptr (some ⟨n3, 0⟩), .ptr (some ⟨n4, 0⟩), .ptr (some ⟨n5, 0⟩), .ptr (some ⟨n6, 0⟩), .int .u64 (mBack m).mss, .int .i64 (mBack m).mode, .int .u64 (mBack m).rate, .int .u64 (mBack m).win, .int .u64 (mBack m).sav, .bool (mBack m).rec', .bool (mBack m).first, .int .u64 (mBack m).til] ^ blk n1 [.int .u64 (mBack m).w.w, .int .u64 (mBack m).w.t0, .int .u64 (mBack m).w.v0, .int .u64 (mBack m).w.t1, .int .u64 (mBack m).w.v1, .int .u64 (mBack m).w.t2, .int .u64 (mBack m).w.v2, .int .u64 (mBack m).w.la] ^ blk n2 [.int .u64 (mBack m).r.n, .int .u64 (mBack m).r.nx] ^ blk n3 [.int .u64 (mBack m).p.best, .int .i64 (mBack m).p.n, .bool (mBack m).p.full] ^ blk n4 [.int .i64 (mBack m).c.ph, .int .u64 (mBack m).c.at'] ^ blk n5 [.int .u64 (mBack m).b.best, .int .u64 (mBack m).b.at', .bool (mBack m).b.on, .int .u64 (mBack m).b.til, .bool (mBack m).b.rd] ^ blk n6 [.bool (mBack m).q.use, .bool (mBack m).q.mea, .int .u64 (mBack m).q.bw, .int .i64 (mBack m).q.n, .int .u64 (mBack m).q.lost, .int .u64 (mBack m).q.t0, .int .u64 (mBack m).q.d0, .int .u64 (mBack m).q.l0]) :=
  tri_0 (call_bbr_Model_back _) fun w0 S R h => by
    unfold W_bbr_Model_back
    refine w_drw h fun w h => w_deref (w_deref (w_ld h rfl (w_ld h rfl (w_deref ?_))))
    refine w_setTo h b [.ptr (some ⟨n1, 0⟩), .ptr (some ⟨n2, 0⟩), .ptr (some ⟨n3, 0⟩), .ptr (some ⟨n4, 0⟩), .ptr (some ⟨n5, 0⟩), .ptr (some ⟨n6, 0⟩), .int .u64 ({ m with win := if m.sav > m.win then m.sav else m.win }).mss, .int .i64 ({ m with win := if m.sav > m.win then m.sav else m.win }).mode, .int .u64 ({ m with win := if m.sav > m.win then m.sav else m.win }).rate, .int .u64 ({ m with win := if m.sav > m.win then m.sav else m.win }).win, .int .u64 ({ m with win := if m.sav > m.win then m.sav else m.win }).sav, .bool ({ m with win := if m.sav > m.win then m.sav else m.win }).rec', .bool ({ m with win := if m.sav > m.win then m.sav else m.win }).first, .int .u64 ({ m with win := if m.sav > m.win then m.sav else m.win }).til] rfl rfl rfl fun w h => ?_
    refine w_deref (w_setTo h b [.ptr (some ⟨n1, 0⟩), .ptr (some ⟨n2, 0⟩), .ptr (some ⟨n3, 0⟩), .ptr (some ⟨n4, 0⟩), .ptr (some ⟨n5, 0⟩), .ptr (some ⟨n6, 0⟩), .int .u64 (mBack m).mss, .int .i64 (mBack m).mode, .int .u64 (mBack m).rate, .int .u64 (mBack m).win, .int .u64 (mBack m).sav, .bool (mBack m).rec', .bool (mBack m).first, .int .u64 (mBack m).til] rfl rfl rfl fun w h => ?_)
    show Own w0 S R w (blk b [.ptr (some ⟨n1, 0⟩), .ptr (some ⟨n2, 0⟩), .ptr (some ⟨n3, 0⟩), .ptr (some ⟨n4, 0⟩), .ptr (some ⟨n5, 0⟩), .ptr (some ⟨n6, 0⟩), .int .u64 (mBack m).mss, .int .i64 (mBack m).mode, .int .u64 (mBack m).rate, .int .u64 (mBack m).win, .int .u64 (mBack m).sav, .bool (mBack m).rec', .bool (mBack m).first, .int .u64 (mBack m).til] ^ blk n1 [.int .u64 (mBack m).w.w, .int .u64 (mBack m).w.t0, .int .u64 (mBack m).w.v0, .int .u64 (mBack m).w.t1, .int .u64 (mBack m).w.v1, .int .u64 (mBack m).w.t2, .int .u64 (mBack m).w.v2, .int .u64 (mBack m).w.la] ^ blk n2 [.int .u64 (mBack m).r.n, .int .u64 (mBack m).r.nx] ^ blk n3 [.int .u64 (mBack m).p.best, .int .i64 (mBack m).p.n, .bool (mBack m).p.full] ^ blk n4 [.int .i64 (mBack m).c.ph, .int .u64 (mBack m).c.at'] ^ blk n5 [.int .u64 (mBack m).b.best, .int .u64 (mBack m).b.at', .bool (mBack m).b.on, .int .u64 (mBack m).b.til, .bool (mBack m).b.rd] ^ blk n6 [.bool (mBack m).q.use, .bool (mBack m).q.mea, .int .u64 (mBack m).q.bw, .int .i64 (mBack m).q.n, .int .u64 (mBack m).q.lost, .int .u64 (mBack m).q.t0, .int .u64 (mBack m).q.d0, .int .u64 (mBack m).q.l0])
    exact h.fin
theorem state_tri : Tri Try.prog N_bbr_Model_State [.lf (.ptr (some ⟨b, 0⟩))] [.agg K_i2u6b2] (blk b [.ptr (some ⟨n1, 0⟩), .ptr (some ⟨n2, 0⟩), .ptr (some ⟨n3, 0⟩), .ptr (some ⟨n4, 0⟩), .ptr (some ⟨n5, 0⟩), .ptr (some ⟨n6, 0⟩), .int .u64 m.mss, .int .i64 m.mode, .int .u64 m.rate, .int .u64 m.win, .int .u64 m.sav, .bool m.rec', .bool m.first, .int .u64 m.til] ^ blk n1 [.int .u64 m.w.w, .int .u64 m.w.t0, .int .u64 m.w.v0, .int .u64 m.w.t1, .int .u64 m.w.v1, .int .u64 m.w.t2, .int .u64 m.w.v2, .int .u64 m.w.la] ^ blk n2 [.int .u64 m.r.n, .int .u64 m.r.nx] ^ blk n3 [.int .u64 m.p.best, .int .i64 m.p.n, .bool m.p.full] ^ blk n4 [.int .i64 m.c.ph, .int .u64 m.c.at'] ^ blk n5 [.int .u64 m.b.best, .int .u64 m.b.at', .bool m.b.on, .int .u64 m.b.til, .bool m.b.rd] ^ blk n6 [.bool m.q.use, .bool m.q.mea, .int .u64 m.q.bw, .int .i64 m.q.n, .int .u64 m.q.lost, .int .u64 m.q.t0, .int .u64 m.q.d0, .int .u64 m.q.l0]) (fun r => pur (r = mSt m) (blk b [.ptr (some ⟨n1, 0⟩), .ptr (some ⟨n2, 0⟩), .ptr (some ⟨n3, 0⟩), .ptr (some ⟨n4, 0⟩), .ptr (some ⟨n5, 0⟩), .ptr (some ⟨n6, 0⟩), .int .u64 m.mss, .int .i64 m.mode, .int .u64 m.rate, .int .u64 m.win, .int .u64 m.sav, .bool m.rec', .bool m.first, .int .u64 m.til] ^ blk n1 [.int .u64 m.w.w, .int .u64 m.w.t0, .int .u64 m.w.v0, .int .u64 m.w.t1, .int .u64 m.w.v1, .int .u64 m.w.t2, .int .u64 m.w.v2, .int .u64 m.w.la] ^ blk n2 [.int .u64 m.r.n, .int .u64 m.r.nx] ^ blk n3 [.int .u64 m.p.best, .int .i64 m.p.n, .bool m.p.full] ^ blk n4 [.int .i64 m.c.ph, .int .u64 m.c.at'] ^ blk n5 [.int .u64 m.b.best, .int .u64 m.b.at', .bool m.b.on, .int .u64 m.b.til, .bool m.b.rd] ^ blk n6 [.bool m.q.use, .bool m.q.mea, .int .u64 m.q.bw, .int .i64 m.q.n, .int .u64 m.q.lost, .int .u64 m.q.t0, .int .u64 m.q.d0, .int .u64 m.q.l0])) :=
  tri_0 (call_bbr_Model_State _) fun w0 S R h => by
    unfold W_bbr_Model_State
    refine w_new h fun x w h => ?_
    refine w_ite (fun c => (by cases c)) fun _ => ?_
    repeat' (first
      | (refine w_drw h fun w h => ?_)
      | (refine w_deref ?_)
      | (refine w_ldAll h rfl ?_)
      | (refine w_ld h rfl ?_)
      | (refine w_chkAll h ?_)
      | (refine w_chk h rfl ?_)
      | (refine w_setAll h (by rfl) fun w h => ?_)
      | (refine w_new h fun n w h => ?_)
      | (refine w_leave h fun w h => ?_)
      | (refine w_set h rfl fun w h => ?_; dsimp only [upd, over] at h)
      | (refine w_call (bw_tri b n1 n2 n3 n4 n5 n6 m) h fun r w h => ?_; obtain ⟨hr, h⟩ := h.purP; (try dsimp only at hr h); try rw [hr])
      | (refine w_call (bbest_tri n5 m.b) h fun r w h => ?_; obtain ⟨hr, h⟩ := h.purP; (try dsimp only at hr h); try rw [hr])
      | (refine w_call (gainm_tri b n1 n2 n3 n4 n5 n6 m) h fun r w h => ?_; obtain ⟨hr, h⟩ := h.purP; (try dsimp only at hr h); try rw [hr])
      | (refine w_call (count_tri n2 m.r) h fun r w h => ?_; obtain ⟨hr, h⟩ := h.purP; (try dsimp only at hr h); try rw [hr])
      | (refine w_call (phase_tri n4 m.c) h fun r w h => ?_; obtain ⟨hr, h⟩ := h.purP; (try dsimp only at hr h); try rw [hr])
      | (refine w_call (full_tri n3 m.p) h fun r w h => ?_; obtain ⟨hr, h⟩ := h.purP; (try dsimp only at hr h); try rw [hr])
      | (refine w_call (pol_tri b n1 n2 n3 n4 n5 n6 m) h fun r w h => ?_; obtain ⟨hr, h⟩ := h.purP; (try dsimp only at hr h); try rw [hr]))
    exact Own.retP rfl h.fin
end
end BbrN

namespace BbrO
open Arith ArithC _root_.Go.X.Target BbrM BbrMm BbrP BbrW BbrQ BbrL BbrN
section
variable (b n1 n2 n3 n4 n5 n6 : Nat) (m : Md) (hm : OkM m) (s : Sm) (hs : OkS s) (o : Bool)
include hm hs
theorem meas_tri : Tri Try.prog N_bbr_Model_measure [.lf (.ptr (some ⟨b, 0⟩)), .agg (Ks.mk K_u8b s)] [] (blk b [.ptr (some ⟨n1, 0⟩), .ptr (some ⟨n2, 0⟩), .ptr (some ⟨n3, 0⟩), .ptr (some ⟨n4, 0⟩), .ptr (some ⟨n5, 0⟩), .ptr (some ⟨n6, 0⟩), .int .u64 m.mss, .int .i64 m.mode, .int .u64 m.rate, .int .u64 m.win, .int .u64 m.sav, .bool m.rec', .bool m.first, .int .u64 m.til] ^ blk n1 [.int .u64 m.w.w, .int .u64 m.w.t0, .int .u64 m.w.v0, .int .u64 m.w.t1, .int .u64 m.w.v1, .int .u64 m.w.t2, .int .u64 m.w.v2, .int .u64 m.w.la] ^ blk n2 [.int .u64 m.r.n, .int .u64 m.r.nx] ^ blk n3 [.int .u64 m.p.best, .int .i64 m.p.n, .bool m.p.full] ^ blk n4 [.int .i64 m.c.ph, .int .u64 m.c.at'] ^ blk n5 [.int .u64 m.b.best, .int .u64 m.b.at', .bool m.b.on, .int .u64 m.b.til, .bool m.b.rd] ^ blk n6 [.bool m.q.use, .bool m.q.mea, .int .u64 m.q.bw, .int .i64 m.q.n, .int .u64 m.q.lost, .int .u64 m.q.t0, .int .u64 m.q.d0, .int .u64 m.q.l0]) (fun _ => blk b [.ptr (some ⟨n1, 0⟩), .ptr (some ⟨n2, 0⟩), .ptr (some ⟨n3, 0⟩), .ptr (some ⟨n4, 0⟩), .ptr (some ⟨n5, 0⟩), .ptr (some ⟨n6, 0⟩), .int .u64 (mMeas m s).mss, .int .i64 (mMeas m s).mode, .int .u64 (mMeas m s).rate, .int .u64 (mMeas m s).win, .int .u64 (mMeas m s).sav, .bool (mMeas m s).rec', .bool (mMeas m s).first, .int .u64 (mMeas m s).til] ^ blk n1 [.int .u64 (mMeas m s).w.w, .int .u64 (mMeas m s).w.t0, .int .u64 (mMeas m s).w.v0, .int .u64 (mMeas m s).w.t1, .int .u64 (mMeas m s).w.v1, .int .u64 (mMeas m s).w.t2, .int .u64 (mMeas m s).w.v2, .int .u64 (mMeas m s).w.la] ^ blk n2 [.int .u64 (mMeas m s).r.n, .int .u64 (mMeas m s).r.nx] ^ blk n3 [.int .u64 (mMeas m s).p.best, .int .i64 (mMeas m s).p.n, .bool (mMeas m s).p.full] ^ blk n4 [.int .i64 (mMeas m s).c.ph, .int .u64 (mMeas m s).c.at'] ^ blk n5 [.int .u64 (mMeas m s).b.best, .int .u64 (mMeas m s).b.at', .bool (mMeas m s).b.on, .int .u64 (mMeas m s).b.til, .bool (mMeas m s).b.rd] ^ blk n6 [.bool (mMeas m s).q.use, .bool (mMeas m s).q.mea, .int .u64 (mMeas m s).q.bw, .int .i64 (mMeas m s).q.n, .int .u64 (mMeas m s).q.lost, .int .u64 (mMeas m s).q.t0, .int .u64 (mMeas m s).q.d0, .int .u64 (mMeas m s).q.l0]) :=
  tri_0 (call_bbr_Model_measure _ _) fun w0 S R h => by
    unfold W_bbr_Model_measure
    refine w_new h fun x w h => ?_
    have h : Own w0 S R w ((blk b [.ptr (some ⟨n1, 0⟩), .ptr (some ⟨n2, 0⟩), .ptr (some ⟨n3, 0⟩), .ptr (some ⟨n4, 0⟩), .ptr (some ⟨n5, 0⟩), .ptr (some ⟨n6, 0⟩), .int .u64 m.mss, .int .i64 m.mode, .int .u64 m.rate, .int .u64 m.win, .int .u64 m.sav, .bool m.rec', .bool m.first, .int .u64 m.til] ^ blk n1 [.int .u64 m.w.w, .int .u64 m.w.t0, .int .u64 m.w.v0, .int .u64 m.w.t1, .int .u64 m.w.v1, .int .u64 m.w.t2, .int .u64 m.w.v2, .int .u64 m.w.la] ^ blk n2 [.int .u64 m.r.n, .int .u64 m.r.nx] ^ blk n3 [.int .u64 m.p.best, .int .i64 m.p.n, .bool m.p.full] ^ blk n4 [.int .i64 m.c.ph, .int .u64 m.c.at'] ^ blk n5 [.int .u64 m.b.best, .int .u64 m.b.at', .bool m.b.on, .int .u64 m.b.til, .bool m.b.rd] ^ blk n6 [.bool m.q.use, .bool m.q.mea, .int .u64 m.q.bw, .int .i64 m.q.n, .int .u64 m.q.lost, .int .u64 m.q.t0, .int .u64 m.q.d0, .int .u64 m.q.l0]) ^ blk x (Ks.mk K_u8b s)) := h.fin
    refine w_join h (fun _ => (blk b [.ptr (some ⟨n1, 0⟩), .ptr (some ⟨n2, 0⟩), .ptr (some ⟨n3, 0⟩), .ptr (some ⟨n4, 0⟩), .ptr (some ⟨n5, 0⟩), .ptr (some ⟨n6, 0⟩), .int .u64 m.mss, .int .i64 m.mode, .int .u64 m.rate, .int .u64 m.win, .int .u64 m.sav, .bool m.rec', .bool m.first, .int .u64 m.til] ^ blk n1 [.int .u64 m.w.w, .int .u64 m.w.t0, .int .u64 m.w.v0, .int .u64 m.w.t1, .int .u64 m.w.v1, .int .u64 m.w.t2, .int .u64 m.w.v2, .int .u64 m.w.la] ^ blk n2 [.int .u64 m.r.n, .int .u64 m.r.nx] ^ blk n3 [.int .u64 m.p.best, .int .i64 m.p.n, .bool m.p.full] ^ blk n4 [.int .i64 m.c.ph, .int .u64 m.c.at'] ^ blk n5 [.int .u64 m.b.best, .int .u64 m.b.at', .bool m.b.on, .int .u64 m.b.til, .bool m.b.rd] ^ blk n6 [.bool m.q.use, .bool m.q.mea, .int .u64 m.q.bw, .int .i64 m.q.n, .int .u64 m.q.lost, .int .u64 m.q.t0, .int .u64 m.q.d0, .int .u64 m.q.l0]) ^ blk x (Ks.mk K_u8b s)) (fun _ => ¬ (sAck s = 0 ∨ sTim s = 0)) (fun _ w c h => ?_) ?_
    · repeat' (first
        | (refine w_drw h fun w h => ?_)
        | (refine w_deref ?_)
        | (refine w_ldAll h rfl ?_)
        | (refine w_ld h rfl ?_)
        | (refine w_chkAll h ?_)
        | (refine w_chk h rfl ?_)
        | (refine w_setAll h (by rfl) fun w h => ?_)
        | (refine w_new h fun n w h => ?_)
        | (refine w_leave h fun w h => ?_)
        | (refine w_set h rfl fun w h => ?_; dsimp only [upd, over] at h)
        | (refine w_call (satsub_tri (sDel s) (sPri s) hs.del hs.pri) h fun r w h => ?_; obtain ⟨hr, h⟩ := h.purP; (try dsimp only at hr h); try rw [hr])
        | (refine w_call (md_tri (subI (sDel s) (sPri s)) 1000000000 (sTim s) (U_sub hs.del hs.pri) (U_lit _) hs.tim) h fun r w h => ?_; obtain ⟨hr, h⟩ := h.purP; (try dsimp only at hr h); try rw [hr]))
      have hU : U (mK s) := U_md (U_sub hs.del hs.pri) (U_lit _) hs.tim
      refine w_join h (fun _ => (blk b [.ptr (some ⟨n1, 0⟩), .ptr (some ⟨n2, 0⟩), .ptr (some ⟨n3, 0⟩), .ptr (some ⟨n4, 0⟩), .ptr (some ⟨n5, 0⟩), .ptr (some ⟨n6, 0⟩), .int .u64 m.mss, .int .i64 m.mode, .int .u64 m.rate, .int .u64 m.win, .int .u64 m.sav, .bool m.rec', .bool m.first, .int .u64 m.til] ^ blk n1 [.int .u64 m.w.w, .int .u64 m.w.t0, .int .u64 m.w.v0, .int .u64 m.w.t1, .int .u64 m.w.v1, .int .u64 m.w.t2, .int .u64 m.w.v2, .int .u64 m.w.la] ^ blk n2 [.int .u64 m.r.n, .int .u64 m.r.nx] ^ blk n3 [.int .u64 m.p.best, .int .i64 m.p.n, .bool m.p.full] ^ blk n4 [.int .i64 m.c.ph, .int .u64 m.c.at'] ^ blk n5 [.int .u64 m.b.best, .int .u64 m.b.at', .bool m.b.on, .int .u64 m.b.til, .bool m.b.rd] ^ blk n6 [.bool m.q.use, .bool m.q.mea, .int .u64 m.q.bw, .int .i64 m.q.n, .int .u64 m.q.lost, .int .u64 m.q.t0, .int .u64 m.q.d0, .int .u64 m.q.l0]) ^ blk x (Ks.mk K_u8b s)) (fun y : Bool => y = decide (sLim s = false ∨ mK s ≥ m.w.v0)) (fun (y : Bool) w hy h => ?_) ?_
      · rw [hy]
        refine w_ite (fun c2 => ?_) fun c2 => ?_
        · have c2 : sLim s = false ∨ mK s ≥ m.w.v0 := by simpa using c2
          have e : mMeas m s = { m with w := wUpd m.w m.r.n (mK s) } := by unfold mMeas; rw [if_neg c, if_pos c2]
          rw [e]
          repeat' (first
            | (refine w_drw h fun w h => ?_)
            | (refine w_deref ?_)
            | (refine w_ldAll h rfl ?_)
            | (refine w_ld h rfl ?_)
            | (refine w_chkAll h ?_)
            | (refine w_chk h rfl ?_)
            | (refine w_setAll h (by rfl) fun w h => ?_)
            | (refine w_new h fun n w h => ?_)
            | (refine w_leave h fun w h => ?_)
            | (refine w_set h rfl fun w h => ?_; dsimp only [upd, over] at h)
            | (refine w_call (count_tri n2 m.r) h fun r w h => ?_; obtain ⟨hr, h⟩ := h.purP; (try dsimp only at hr h); try rw [hr])
            | (refine w_call (maxupd_tri n1 m.w hm.w m.r.n (mK s) hm.r.n hU) h fun r w h => ?_; obtain ⟨hr, h⟩ := h.purP; (try dsimp only at hr h); try rw [hr]))
          exact h.fin
        · have c2 : ¬ (sLim s = false ∨ mK s ≥ m.w.v0) := by simpa using c2
          have e : mMeas m s = m := by unfold mMeas; rw [if_neg c, if_neg c2]
          rw [e]
          exact h.fin
      · repeat' (first
          | (refine w_drw h fun w h => ?_)
          | (refine w_deref ?_)
          | (refine w_ldAll h rfl ?_)
          | (refine w_ld h rfl ?_)
          | (refine w_chkAll h ?_)
          | (refine w_chk h rfl ?_)
          | (refine w_setAll h (by rfl) fun w h => ?_)
          | (refine w_new h fun n w h => ?_)
          | (refine w_leave h fun w h => ?_)
          | (refine w_set h rfl fun w h => ?_; dsimp only [upd, over] at h))
        refine w_ite (fun c2 => ?_) fun c2 => ?_
        · have c2 : sLim s = false := by simpa using c2
          exact ⟨by simp [c2], h.fin⟩
        · have c2 : sLim s = true := by simpa using c2
          repeat' (first
            | (refine w_drw h fun w h => ?_)
            | (refine w_deref ?_)
            | (refine w_ldAll h rfl ?_)
            | (refine w_ld h rfl ?_)
            | (refine w_chkAll h ?_)
            | (refine w_chk h rfl ?_)
            | (refine w_setAll h (by rfl) fun w h => ?_)
            | (refine w_new h fun n w h => ?_)
            | (refine w_leave h fun w h => ?_)
            | (refine w_set h rfl fun w h => ?_; dsimp only [upd, over] at h)
            | (refine w_call (best_tri n1 m.w) h fun r w h => ?_; obtain ⟨hr, h⟩ := h.purP; (try dsimp only at hr h); try rw [hr]))
          exact ⟨by rw [Bool.eq_iff_iff]; simp [c2, mK], h.fin⟩
    · repeat' (first
        | (refine w_drw h fun w h => ?_)
        | (refine w_deref ?_)
        | (refine w_ldAll h rfl ?_)
        | (refine w_ld h rfl ?_)
        | (refine w_chkAll h ?_)
        | (refine w_chk h rfl ?_)
        | (refine w_setAll h (by rfl) fun w h => ?_)
        | (refine w_new h fun n w h => ?_)
        | (refine w_leave h fun w h => ?_)
        | (refine w_set h rfl fun w h => ?_; dsimp only [upd, over] at h))
      refine w_ite (fun c => ?_) fun c => ?_
      · have c : sAck s = 0 := by simpa using c
        have e : mMeas m s = m := by unfold mMeas; rw [if_pos (.inl c)]
        rw [e]
        exact h.fin
      repeat' (first
        | (refine w_drw h fun w h => ?_)
        | (refine w_deref ?_)
        | (refine w_ldAll h rfl ?_)
        | (refine w_ld h rfl ?_)
        | (refine w_chkAll h ?_)
        | (refine w_chk h rfl ?_)
        | (refine w_setAll h (by rfl) fun w h => ?_)
        | (refine w_new h fun n w h => ?_)
        | (refine w_leave h fun w h => ?_)
        | (refine w_set h rfl fun w h => ?_; dsimp only [upd, over] at h))
      have c : ¬ sAck s = 0 := by simpa using c
      refine w_ite (fun c2 => ?_) fun c2 => ?_
      · have c2 : sTim s = 0 := by simpa using c2
        have e : mMeas m s = m := by unfold mMeas; rw [if_pos (.inr c2)]
        rw [e]
        exact h.fin
      · have c2 : ¬ sTim s = 0 := by simpa using c2
        exact ⟨fun hh => hh.elim c c2, h.fin⟩
theorem modes_tri : Tri Try.prog N_bbr_Model_modes [.lf (.ptr (some ⟨b, 0⟩)), .agg (Ks.mk K_u8b s)] [] (blk b [.ptr (some ⟨n1, 0⟩), .ptr (some ⟨n2, 0⟩), .ptr (some ⟨n3, 0⟩), .ptr (some ⟨n4, 0⟩), .ptr (some ⟨n5, 0⟩), .ptr (some ⟨n6, 0⟩), .int .u64 m.mss, .int .i64 m.mode, .int .u64 m.rate, .int .u64 m.win, .int .u64 m.sav, .bool m.rec', .bool m.first, .int .u64 m.til] ^ blk n1 [.int .u64 m.w.w, .int .u64 m.w.t0, .int .u64 m.w.v0, .int .u64 m.w.t1, .int .u64 m.w.v1, .int .u64 m.w.t2, .int .u64 m.w.v2, .int .u64 m.w.la] ^ blk n2 [.int .u64 m.r.n, .int .u64 m.r.nx] ^ blk n3 [.int .u64 m.p.best, .int .i64 m.p.n, .bool m.p.full] ^ blk n4 [.int .i64 m.c.ph, .int .u64 m.c.at'] ^ blk n5 [.int .u64 m.b.best, .int .u64 m.b.at', .bool m.b.on, .int .u64 m.b.til, .bool m.b.rd] ^ blk n6 [.bool m.q.use, .bool m.q.mea, .int .u64 m.q.bw, .int .i64 m.q.n, .int .u64 m.q.lost, .int .u64 m.q.t0, .int .u64 m.q.d0, .int .u64 m.q.l0]) (fun _ => blk b [.ptr (some ⟨n1, 0⟩), .ptr (some ⟨n2, 0⟩), .ptr (some ⟨n3, 0⟩), .ptr (some ⟨n4, 0⟩), .ptr (some ⟨n5, 0⟩), .ptr (some ⟨n6, 0⟩), .int .u64 (mM2 (mM1 m) s).mss, .int .i64 (mM2 (mM1 m) s).mode, .int .u64 (mM2 (mM1 m) s).rate, .int .u64 (mM2 (mM1 m) s).win, .int .u64 (mM2 (mM1 m) s).sav, .bool (mM2 (mM1 m) s).rec', .bool (mM2 (mM1 m) s).first, .int .u64 (mM2 (mM1 m) s).til] ^ blk n1 [.int .u64 (mM2 (mM1 m) s).w.w, .int .u64 (mM2 (mM1 m) s).w.t0, .int .u64 (mM2 (mM1 m) s).w.v0, .int .u64 (mM2 (mM1 m) s).w.t1, .int .u64 (mM2 (mM1 m) s).w.v1, .int .u64 (mM2 (mM1 m) s).w.t2, .int .u64 (mM2 (mM1 m) s).w.v2, .int .u64 (mM2 (mM1 m) s).w.la] ^ blk n2 [.int .u64 (mM2 (mM1 m) s).r.n, .int .u64 (mM2 (mM1 m) s).r.nx] ^ blk n3 [.int .u64 (mM2 (mM1 m) s).p.best, .int .i64 (mM2 (mM1 m) s).p.n, .bool (mM2 (mM1 m) s).p.full] ^ blk n4 [.int .i64 (mM2 (mM1 m) s).c.ph, .int .u64 (mM2 (mM1 m) s).c.at'] ^ blk n5 [.int .u64 (mM2 (mM1 m) s).b.best, .int .u64 (mM2 (mM1 m) s).b.at', .bool (mM2 (mM1 m) s).b.on, .int .u64 (mM2 (mM1 m) s).b.til, .bool (mM2 (mM1 m) s).b.rd] ^ blk n6 [.bool (mM2 (mM1 m) s).q.use, .bool (mM2 (mM1 m) s).q.mea, .int .u64 (mM2 (mM1 m) s).q.bw, .int .i64 (mM2 (mM1 m) s).q.n, .int .u64 (mM2 (mM1 m) s).q.lost, .int .u64 (mM2 (mM1 m) s).q.t0, .int .u64 (mM2 (mM1 m) s).q.d0, .int .u64 (mM2 (mM1 m) s).q.l0]) :=
  tri_0 (call_bbr_Model_modes _ _) fun w0 S R h => by
    unfold W_bbr_Model_modes
    refine w_new h fun x w h => ?_
    have h : Own w0 S R w ((blk b [.ptr (some ⟨n1, 0⟩), .ptr (some ⟨n2, 0⟩), .ptr (some ⟨n3, 0⟩), .ptr (some ⟨n4, 0⟩), .ptr (some ⟨n5, 0⟩), .ptr (some ⟨n6, 0⟩), .int .u64 m.mss, .int .i64 m.mode, .int .u64 m.rate, .int .u64 m.win, .int .u64 m.sav, .bool m.rec', .bool m.first, .int .u64 m.til] ^ blk n1 [.int .u64 m.w.w, .int .u64 m.w.t0, .int .u64 m.w.v0, .int .u64 m.w.t1, .int .u64 m.w.v1, .int .u64 m.w.t2, .int .u64 m.w.v2, .int .u64 m.w.la] ^ blk n2 [.int .u64 m.r.n, .int .u64 m.r.nx] ^ blk n3 [.int .u64 m.p.best, .int .i64 m.p.n, .bool m.p.full] ^ blk n4 [.int .i64 m.c.ph, .int .u64 m.c.at'] ^ blk n5 [.int .u64 m.b.best, .int .u64 m.b.at', .bool m.b.on, .int .u64 m.b.til, .bool m.b.rd] ^ blk n6 [.bool m.q.use, .bool m.q.mea, .int .u64 m.q.bw, .int .i64 m.q.n, .int .u64 m.q.lost, .int .u64 m.q.t0, .int .u64 m.q.d0, .int .u64 m.q.l0]) ^ blk x (Ks.mk K_u8b s)) := h.fin
    refine w_loopE (fun (_ : Unit) (u : Md) => (blk b [.ptr (some ⟨n1, 0⟩), .ptr (some ⟨n2, 0⟩), .ptr (some ⟨n3, 0⟩), .ptr (some ⟨n4, 0⟩), .ptr (some ⟨n5, 0⟩), .ptr (some ⟨n6, 0⟩), .int .u64 u.mss, .int .i64 u.mode, .int .u64 u.rate, .int .u64 u.win, .int .u64 u.sav, .bool u.rec', .bool u.first, .int .u64 u.til] ^ blk n1 [.int .u64 u.w.w, .int .u64 u.w.t0, .int .u64 u.w.v0, .int .u64 u.w.t1, .int .u64 u.w.v1, .int .u64 u.w.t2, .int .u64 u.w.v2, .int .u64 u.w.la] ^ blk n2 [.int .u64 u.r.n, .int .u64 u.r.nx] ^ blk n3 [.int .u64 u.p.best, .int .i64 u.p.n, .bool u.p.full] ^ blk n4 [.int .i64 u.c.ph, .int .u64 u.c.at'] ^ blk n5 [.int .u64 u.b.best, .int .u64 u.b.at', .bool u.b.on, .int .u64 u.b.til, .bool u.b.rd] ^ blk n6 [.bool u.q.use, .bool u.q.mea, .int .u64 u.q.bw, .int .i64 u.q.n, .int .u64 u.q.lost, .int .u64 u.q.t0, .int .u64 u.q.d0, .int .u64 u.q.l0]) ^ blk x (Ks.mk K_u8b s)) (fun _ u => (OkM u ∧ mM1 u = mM1 m)) (fun _ u => if u.mode = 0 then 1 else 0) m h ⟨hm, rfl⟩ ?_
    rintro K _ u w ⟨hu, heq⟩ h hK
    rw [← heq]
    refine w_join h (fun _ => (blk b [.ptr (some ⟨n1, 0⟩), .ptr (some ⟨n2, 0⟩), .ptr (some ⟨n3, 0⟩), .ptr (some ⟨n4, 0⟩), .ptr (some ⟨n5, 0⟩), .ptr (some ⟨n6, 0⟩), .int .u64 u.mss, .int .i64 u.mode, .int .u64 u.rate, .int .u64 u.win, .int .u64 u.sav, .bool u.rec', .bool u.first, .int .u64 u.til] ^ blk n1 [.int .u64 u.w.w, .int .u64 u.w.t0, .int .u64 u.w.v0, .int .u64 u.w.t1, .int .u64 u.w.v1, .int .u64 u.w.t2, .int .u64 u.w.v2, .int .u64 u.w.la] ^ blk n2 [.int .u64 u.r.n, .int .u64 u.r.nx] ^ blk n3 [.int .u64 u.p.best, .int .i64 u.p.n, .bool u.p.full] ^ blk n4 [.int .i64 u.c.ph, .int .u64 u.c.at'] ^ blk n5 [.int .u64 u.b.best, .int .u64 u.b.at', .bool u.b.on, .int .u64 u.b.til, .bool u.b.rd] ^ blk n6 [.bool u.q.use, .bool u.q.mea, .int .u64 u.q.bw, .int .i64 u.q.n, .int .u64 u.q.lost, .int .u64 u.q.t0, .int .u64 u.q.d0, .int .u64 u.q.l0]) ^ blk x (Ks.mk K_u8b s)) (fun y : Bool => y = decide (u.mode = 0 ∧ u.p.full = true)) (fun (y : Bool) w hy h => ?_) ?_
    · rw [hy]
      refine w_ite (fun c => ?_) fun c => ?_
      · have c : u.mode = 0 ∧ u.p.full = true := by simpa using c
        refine w_deref (w_setTo h b [.ptr (some ⟨n1, 0⟩), .ptr (some ⟨n2, 0⟩), .ptr (some ⟨n3, 0⟩), .ptr (some ⟨n4, 0⟩), .ptr (some ⟨n5, 0⟩), .ptr (some ⟨n6, 0⟩), .int .u64 ({ u with mode := 1 }).mss, .int .i64 ({ u with mode := 1 }).mode, .int .u64 ({ u with mode := 1 }).rate, .int .u64 ({ u with mode := 1 }).win, .int .u64 ({ u with mode := 1 }).sav, .bool ({ u with mode := 1 }).rec', .bool ({ u with mode := 1 }).first, .int .u64 ({ u with mode := 1 }).til] rfl rfl rfl fun w h => ?_)
        refine hK () { u with mode := 1 } w ⟨{ hu with mode := by simp }, ?_⟩ h.fin ?_
        · rw [← heq]
          have e1 : mM1 u = { u with mode := 1 } := by unfold mM1; rw [if_pos c]
          rw [e1]
          unfold mM1
          rw [if_neg (by simp)]
        · rw [if_pos c.1, if_neg (by simp)]; omega
      have c : ¬ (u.mode = 0 ∧ u.p.full = true) := by simpa using c
      have e1 : mM1 u = u := by unfold mM1; rw [if_neg c]
      rw [e1]
      refine w_join h (fun _ => (blk b [.ptr (some ⟨n1, 0⟩), .ptr (some ⟨n2, 0⟩), .ptr (some ⟨n3, 0⟩), .ptr (some ⟨n4, 0⟩), .ptr (some ⟨n5, 0⟩), .ptr (some ⟨n6, 0⟩), .int .u64 u.mss, .int .i64 u.mode, .int .u64 u.rate, .int .u64 u.win, .int .u64 u.sav, .bool u.rec', .bool u.first, .int .u64 u.til] ^ blk n1 [.int .u64 u.w.w, .int .u64 u.w.t0, .int .u64 u.w.v0, .int .u64 u.w.t1, .int .u64 u.w.v1, .int .u64 u.w.t2, .int .u64 u.w.v2, .int .u64 u.w.la] ^ blk n2 [.int .u64 u.r.n, .int .u64 u.r.nx] ^ blk n3 [.int .u64 u.p.best, .int .i64 u.p.n, .bool u.p.full] ^ blk n4 [.int .i64 u.c.ph, .int .u64 u.c.at'] ^ blk n5 [.int .u64 u.b.best, .int .u64 u.b.at', .bool u.b.on, .int .u64 u.b.til, .bool u.b.rd] ^ blk n6 [.bool u.q.use, .bool u.q.mea, .int .u64 u.q.bw, .int .i64 u.q.n, .int .u64 u.q.lost, .int .u64 u.q.t0, .int .u64 u.q.d0, .int .u64 u.q.l0]) ^ blk x (Ks.mk K_u8b s)) (fun y : Bool => y = decide (u.mode = 1 ∧ u.b.best > 0 ∧ sFli s ≤ mBdp u 256)) (fun (y : Bool) w hy h => ?_) ?_
      · rw [hy]
        refine w_ite (fun c2 => ?_) fun c2 => ?_
        · have c2 : u.mode = 1 ∧ u.b.best > 0 ∧ sFli s ≤ mBdp u 256 := by simpa using c2
          have e : mM2 u s = mCruise u (sNow s) := by unfold mM2; rw [if_pos c2]
          rw [e]
          refine w_ld h rfl ?_
          refine w_call (cruise_tri b n1 n2 n3 n4 n5 n6 u (sNow s)) h fun _ w h => ?_
          exact h.fin
        · have c2 : ¬ (u.mode = 1 ∧ u.b.best > 0 ∧ sFli s ≤ mBdp u 256) := by simpa using c2
          have e : mM2 u s = u := by unfold mM2; rw [if_neg c2]
          rw [e]
          exact h.fin
      · repeat' (first
          | (refine w_drw h fun w h => ?_)
          | (refine w_deref ?_)
          | (refine w_ldAll h rfl ?_)
          | (refine w_ld h rfl ?_)
          | (refine w_chkAll h ?_)
          | (refine w_chk h rfl ?_)
          | (refine w_setAll h (by rfl) fun w h => ?_)
          | (refine w_new h fun n w h => ?_)
          | (refine w_leave h fun w h => ?_)
          | (refine w_set h rfl fun w h => ?_; dsimp only [upd, over] at h))
        refine w_ite (fun c2 => ?_) fun c2 => ?_
        · have c2 : u.mode = 1 := by simpa using c2
          repeat' (first
            | (refine w_drw h fun w h => ?_)
            | (refine w_deref ?_)
            | (refine w_ldAll h rfl ?_)
            | (refine w_ld h rfl ?_)
            | (refine w_chkAll h ?_)
            | (refine w_chk h rfl ?_)
            | (refine w_setAll h (by rfl) fun w h => ?_)
            | (refine w_new h fun n w h => ?_)
            | (refine w_leave h fun w h => ?_)
            | (refine w_set h rfl fun w h => ?_; dsimp only [upd, over] at h)
            | (refine w_call (bbest_tri n5 u.b) h fun r w h => ?_; obtain ⟨hr, h⟩ := h.purP; (try dsimp only at hr h); try rw [hr]))
          refine w_ite (fun c3 => ?_) fun c3 => ?_
          · have c3 : u.b.best > 0 := by simpa using c3
            repeat' (first
              | (refine w_drw h fun w h => ?_)
              | (refine w_deref ?_)
              | (refine w_ldAll h rfl ?_)
              | (refine w_ld h rfl ?_)
              | (refine w_chkAll h ?_)
              | (refine w_chk h rfl ?_)
              | (refine w_setAll h (by rfl) fun w h => ?_)
              | (refine w_new h fun n w h => ?_)
              | (refine w_leave h fun w h => ?_)
              | (refine w_set h rfl fun w h => ?_; dsimp only [upd, over] at h)
              | (refine w_call (bdpm_tri b n1 n2 n3 n4 n5 n6 u hu 256 (U_lit _)) h fun r w h => ?_; obtain ⟨hr, h⟩ := h.purP; (try dsimp only at hr h); try rw [hr]))
            exact ⟨by rw [Bool.eq_iff_iff]; simp [c2, c3], h.fin⟩
          · have c3 : ¬ u.b.best > 0 := by simpa using c3
            exact ⟨by simp [c3], h.fin⟩
        · have c2 : ¬ u.mode = 1 := by simpa using c2
          exact ⟨by simp [c2], h.fin⟩
    · repeat' (first
        | (refine w_drw h fun w h => ?_)
        | (refine w_deref ?_)
        | (refine w_ldAll h rfl ?_)
        | (refine w_ld h rfl ?_)
        | (refine w_chkAll h ?_)
        | (refine w_chk h rfl ?_)
        | (refine w_setAll h (by rfl) fun w h => ?_)
        | (refine w_new h fun n w h => ?_)
        | (refine w_leave h fun w h => ?_)
        | (refine w_set h rfl fun w h => ?_; dsimp only [upd, over] at h))
      refine w_ite (fun c => ?_) fun c => ?_
      · have c : u.mode = 0 := by simpa using c
        repeat' (first
          | (refine w_drw h fun w h => ?_)
          | (refine w_deref ?_)
          | (refine w_ldAll h rfl ?_)
          | (refine w_ld h rfl ?_)
          | (refine w_chkAll h ?_)
          | (refine w_chk h rfl ?_)
          | (refine w_setAll h (by rfl) fun w h => ?_)
          | (refine w_new h fun n w h => ?_)
          | (refine w_leave h fun w h => ?_)
          | (refine w_set h rfl fun w h => ?_; dsimp only [upd, over] at h)
          | (refine w_call (full_tri n3 u.p) h fun r w h => ?_; obtain ⟨hr, h⟩ := h.purP; (try dsimp only at hr h); try rw [hr]))
        exact ⟨by rw [Bool.eq_iff_iff]; simp [c], h.fin⟩
      · have c : ¬ u.mode = 0 := by simpa using c
        exact ⟨by simp [c], h.fin⟩
theorem look_tri : Tri Try.prog N_bbr_Model_look [.lf (.ptr (some ⟨b, 0⟩)), .agg (Ks.mk K_u8b s), .lf (.bool o)] [] (blk b [.ptr (some ⟨n1, 0⟩), .ptr (some ⟨n2, 0⟩), .ptr (some ⟨n3, 0⟩), .ptr (some ⟨n4, 0⟩), .ptr (some ⟨n5, 0⟩), .ptr (some ⟨n6, 0⟩), .int .u64 m.mss, .int .i64 m.mode, .int .u64 m.rate, .int .u64 m.win, .int .u64 m.sav, .bool m.rec', .bool m.first, .int .u64 m.til] ^ blk n1 [.int .u64 m.w.w, .int .u64 m.w.t0, .int .u64 m.w.v0, .int .u64 m.w.t1, .int .u64 m.w.v1, .int .u64 m.w.t2, .int .u64 m.w.v2, .int .u64 m.w.la] ^ blk n2 [.int .u64 m.r.n, .int .u64 m.r.nx] ^ blk n3 [.int .u64 m.p.best, .int .i64 m.p.n, .bool m.p.full] ^ blk n4 [.int .i64 m.c.ph, .int .u64 m.c.at'] ^ blk n5 [.int .u64 m.b.best, .int .u64 m.b.at', .bool m.b.on, .int .u64 m.b.til, .bool m.b.rd] ^ blk n6 [.bool m.q.use, .bool m.q.mea, .int .u64 m.q.bw, .int .i64 m.q.n, .int .u64 m.q.lost, .int .u64 m.q.t0, .int .u64 m.q.d0, .int .u64 m.q.l0]) (fun _ => blk b [.ptr (some ⟨n1, 0⟩), .ptr (some ⟨n2, 0⟩), .ptr (some ⟨n3, 0⟩), .ptr (some ⟨n4, 0⟩), .ptr (some ⟨n5, 0⟩), .ptr (some ⟨n6, 0⟩), .int .u64 (mLook m s o).mss, .int .i64 (mLook m s o).mode, .int .u64 (mLook m s o).rate, .int .u64 (mLook m s o).win, .int .u64 (mLook m s o).sav, .bool (mLook m s o).rec', .bool (mLook m s o).first, .int .u64 (mLook m s o).til] ^ blk n1 [.int .u64 (mLook m s o).w.w, .int .u64 (mLook m s o).w.t0, .int .u64 (mLook m s o).w.v0, .int .u64 (mLook m s o).w.t1, .int .u64 (mLook m s o).w.v1, .int .u64 (mLook m s o).w.t2, .int .u64 (mLook m s o).w.v2, .int .u64 (mLook m s o).w.la] ^ blk n2 [.int .u64 (mLook m s o).r.n, .int .u64 (mLook m s o).r.nx] ^ blk n3 [.int .u64 (mLook m s o).p.best, .int .i64 (mLook m s o).p.n, .bool (mLook m s o).p.full] ^ blk n4 [.int .i64 (mLook m s o).c.ph, .int .u64 (mLook m s o).c.at'] ^ blk n5 [.int .u64 (mLook m s o).b.best, .int .u64 (mLook m s o).b.at', .bool (mLook m s o).b.on, .int .u64 (mLook m s o).b.til, .bool (mLook m s o).b.rd] ^ blk n6 [.bool (mLook m s o).q.use, .bool (mLook m s o).q.mea, .int .u64 (mLook m s o).q.bw, .int .i64 (mLook m s o).q.n, .int .u64 (mLook m s o).q.lost, .int .u64 (mLook m s o).q.t0, .int .u64 (mLook m s o).q.d0, .int .u64 (mLook m s o).q.l0]) :=
  tri_0 (call_bbr_Model_look _ _ _) fun w0 S R h => by
    unfold W_bbr_Model_look
    refine w_new h fun x w h => ?_
    have h : Own w0 S R w ((blk b [.ptr (some ⟨n1, 0⟩), .ptr (some ⟨n2, 0⟩), .ptr (some ⟨n3, 0⟩), .ptr (some ⟨n4, 0⟩), .ptr (some ⟨n5, 0⟩), .ptr (some ⟨n6, 0⟩), .int .u64 m.mss, .int .i64 m.mode, .int .u64 m.rate, .int .u64 m.win, .int .u64 m.sav, .bool m.rec', .bool m.first, .int .u64 m.til] ^ blk n1 [.int .u64 m.w.w, .int .u64 m.w.t0, .int .u64 m.w.v0, .int .u64 m.w.t1, .int .u64 m.w.v1, .int .u64 m.w.t2, .int .u64 m.w.v2, .int .u64 m.w.la] ^ blk n2 [.int .u64 m.r.n, .int .u64 m.r.nx] ^ blk n3 [.int .u64 m.p.best, .int .i64 m.p.n, .bool m.p.full] ^ blk n4 [.int .i64 m.c.ph, .int .u64 m.c.at'] ^ blk n5 [.int .u64 m.b.best, .int .u64 m.b.at', .bool m.b.on, .int .u64 m.b.til, .bool m.b.rd] ^ blk n6 [.bool m.q.use, .bool m.q.mea, .int .u64 m.q.bw, .int .i64 m.q.n, .int .u64 m.q.lost, .int .u64 m.q.t0, .int .u64 m.q.d0, .int .u64 m.q.l0]) ^ blk x (Ks.mk K_u8b s)) := h.fin
    repeat' (first
      | (refine w_drw h fun w h => ?_)
      | (refine w_deref ?_)
      | (refine w_ldAll h rfl ?_)
      | (refine w_ld h rfl ?_)
      | (refine w_chkAll h ?_)
      | (refine w_chk h rfl ?_)
      | (refine w_setAll h (by rfl) fun w h => ?_)
      | (refine w_new h fun n w h => ?_)
      | (refine w_leave h fun w h => ?_)
      | (refine w_set h rfl fun w h => ?_; dsimp only [upd, over] at h)
      | (refine w_call (floor_tri b n1 n2 n3 n4 n5 n6 m hm) h fun r w h => ?_; obtain ⟨hr, h⟩ := h.purP; (try dsimp only at hr h); try rw [hr])
      | (refine w_call (bupd_tri n5 m.b hm.b (sNow s) (sRtt s) (sFli s) (mFloor m) o hs.now hs.rtt) h fun r w h => ?_; obtain ⟨hr, h⟩ := h.purP; (try dsimp only at hr h); try rw [hr]))
    have e : mLook m s o = mProbed { m with b := (mPr m s o).2 } (mPr m s o).1 (sNow s) := rfl
    rw [e]
    have h : Own w0 S R w ((blk b [.ptr (some ⟨n1, 0⟩), .ptr (some ⟨n2, 0⟩), .ptr (some ⟨n3, 0⟩), .ptr (some ⟨n4, 0⟩), .ptr (some ⟨n5, 0⟩), .ptr (some ⟨n6, 0⟩), .int .u64 ({ m with b := (mPr m s o).2 }).mss, .int .i64 ({ m with b := (mPr m s o).2 }).mode, .int .u64 ({ m with b := (mPr m s o).2 }).rate, .int .u64 ({ m with b := (mPr m s o).2 }).win, .int .u64 ({ m with b := (mPr m s o).2 }).sav, .bool ({ m with b := (mPr m s o).2 }).rec', .bool ({ m with b := (mPr m s o).2 }).first, .int .u64 ({ m with b := (mPr m s o).2 }).til] ^ blk n1 [.int .u64 ({ m with b := (mPr m s o).2 }).w.w, .int .u64 ({ m with b := (mPr m s o).2 }).w.t0, .int .u64 ({ m with b := (mPr m s o).2 }).w.v0, .int .u64 ({ m with b := (mPr m s o).2 }).w.t1, .int .u64 ({ m with b := (mPr m s o).2 }).w.v1, .int .u64 ({ m with b := (mPr m s o).2 }).w.t2, .int .u64 ({ m with b := (mPr m s o).2 }).w.v2, .int .u64 ({ m with b := (mPr m s o).2 }).w.la] ^ blk n2 [.int .u64 ({ m with b := (mPr m s o).2 }).r.n, .int .u64 ({ m with b := (mPr m s o).2 }).r.nx] ^ blk n3 [.int .u64 ({ m with b := (mPr m s o).2 }).p.best, .int .i64 ({ m with b := (mPr m s o).2 }).p.n, .bool ({ m with b := (mPr m s o).2 }).p.full] ^ blk n4 [.int .i64 ({ m with b := (mPr m s o).2 }).c.ph, .int .u64 ({ m with b := (mPr m s o).2 }).c.at'] ^ blk n5 [.int .u64 ({ m with b := (mPr m s o).2 }).b.best, .int .u64 ({ m with b := (mPr m s o).2 }).b.at', .bool ({ m with b := (mPr m s o).2 }).b.on, .int .u64 ({ m with b := (mPr m s o).2 }).b.til, .bool ({ m with b := (mPr m s o).2 }).b.rd] ^ blk n6 [.bool ({ m with b := (mPr m s o).2 }).q.use, .bool ({ m with b := (mPr m s o).2 }).q.mea, .int .u64 ({ m with b := (mPr m s o).2 }).q.bw, .int .i64 ({ m with b := (mPr m s o).2 }).q.n, .int .u64 ({ m with b := (mPr m s o).2 }).q.lost, .int .u64 ({ m with b := (mPr m s o).2 }).q.t0, .int .u64 ({ m with b := (mPr m s o).2 }).q.d0, .int .u64 ({ m with b := (mPr m s o).2 }).q.l0]) ^ blk x (Ks.mk K_u8b s)) := h.fin
    change ite' (mPr m s o).1.1 _ (ite' (mPr m s o).1.2 _ _) w
    generalize (mPr m s o).1 = r at *
    generalize { m with b := (mPr m s o).2 } = u at *
    refine w_ite (fun c => ?_) fun c => ?_
    · have c : r.1 = true := c
      have e : mProbed u r (sNow s) = { u with sav := if u.win > u.sav then u.win else u.sav, mode := 3 } := by unfold mProbed; rw [if_pos c]
      rw [e]
      refine w_drw h fun w h => w_deref (w_deref (w_ld h rfl (w_ld h rfl (w_deref ?_))))
      refine w_setTo h b [.ptr (some ⟨n1, 0⟩), .ptr (some ⟨n2, 0⟩), .ptr (some ⟨n3, 0⟩), .ptr (some ⟨n4, 0⟩), .ptr (some ⟨n5, 0⟩), .ptr (some ⟨n6, 0⟩), .int .u64 ({ u with sav := if u.win > u.sav then u.win else u.sav }).mss, .int .i64 ({ u with sav := if u.win > u.sav then u.win else u.sav }).mode, .int .u64 ({ u with sav := if u.win > u.sav then u.win else u.sav }).rate, .int .u64 ({ u with sav := if u.win > u.sav then u.win else u.sav }).win, .int .u64 ({ u with sav := if u.win > u.sav then u.win else u.sav }).sav, .bool ({ u with sav := if u.win > u.sav then u.win else u.sav }).rec', .bool ({ u with sav := if u.win > u.sav then u.win else u.sav }).first, .int .u64 ({ u with sav := if u.win > u.sav then u.win else u.sav }).til] rfl rfl rfl fun w h => ?_
      refine w_deref (w_setTo h b [.ptr (some ⟨n1, 0⟩), .ptr (some ⟨n2, 0⟩), .ptr (some ⟨n3, 0⟩), .ptr (some ⟨n4, 0⟩), .ptr (some ⟨n5, 0⟩), .ptr (some ⟨n6, 0⟩), .int .u64 ({ u with sav := if u.win > u.sav then u.win else u.sav, mode := 3 }).mss, .int .i64 ({ u with sav := if u.win > u.sav then u.win else u.sav, mode := 3 }).mode, .int .u64 ({ u with sav := if u.win > u.sav then u.win else u.sav, mode := 3 }).rate, .int .u64 ({ u with sav := if u.win > u.sav then u.win else u.sav, mode := 3 }).win, .int .u64 ({ u with sav := if u.win > u.sav then u.win else u.sav, mode := 3 }).sav, .bool ({ u with sav := if u.win > u.sav then u.win else u.sav, mode := 3 }).rec', .bool ({ u with sav := if u.win > u.sav then u.win else u.sav, mode := 3 }).first, .int .u64 ({ u with sav := if u.win > u.sav then u.win else u.sav, mode := 3 }).til] rfl rfl rfl fun w h => ?_)
      exact h.fin
    have c : r.1 = false := c
    refine w_ite (fun c2 => ?_) fun c2 => ?_
    · have c2 : r.2 = true := c2
      have e : mProbed u r (sNow s) = if u.p.full then mCruise { mBack u with mode := 0 } (sNow s) else { mBack u with mode := 0 } := by unfold mProbed; rw [if_neg (by rw [c]; simp), if_pos c2]
      rw [e]
      refine w_call (back_tri b n1 n2 n3 n4 n5 n6 u) h fun _ w h => ?_
      refine w_deref (w_setTo h b [.ptr (some ⟨n1, 0⟩), .ptr (some ⟨n2, 0⟩), .ptr (some ⟨n3, 0⟩), .ptr (some ⟨n4, 0⟩), .ptr (some ⟨n5, 0⟩), .ptr (some ⟨n6, 0⟩), .int .u64 ({ mBack u with mode := 0 }).mss, .int .i64 ({ mBack u with mode := 0 }).mode, .int .u64 ({ mBack u with mode := 0 }).rate, .int .u64 ({ mBack u with mode := 0 }).win, .int .u64 ({ mBack u with mode := 0 }).sav, .bool ({ mBack u with mode := 0 }).rec', .bool ({ mBack u with mode := 0 }).first, .int .u64 ({ mBack u with mode := 0 }).til] rfl rfl rfl fun w h => ?_)
      refine w_deref (w_ld h rfl ?_)
      refine w_call (full_tri n3 u.p) h fun r w h => ?_
      obtain ⟨hr, h⟩ := h.purP; rw [hr]
      refine w_ite (fun c3 => ?_) fun c3 => ?_
      · have c3 : u.p.full = true := c3
        rw [if_pos c3]
        refine w_ld h rfl ?_
        refine w_call (cruise_tri b n1 n2 n3 n4 n5 n6 { mBack u with mode := 0 } (sNow s)) h fun _ w h => ?_
        exact h.fin
      · have c3 : u.p.full = false := c3
        rw [if_neg (by rw [c3]; simp)]
        exact h.fin
    · have c2 : r.2 = false := c2
      have e : mProbed u r (sNow s) = u := by unfold mProbed; rw [if_neg (by rw [c]; simp), if_neg (by rw [c2]; simp)]
      rw [e]
      exact h.fin
theorem rec_tri : Tri Try.prog N_bbr_Model_recover [.lf (.ptr (some ⟨b, 0⟩)), .agg (Ks.mk K_u8b s), .lf (.bool o)] [] (blk b [.ptr (some ⟨n1, 0⟩), .ptr (some ⟨n2, 0⟩), .ptr (some ⟨n3, 0⟩), .ptr (some ⟨n4, 0⟩), .ptr (some ⟨n5, 0⟩), .ptr (some ⟨n6, 0⟩), .int .u64 m.mss, .int .i64 m.mode, .int .u64 m.rate, .int .u64 m.win, .int .u64 m.sav, .bool m.rec', .bool m.first, .int .u64 m.til] ^ blk n1 [.int .u64 m.w.w, .int .u64 m.w.t0, .int .u64 m.w.v0, .int .u64 m.w.t1, .int .u64 m.w.v1, .int .u64 m.w.t2, .int .u64 m.w.v2, .int .u64 m.w.la] ^ blk n2 [.int .u64 m.r.n, .int .u64 m.r.nx] ^ blk n3 [.int .u64 m.p.best, .int .i64 m.p.n, .bool m.p.full] ^ blk n4 [.int .i64 m.c.ph, .int .u64 m.c.at'] ^ blk n5 [.int .u64 m.b.best, .int .u64 m.b.at', .bool m.b.on, .int .u64 m.b.til, .bool m.b.rd] ^ blk n6 [.bool m.q.use, .bool m.q.mea, .int .u64 m.q.bw, .int .i64 m.q.n, .int .u64 m.q.lost, .int .u64 m.q.t0, .int .u64 m.q.d0, .int .u64 m.q.l0]) (fun _ => blk b [.ptr (some ⟨n1, 0⟩), .ptr (some ⟨n2, 0⟩), .ptr (some ⟨n3, 0⟩), .ptr (some ⟨n4, 0⟩), .ptr (some ⟨n5, 0⟩), .ptr (some ⟨n6, 0⟩), .int .u64 (mRecover m s o).mss, .int .i64 (mRecover m s o).mode, .int .u64 (mRecover m s o).rate, .int .u64 (mRecover m s o).win, .int .u64 (mRecover m s o).sav, .bool (mRecover m s o).rec', .bool (mRecover m s o).first, .int .u64 (mRecover m s o).til] ^ blk n1 [.int .u64 (mRecover m s o).w.w, .int .u64 (mRecover m s o).w.t0, .int .u64 (mRecover m s o).w.v0, .int .u64 (mRecover m s o).w.t1, .int .u64 (mRecover m s o).w.v1, .int .u64 (mRecover m s o).w.t2, .int .u64 (mRecover m s o).w.v2, .int .u64 (mRecover m s o).w.la] ^ blk n2 [.int .u64 (mRecover m s o).r.n, .int .u64 (mRecover m s o).r.nx] ^ blk n3 [.int .u64 (mRecover m s o).p.best, .int .i64 (mRecover m s o).p.n, .bool (mRecover m s o).p.full] ^ blk n4 [.int .i64 (mRecover m s o).c.ph, .int .u64 (mRecover m s o).c.at'] ^ blk n5 [.int .u64 (mRecover m s o).b.best, .int .u64 (mRecover m s o).b.at', .bool (mRecover m s o).b.on, .int .u64 (mRecover m s o).b.til, .bool (mRecover m s o).b.rd] ^ blk n6 [.bool (mRecover m s o).q.use, .bool (mRecover m s o).q.mea, .int .u64 (mRecover m s o).q.bw, .int .i64 (mRecover m s o).q.n, .int .u64 (mRecover m s o).q.lost, .int .u64 (mRecover m s o).q.t0, .int .u64 (mRecover m s o).q.d0, .int .u64 (mRecover m s o).q.l0]) :=
  tri_0 (call_bbr_Model_recover _ _ _) fun w0 S R h => by
    unfold W_bbr_Model_recover
    refine w_new h fun x w h => ?_
    have h : Own w0 S R w ((blk b [.ptr (some ⟨n1, 0⟩), .ptr (some ⟨n2, 0⟩), .ptr (some ⟨n3, 0⟩), .ptr (some ⟨n4, 0⟩), .ptr (some ⟨n5, 0⟩), .ptr (some ⟨n6, 0⟩), .int .u64 m.mss, .int .i64 m.mode, .int .u64 m.rate, .int .u64 m.win, .int .u64 m.sav, .bool m.rec', .bool m.first, .int .u64 m.til] ^ blk n1 [.int .u64 m.w.w, .int .u64 m.w.t0, .int .u64 m.w.v0, .int .u64 m.w.t1, .int .u64 m.w.v1, .int .u64 m.w.t2, .int .u64 m.w.v2, .int .u64 m.w.la] ^ blk n2 [.int .u64 m.r.n, .int .u64 m.r.nx] ^ blk n3 [.int .u64 m.p.best, .int .i64 m.p.n, .bool m.p.full] ^ blk n4 [.int .i64 m.c.ph, .int .u64 m.c.at'] ^ blk n5 [.int .u64 m.b.best, .int .u64 m.b.at', .bool m.b.on, .int .u64 m.b.til, .bool m.b.rd] ^ blk n6 [.bool m.q.use, .bool m.q.mea, .int .u64 m.q.bw, .int .i64 m.q.n, .int .u64 m.q.lost, .int .u64 m.q.t0, .int .u64 m.q.d0, .int .u64 m.q.l0]) ^ blk x (Ks.mk K_u8b s)) := h.fin
    refine w_join h (fun _ => (blk b [.ptr (some ⟨n1, 0⟩), .ptr (some ⟨n2, 0⟩), .ptr (some ⟨n3, 0⟩), .ptr (some ⟨n4, 0⟩), .ptr (some ⟨n5, 0⟩), .ptr (some ⟨n6, 0⟩), .int .u64 m.mss, .int .i64 m.mode, .int .u64 m.rate, .int .u64 m.win, .int .u64 m.sav, .bool m.rec', .bool m.first, .int .u64 m.til] ^ blk n1 [.int .u64 m.w.w, .int .u64 m.w.t0, .int .u64 m.w.v0, .int .u64 m.w.t1, .int .u64 m.w.v1, .int .u64 m.w.t2, .int .u64 m.w.v2, .int .u64 m.w.la] ^ blk n2 [.int .u64 m.r.n, .int .u64 m.r.nx] ^ blk n3 [.int .u64 m.p.best, .int .i64 m.p.n, .bool m.p.full] ^ blk n4 [.int .i64 m.c.ph, .int .u64 m.c.at'] ^ blk n5 [.int .u64 m.b.best, .int .u64 m.b.at', .bool m.b.on, .int .u64 m.b.til, .bool m.b.rd] ^ blk n6 [.bool m.q.use, .bool m.q.mea, .int .u64 m.q.bw, .int .i64 m.q.n, .int .u64 m.q.lost, .int .u64 m.q.t0, .int .u64 m.q.d0, .int .u64 m.q.l0]) ^ blk x (Ks.mk K_u8b s)) (fun y : Bool => y = decide (sLost s > 0 ∧ m.rec' = false)) (fun (y : Bool) w hy h => ?_) ?_
    · rw [hy]
      refine w_ite (fun c => ?_) fun c => ?_
      · have c : sLost s > 0 ∧ m.rec' = false := by simpa using c
        have e : mRecover m s o = { m with rec' := true, first := true, til := addI (sDel s) (sFli s), sav := if m.win > m.sav then m.win else m.sav } := by unfold mRecover; rw [if_pos c]
        rw [e]
        refine w_ld h rfl (w_ld h rfl ?_)
        refine w_call (satadd_tri (sDel s) (sFli s) hs.del hs.fli) (h.le ((star_comm _ _).trans (star_mono Le.rfl (star_emp _)))) fun r w h => ?_
        obtain ⟨hr, h⟩ := h.purP; rw [hr]
        refine w_deref (w_setTo h b [.ptr (some ⟨n1, 0⟩), .ptr (some ⟨n2, 0⟩), .ptr (some ⟨n3, 0⟩), .ptr (some ⟨n4, 0⟩), .ptr (some ⟨n5, 0⟩), .ptr (some ⟨n6, 0⟩), .int .u64 ({ m with rec' := true }).mss, .int .i64 ({ m with rec' := true }).mode, .int .u64 ({ m with rec' := true }).rate, .int .u64 ({ m with rec' := true }).win, .int .u64 ({ m with rec' := true }).sav, .bool ({ m with rec' := true }).rec', .bool ({ m with rec' := true }).first, .int .u64 ({ m with rec' := true }).til] rfl rfl rfl fun w h => ?_)
        refine w_deref (w_setTo h b [.ptr (some ⟨n1, 0⟩), .ptr (some ⟨n2, 0⟩), .ptr (some ⟨n3, 0⟩), .ptr (some ⟨n4, 0⟩), .ptr (some ⟨n5, 0⟩), .ptr (some ⟨n6, 0⟩), .int .u64 ({ m with rec' := true, first := true }).mss, .int .i64 ({ m with rec' := true, first := true }).mode, .int .u64 ({ m with rec' := true, first := true }).rate, .int .u64 ({ m with rec' := true, first := true }).win, .int .u64 ({ m with rec' := true, first := true }).sav, .bool ({ m with rec' := true, first := true }).rec', .bool ({ m with rec' := true, first := true }).first, .int .u64 ({ m with rec' := true, first := true }).til] rfl rfl rfl fun w h => ?_)
        refine w_deref (w_setTo h b [.ptr (some ⟨n1, 0⟩), .ptr (some ⟨n2, 0⟩), .ptr (some ⟨n3, 0⟩), .ptr (some ⟨n4, 0⟩), .ptr (some ⟨n5, 0⟩), .ptr (some ⟨n6, 0⟩), .int .u64 ({ m with rec' := true, first := true, til := addI (sDel s) (sFli s) }).mss, .int .i64 ({ m with rec' := true, first := true, til := addI (sDel s) (sFli s) }).mode, .int .u64 ({ m with rec' := true, first := true, til := addI (sDel s) (sFli s) }).rate, .int .u64 ({ m with rec' := true, first := true, til := addI (sDel s) (sFli s) }).win, .int .u64 ({ m with rec' := true, first := true, til := addI (sDel s) (sFli s) }).sav, .bool ({ m with rec' := true, first := true, til := addI (sDel s) (sFli s) }).rec', .bool ({ m with rec' := true, first := true, til := addI (sDel s) (sFli s) }).first, .int .u64 ({ m with rec' := true, first := true, til := addI (sDel s) (sFli s) }).til] rfl rfl rfl fun w h => ?_)
        refine w_drw h fun w h => w_deref (w_deref (w_ld h rfl (w_ld h rfl (w_deref ?_))))
        refine w_setTo h b [.ptr (some ⟨n1, 0⟩), .ptr (some ⟨n2, 0⟩), .ptr (some ⟨n3, 0⟩), .ptr (some ⟨n4, 0⟩), .ptr (some ⟨n5, 0⟩), .ptr (some ⟨n6, 0⟩), .int .u64 ({ m with rec' := true, first := true, til := addI (sDel s) (sFli s), sav := if m.win > m.sav then m.win else m.sav }).mss, .int .i64 ({ m with rec' := true, first := true, til := addI (sDel s) (sFli s), sav := if m.win > m.sav then m.win else m.sav }).mode, .int .u64 ({ m with rec' := true, first := true, til := addI (sDel s) (sFli s), sav := if m.win > m.sav then m.win else m.sav }).rate, .int .u64 ({ m with rec' := true, first := true, til := addI (sDel s) (sFli s), sav := if m.win > m.sav then m.win else m.sav }).win, .int .u64 ({ m with rec' := true, first := true, til := addI (sDel s) (sFli s), sav := if m.win > m.sav then m.win else m.sav }).sav, .bool ({ m with rec' := true, first := true, til := addI (sDel s) (sFli s), sav := if m.win > m.sav then m.win else m.sav }).rec', .bool ({ m with rec' := true, first := true, til := addI (sDel s) (sFli s), sav := if m.win > m.sav then m.win else m.sav }).first, .int .u64 ({ m with rec' := true, first := true, til := addI (sDel s) (sFli s), sav := if m.win > m.sav then m.win else m.sav }).til] rfl rfl rfl fun w h => ?_
        exact h.fin
      have c : ¬ (sLost s > 0 ∧ m.rec' = false) := by simpa using c
      refine w_deref (w_ld h rfl ?_)
      refine w_ite (fun c2 => ?_) fun c2 => ?_
      · have c2 : m.rec' = true := c2
        have e : mRecover m s o = if sDel s < m.til then { m with first := m.first && !o } else mOver { m with first := m.first && !o } := by unfold mRecover; rw [if_neg c, if_pos c2]
        rw [e]
        refine w_deref (w_ld h rfl (w_deref ?_))
        refine w_setTo h b [.ptr (some ⟨n1, 0⟩), .ptr (some ⟨n2, 0⟩), .ptr (some ⟨n3, 0⟩), .ptr (some ⟨n4, 0⟩), .ptr (some ⟨n5, 0⟩), .ptr (some ⟨n6, 0⟩), .int .u64 ({ m with first := m.first && !o }).mss, .int .i64 ({ m with first := m.first && !o }).mode, .int .u64 ({ m with first := m.first && !o }).rate, .int .u64 ({ m with first := m.first && !o }).win, .int .u64 ({ m with first := m.first && !o }).sav, .bool ({ m with first := m.first && !o }).rec', .bool ({ m with first := m.first && !o }).first, .int .u64 ({ m with first := m.first && !o }).til] rfl rfl rfl fun w h => ?_
        refine w_drw h fun w h => w_ld h rfl (w_deref (w_ld h rfl ?_))
        refine w_ite (fun c3 => ?_) fun c3 => ?_
        · have c3 : sDel s < m.til := by simpa using c3
          rw [if_pos c3]
          exact h.fin
        have c3 : ¬ sDel s < m.til := by simpa using c3
        rw [if_neg c3]
        have h : Own w0 S R w ((blk b [.ptr (some ⟨n1, 0⟩), .ptr (some ⟨n2, 0⟩), .ptr (some ⟨n3, 0⟩), .ptr (some ⟨n4, 0⟩), .ptr (some ⟨n5, 0⟩), .ptr (some ⟨n6, 0⟩), .int .u64 ({ m with first := m.first && !o }).mss, .int .i64 ({ m with first := m.first && !o }).mode, .int .u64 ({ m with first := m.first && !o }).rate, .int .u64 ({ m with first := m.first && !o }).win, .int .u64 ({ m with first := m.first && !o }).sav, .bool ({ m with first := m.first && !o }).rec', .bool ({ m with first := m.first && !o }).first, .int .u64 ({ m with first := m.first && !o }).til] ^ blk n1 [.int .u64 ({ m with first := m.first && !o }).w.w, .int .u64 ({ m with first := m.first && !o }).w.t0, .int .u64 ({ m with first := m.first && !o }).w.v0, .int .u64 ({ m with first := m.first && !o }).w.t1, .int .u64 ({ m with first := m.first && !o }).w.v1, .int .u64 ({ m with first := m.first && !o }).w.t2, .int .u64 ({ m with first := m.first && !o }).w.v2, .int .u64 ({ m with first := m.first && !o }).w.la] ^ blk n2 [.int .u64 ({ m with first := m.first && !o }).r.n, .int .u64 ({ m with first := m.first && !o }).r.nx] ^ blk n3 [.int .u64 ({ m with first := m.first && !o }).p.best, .int .i64 ({ m with first := m.first && !o }).p.n, .bool ({ m with first := m.first && !o }).p.full] ^ blk n4 [.int .i64 ({ m with first := m.first && !o }).c.ph, .int .u64 ({ m with first := m.first && !o }).c.at'] ^ blk n5 [.int .u64 ({ m with first := m.first && !o }).b.best, .int .u64 ({ m with first := m.first && !o }).b.at', .bool ({ m with first := m.first && !o }).b.on, .int .u64 ({ m with first := m.first && !o }).b.til, .bool ({ m with first := m.first && !o }).b.rd] ^ blk n6 [.bool ({ m with first := m.first && !o }).q.use, .bool ({ m with first := m.first && !o }).q.mea, .int .u64 ({ m with first := m.first && !o }).q.bw, .int .i64 ({ m with first := m.first && !o }).q.n, .int .u64 ({ m with first := m.first && !o }).q.lost, .int .u64 ({ m with first := m.first && !o }).q.t0, .int .u64 ({ m with first := m.first && !o }).q.d0, .int .u64 ({ m with first := m.first && !o }).q.l0]) ^ blk x (Ks.mk K_u8b s)) := h.fin
        generalize { m with first := m.first && !o } = u at *
        refine w_deref (w_setTo h b [.ptr (some ⟨n1, 0⟩), .ptr (some ⟨n2, 0⟩), .ptr (some ⟨n3, 0⟩), .ptr (some ⟨n4, 0⟩), .ptr (some ⟨n5, 0⟩), .ptr (some ⟨n6, 0⟩), .int .u64 ({ u with rec' := false }).mss, .int .i64 ({ u with rec' := false }).mode, .int .u64 ({ u with rec' := false }).rate, .int .u64 ({ u with rec' := false }).win, .int .u64 ({ u with rec' := false }).sav, .bool ({ u with rec' := false }).rec', .bool ({ u with rec' := false }).first, .int .u64 ({ u with rec' := false }).til] rfl rfl rfl fun w h => ?_)
        refine w_deref (w_setTo h b [.ptr (some ⟨n1, 0⟩), .ptr (some ⟨n2, 0⟩), .ptr (some ⟨n3, 0⟩), .ptr (some ⟨n4, 0⟩), .ptr (some ⟨n5, 0⟩), .ptr (some ⟨n6, 0⟩), .int .u64 ({ u with rec' := false, first := false }).mss, .int .i64 ({ u with rec' := false, first := false }).mode, .int .u64 ({ u with rec' := false, first := false }).rate, .int .u64 ({ u with rec' := false, first := false }).win, .int .u64 ({ u with rec' := false, first := false }).sav, .bool ({ u with rec' := false, first := false }).rec', .bool ({ u with rec' := false, first := false }).first, .int .u64 ({ u with rec' := false, first := false }).til] rfl rfl rfl fun w h => ?_)
        refine w_deref (w_ld h rfl ?_)
        refine w_ite (fun c4 => ?_) fun c4 => ?_
        · have c4 : u.mode ≠ 3 := by simpa using c4
          have e : mOver u = mBack { u with rec' := false, first := false } := by unfold mOver; rw [if_pos c4]
          rw [e]
          refine w_call (back_tri b n1 n2 n3 n4 n5 n6 { u with rec' := false, first := false }) h fun _ w h => ?_
          exact h.fin
        · have c4 : ¬ u.mode ≠ 3 := by simpa using c4
          have e : mOver u = { u with rec' := false, first := false } := by unfold mOver; rw [if_neg c4]
          rw [e]
          exact h.fin
      · have c2 : m.rec' = false := c2
        have e : mRecover m s o = m := by unfold mRecover; rw [if_neg c, if_neg (by rw [c2]; simp)]
        rw [e]
        exact h.fin
    · refine w_ld h rfl ?_
      refine w_ite (fun c => ?_) fun c => ?_
      · have c : sLost s > 0 := by simpa using c
        refine w_deref (w_ld h rfl ?_)
        exact ⟨by rw [Bool.eq_iff_iff]; simp [c], h⟩
      · have c : ¬ sLost s > 0 := by simpa using c
        exact ⟨by simp [c], h⟩
omit hs in
theorem pace_tri : Tri Try.prog N_bbr_Model_pace [.lf (.ptr (some ⟨b, 0⟩))] [] (blk b [.ptr (some ⟨n1, 0⟩), .ptr (some ⟨n2, 0⟩), .ptr (some ⟨n3, 0⟩), .ptr (some ⟨n4, 0⟩), .ptr (some ⟨n5, 0⟩), .ptr (some ⟨n6, 0⟩), .int .u64 m.mss, .int .i64 m.mode, .int .u64 m.rate, .int .u64 m.win, .int .u64 m.sav, .bool m.rec', .bool m.first, .int .u64 m.til] ^ blk n1 [.int .u64 m.w.w, .int .u64 m.w.t0, .int .u64 m.w.v0, .int .u64 m.w.t1, .int .u64 m.w.v1, .int .u64 m.w.t2, .int .u64 m.w.v2, .int .u64 m.w.la] ^ blk n2 [.int .u64 m.r.n, .int .u64 m.r.nx] ^ blk n3 [.int .u64 m.p.best, .int .i64 m.p.n, .bool m.p.full] ^ blk n4 [.int .i64 m.c.ph, .int .u64 m.c.at'] ^ blk n5 [.int .u64 m.b.best, .int .u64 m.b.at', .bool m.b.on, .int .u64 m.b.til, .bool m.b.rd] ^ blk n6 [.bool m.q.use, .bool m.q.mea, .int .u64 m.q.bw, .int .i64 m.q.n, .int .u64 m.q.lost, .int .u64 m.q.t0, .int .u64 m.q.d0, .int .u64 m.q.l0]) (fun _ => blk b [.ptr (some ⟨n1, 0⟩), .ptr (some ⟨n2, 0⟩), .ptr (some ⟨n3, 0⟩), .ptr (some ⟨n4, 0⟩), .ptr (some ⟨n5, 0⟩), .ptr (some ⟨n6, 0⟩), .int .u64 (mPace m).mss, .int .i64 (mPace m).mode, .int .u64 (mPace m).rate, .int .u64 (mPace m).win, .int .u64 (mPace m).sav, .bool (mPace m).rec', .bool (mPace m).first, .int .u64 (mPace m).til] ^ blk n1 [.int .u64 (mPace m).w.w, .int .u64 (mPace m).w.t0, .int .u64 (mPace m).w.v0, .int .u64 (mPace m).w.t1, .int .u64 (mPace m).w.v1, .int .u64 (mPace m).w.t2, .int .u64 (mPace m).w.v2, .int .u64 (mPace m).w.la] ^ blk n2 [.int .u64 (mPace m).r.n, .int .u64 (mPace m).r.nx] ^ blk n3 [.int .u64 (mPace m).p.best, .int .i64 (mPace m).p.n, .bool (mPace m).p.full] ^ blk n4 [.int .i64 (mPace m).c.ph, .int .u64 (mPace m).c.at'] ^ blk n5 [.int .u64 (mPace m).b.best, .int .u64 (mPace m).b.at', .bool (mPace m).b.on, .int .u64 (mPace m).b.til, .bool (mPace m).b.rd] ^ blk n6 [.bool (mPace m).q.use, .bool (mPace m).q.mea, .int .u64 (mPace m).q.bw, .int .i64 (mPace m).q.n, .int .u64 (mPace m).q.lost, .int .u64 (mPace m).q.t0, .int .u64 (mPace m).q.d0, .int .u64 (mPace m).q.l0]) :=
  tri_0 (call_bbr_Model_pace _) fun w0 S R h => by
    unfold W_bbr_Model_pace
    have h : Own w0 S R w0 ((blk b [.ptr (some ⟨n1, 0⟩), .ptr (some ⟨n2, 0⟩), .ptr (some ⟨n3, 0⟩), .ptr (some ⟨n4, 0⟩), .ptr (some ⟨n5, 0⟩), .ptr (some ⟨n6, 0⟩), .int .u64 m.mss, .int .i64 m.mode, .int .u64 m.rate, .int .u64 m.win, .int .u64 m.sav, .bool m.rec', .bool m.first, .int .u64 m.til] ^ blk n1 [.int .u64 m.w.w, .int .u64 m.w.t0, .int .u64 m.w.v0, .int .u64 m.w.t1, .int .u64 m.w.v1, .int .u64 m.w.t2, .int .u64 m.w.v2, .int .u64 m.w.la] ^ blk n2 [.int .u64 m.r.n, .int .u64 m.r.nx] ^ blk n3 [.int .u64 m.p.best, .int .i64 m.p.n, .bool m.p.full] ^ blk n4 [.int .i64 m.c.ph, .int .u64 m.c.at'] ^ blk n5 [.int .u64 m.b.best, .int .u64 m.b.at', .bool m.b.on, .int .u64 m.b.til, .bool m.b.rd] ^ blk n6 [.bool m.q.use, .bool m.q.mea, .int .u64 m.q.bw, .int .i64 m.q.n, .int .u64 m.q.lost, .int .u64 m.q.t0, .int .u64 m.q.d0, .int .u64 m.q.l0]) ^ emp) := h.le (star_emp _)
    repeat' (first
      | (refine w_drw h fun w h => ?_)
      | (refine w_deref ?_)
      | (refine w_ldAll h rfl ?_)
      | (refine w_ld h rfl ?_)
      | (refine w_chkAll h ?_)
      | (refine w_chk h rfl ?_)
      | (refine w_setAll h (by rfl) fun w h => ?_)
      | (refine w_new h fun n w h => ?_)
      | (refine w_leave h fun w h => ?_)
      | (refine w_set h rfl fun w h => ?_; dsimp only [upd, over] at h)
      | (refine w_call (bw_tri b n1 n2 n3 n4 n5 n6 m) h fun r w h => ?_; obtain ⟨hr, h⟩ := h.purP; (try dsimp only at hr h); try rw [hr]))
    refine w_ite (fun c => ?_) fun c => ?_
    · have c : mBw m = 0 := by simpa using c
      have e : mPace m = m := by unfold mPace; rw [if_pos c]
      rw [e]
      exact h.fin
    have c : ¬ mBw m = 0 := by simpa using c
    repeat' (first
      | (refine w_drw h fun w h => ?_)
      | (refine w_deref ?_)
      | (refine w_ldAll h rfl ?_)
      | (refine w_ld h rfl ?_)
      | (refine w_chkAll h ?_)
      | (refine w_chk h rfl ?_)
      | (refine w_setAll h (by rfl) fun w h => ?_)
      | (refine w_new h fun n w h => ?_)
      | (refine w_leave h fun w h => ?_)
      | (refine w_set h rfl fun w h => ?_; dsimp only [upd, over] at h)
      | (refine w_call (bw_tri b n1 n2 n3 n4 n5 n6 m) h fun r w h => ?_; obtain ⟨hr, h⟩ := h.purP; (try dsimp only at hr h); try rw [hr])
      | (refine w_call (gainm_tri b n1 n2 n3 n4 n5 n6 m) h fun r w h => ?_; obtain ⟨hr, h⟩ := h.purP; (try dsimp only at hr h); try rw [hr])
      | (refine w_call (rate_tri (mBw m) (mGain m) hm.bw (U_gain m)) h fun r w h => ?_; obtain ⟨hr, h⟩ := h.purP; (try dsimp only at hr h); try rw [hr]))
    have e : mPace m = if m.p.full = true ∨ mRt m > m.rate then { m with rate := mRt m } else m := by unfold mPace; rw [if_neg c]
    rw [e]
    have h : Own w0 S R _ (blk b [.ptr (some ⟨n1, 0⟩), .ptr (some ⟨n2, 0⟩), .ptr (some ⟨n3, 0⟩), .ptr (some ⟨n4, 0⟩), .ptr (some ⟨n5, 0⟩), .ptr (some ⟨n6, 0⟩), .int .u64 m.mss, .int .i64 m.mode, .int .u64 m.rate, .int .u64 m.win, .int .u64 m.sav, .bool m.rec', .bool m.first, .int .u64 m.til] ^ blk n1 [.int .u64 m.w.w, .int .u64 m.w.t0, .int .u64 m.w.v0, .int .u64 m.w.t1, .int .u64 m.w.v1, .int .u64 m.w.t2, .int .u64 m.w.v2, .int .u64 m.w.la] ^ blk n2 [.int .u64 m.r.n, .int .u64 m.r.nx] ^ blk n3 [.int .u64 m.p.best, .int .i64 m.p.n, .bool m.p.full] ^ blk n4 [.int .i64 m.c.ph, .int .u64 m.c.at'] ^ blk n5 [.int .u64 m.b.best, .int .u64 m.b.at', .bool m.b.on, .int .u64 m.b.til, .bool m.b.rd] ^ blk n6 [.bool m.q.use, .bool m.q.mea, .int .u64 m.q.bw, .int .i64 m.q.n, .int .u64 m.q.lost, .int .u64 m.q.t0, .int .u64 m.q.d0, .int .u64 m.q.l0]) := h.fin
    refine w_join h (fun _ => blk b [.ptr (some ⟨n1, 0⟩), .ptr (some ⟨n2, 0⟩), .ptr (some ⟨n3, 0⟩), .ptr (some ⟨n4, 0⟩), .ptr (some ⟨n5, 0⟩), .ptr (some ⟨n6, 0⟩), .int .u64 m.mss, .int .i64 m.mode, .int .u64 m.rate, .int .u64 m.win, .int .u64 m.sav, .bool m.rec', .bool m.first, .int .u64 m.til] ^ blk n1 [.int .u64 m.w.w, .int .u64 m.w.t0, .int .u64 m.w.v0, .int .u64 m.w.t1, .int .u64 m.w.v1, .int .u64 m.w.t2, .int .u64 m.w.v2, .int .u64 m.w.la] ^ blk n2 [.int .u64 m.r.n, .int .u64 m.r.nx] ^ blk n3 [.int .u64 m.p.best, .int .i64 m.p.n, .bool m.p.full] ^ blk n4 [.int .i64 m.c.ph, .int .u64 m.c.at'] ^ blk n5 [.int .u64 m.b.best, .int .u64 m.b.at', .bool m.b.on, .int .u64 m.b.til, .bool m.b.rd] ^ blk n6 [.bool m.q.use, .bool m.q.mea, .int .u64 m.q.bw, .int .i64 m.q.n, .int .u64 m.q.lost, .int .u64 m.q.t0, .int .u64 m.q.d0, .int .u64 m.q.l0]) (fun y : Bool => y = decide (m.p.full = true ∨ mRt m > m.rate)) (fun (y : Bool) w hy h => ?_) ?_
    · rw [hy]
      refine w_ite (fun c2 => ?_) fun c2 => ?_
      · have c2 : m.p.full = true ∨ mRt m > m.rate := by simpa using c2
        rw [if_pos c2]
        refine w_deref (w_setTo h b [.ptr (some ⟨n1, 0⟩), .ptr (some ⟨n2, 0⟩), .ptr (some ⟨n3, 0⟩), .ptr (some ⟨n4, 0⟩), .ptr (some ⟨n5, 0⟩), .ptr (some ⟨n6, 0⟩), .int .u64 ({ m with rate := mRt m }).mss, .int .i64 ({ m with rate := mRt m }).mode, .int .u64 ({ m with rate := mRt m }).rate, .int .u64 ({ m with rate := mRt m }).win, .int .u64 ({ m with rate := mRt m }).sav, .bool ({ m with rate := mRt m }).rec', .bool ({ m with rate := mRt m }).first, .int .u64 ({ m with rate := mRt m }).til] rfl rfl rfl fun w h => ?_)
        exact h.fin
      · have c2 : ¬ (m.p.full = true ∨ mRt m > m.rate) := by simpa using c2
        rw [if_neg c2]
        exact h.fin
    · repeat' (first
        | (refine w_drw h fun w h => ?_)
        | (refine w_deref ?_)
        | (refine w_ldAll h rfl ?_)
        | (refine w_ld h rfl ?_)
        | (refine w_chkAll h ?_)
        | (refine w_chk h rfl ?_)
        | (refine w_setAll h (by rfl) fun w h => ?_)
        | (refine w_new h fun n w h => ?_)
        | (refine w_leave h fun w h => ?_)
        | (refine w_set h rfl fun w h => ?_; dsimp only [upd, over] at h)
        | (refine w_call (full_tri n3 m.p) h fun r w h => ?_; obtain ⟨hr, h⟩ := h.purP; (try dsimp only at hr h); try rw [hr]))
      refine w_ite (fun c2 => ?_) fun c2 => ?_
      · have c2 : m.p.full = true := c2
        exact ⟨by simp [c2], h.fin⟩
      · have c2 : m.p.full = false := c2
        repeat' (first
          | (refine w_drw h fun w h => ?_)
          | (refine w_deref ?_)
          | (refine w_ldAll h rfl ?_)
          | (refine w_ld h rfl ?_)
          | (refine w_chkAll h ?_)
          | (refine w_chk h rfl ?_)
          | (refine w_setAll h (by rfl) fun w h => ?_)
          | (refine w_new h fun n w h => ?_)
          | (refine w_leave h fun w h => ?_)
          | (refine w_set h rfl fun w h => ?_; dsimp only [upd, over] at h))
        exact ⟨by rw [Bool.eq_iff_iff]; simp [c2, mRt], h.fin⟩
end
end BbrO


end Go.X
