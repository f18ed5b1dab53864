/- Contracts and plain facts: BbrN SockA. -/
import Derived.Test.YtkideobegadadaaBArith
import Derived.Test.YtkideobegadadaaBDelays
import Derived.Test.YtkideobegadadaaBTarget
import Derived.Test.YtkideobegadadaaBBbrMm
import Derived.Test.YtkideobegadadaaBBbrQ
import Derived.Test.YtkideobegadadaaXw
import Derived.Test.YtkideobegadadaaK
import Derived.Test.YtkideobegadadaaF0
set_option linter.unusedVariables false
set_option linter.unusedSimpArgs false
set_option linter.unusedSectionVars false
namespace Go.X
open Go.Proofs
namespace BbrN
open Arith ArithC _root_.Go.X.Target BbrM BbrMm BbrP BbrQ
theorem new_tri (n : Int) : Tri Try.prog N_bbr_New [.lf (.int .u64 n)] [.lf .ptr] emp (fun r => ex fun x : Nat × Nat × Nat × Nat × Nat × Nat × Nat => match x with | (b, n1, n2, n3, n4, n5, n6) => pur (r = some ⟨b, 0⟩) (blk b [.ptr (some ⟨n1, 0⟩), .ptr (some ⟨n2, 0⟩), .ptr (some ⟨n3, 0⟩), .ptr (some ⟨n4, 0⟩), .ptr (some ⟨n5, 0⟩), .ptr (some ⟨n6, 0⟩), .int .u64 (mNew n).mss, .int .i64 (mNew n).mode, .int .u64 (mNew n).rate, .int .u64 (mNew n).win, .int .u64 (mNew n).sav, .bool (mNew n).rec', .bool (mNew n).first, .int .u64 (mNew n).til] ^ blk n1 [.int .u64 (mNew n).w.w, .int .u64 (mNew n).w.t0, .int .u64 (mNew n).w.v0, .int .u64 (mNew n).w.t1, .int .u64 (mNew n).w.v1, .int .u64 (mNew n).w.t2, .int .u64 (mNew n).w.v2, .int .u64 (mNew n).w.la] ^ blk n2 [.int .u64 (mNew n).r.n, .int .u64 (mNew n).r.nx] ^ blk n3 [.int .u64 (mNew n).p.best, .int .i64 (mNew n).p.n, .bool (mNew n).p.full] ^ blk n4 [.int .i64 (mNew n).c.ph, .int .u64 (mNew n).c.at'] ^ blk n5 [.int .u64 (mNew n).b.best, .int .u64 (mNew n).b.at', .bool (mNew n).b.on, .int .u64 (mNew n).b.til, .bool (mNew n).b.rd] ^ blk n6 [.bool (mNew n).q.use, .bool (mNew n).q.mea, .int .u64 (mNew n).q.bw, .int .i64 (mNew n).q.n, .int .u64 (mNew n).q.lost, .int .u64 (mNew n).q.t0, .int .u64 (mNew n).q.d0, .int .u64 (mNew n).q.l0])) :=
  tri_0 (call_bbr_New _) fun w0 S R h => by
    unfold W_bbr_New
    refine w_call (wnew_tri 10) h fun r w h => ?_
    obtain ⟨n1, h⟩ := h.exP; obtain ⟨hr, h⟩ := h.purP; rw [hr]
    refine w_call rnew_tri h fun r w h => ?_
    obtain ⟨n2, h⟩ := h.exP; obtain ⟨hr, h⟩ := h.purP; rw [hr]
    refine w_call pnew_tri h fun r w h => ?_
    obtain ⟨n3, h⟩ := h.exP; obtain ⟨hr, h⟩ := h.purP; rw [hr]
    refine w_call cnew_tri h fun r w h => ?_
    obtain ⟨n4, h⟩ := h.exP; obtain ⟨hr, h⟩ := h.purP; rw [hr]
    refine w_call bnew_tri h fun r w h => ?_
    obtain ⟨n5, h⟩ := h.exP; obtain ⟨hr, h⟩ := h.purP; rw [hr]
    refine w_call lnew_tri h fun r w h => ?_
    obtain ⟨n6, h⟩ := h.exP; obtain ⟨hr, h⟩ := h.purP; rw [hr]
    have hm := mss_r n
    refine w_new h fun b w h => ?_
    change Own w0 S R w (blk b [.ptr (some ⟨n1, 0⟩), .ptr (some ⟨n2, 0⟩), .ptr (some ⟨n3, 0⟩), .ptr (some ⟨n4, 0⟩), .ptr (some ⟨n5, 0⟩), .ptr (some ⟨n6, 0⟩), .int .u64 (mMss n), .int .i64 0, .int .u64 0, .int .u64 0, .int .u64 0, .bool false, .bool false, .int .u64 0] ^ _) at h
    change deref _ (fun q8 => st _ [.int .u64 (IntKind.u64.wrap (10 * mMss n))] _) w
    rw [wu (n := 10 * mMss n) (by omega) (by omega)]
    refine w_deref (w_setTo h b [.ptr (some ⟨n1, 0⟩), .ptr (some ⟨n2, 0⟩), .ptr (some ⟨n3, 0⟩), .ptr (some ⟨n4, 0⟩), .ptr (some ⟨n5, 0⟩), .ptr (some ⟨n6, 0⟩), .int .u64 (mMss n), .int .i64 0, .int .u64 0, .int .u64 (10 * mMss n), .int .u64 0, .bool false, .bool false, .int .u64 0] rfl rfl rfl fun w h => ?_)
    refine w_deref (w_ld h rfl ?_)
    rw [wu (n := 10 * mMss n * 1000) (by omega) (by omega)]
    refine w_call (rate_tri (10 * mMss n * 1000) 739 ⟨by omega, by omega⟩ (U_lit _)) h fun r w h => ?_
    obtain ⟨hr, h⟩ := h.purP; rw [hr]
    refine w_deref (w_setTo h b [.ptr (some ⟨n1, 0⟩), .ptr (some ⟨n2, 0⟩), .ptr (some ⟨n3, 0⟩), .ptr (some ⟨n4, 0⟩), .ptr (some ⟨n5, 0⟩), .ptr (some ⟨n6, 0⟩), .int .u64 (mNew n).mss, .int .i64 (mNew n).mode, .int .u64 (mNew n).rate, .int .u64 (mNew n).win, .int .u64 (mNew n).sav, .bool (mNew n).rec', .bool (mNew n).first, .int .u64 (mNew n).til] rfl rfl rfl fun w h => ?_)
    exact Own.retE (b, n1, n2, n3, n4, n5, n6) (Own.retP rfl h.fin)
section
variable (b n1 n2 n3 n4 n5 n6 : Nat) (m : Md)
theorem bw_tri : Tri Try.prog N_bbr_Model_bw [.lf (.ptr (some ⟨b, 0⟩))] [.lf (.int .u64)] (blk b [.ptr (some ⟨n1, 0⟩), .ptr (some ⟨n2, 0⟩), .ptr (some ⟨n3, 0⟩), .ptr (some ⟨n4, 0⟩), .ptr (some ⟨n5, 0⟩), .ptr (some ⟨n6, 0⟩), .int .u64 m.mss, .int .i64 m.mode, .int .u64 m.rate, .int .u64 m.win, .int .u64 m.sav, .bool m.rec', .bool m.first, .int .u64 m.til] ^ blk n1 [.int .u64 m.w.w, .int .u64 m.w.t0, .int .u64 m.w.v0, .int .u64 m.w.t1, .int .u64 m.w.v1, .int .u64 m.w.t2, .int .u64 m.w.v2, .int .u64 m.w.la] ^ blk n2 [.int .u64 m.r.n, .int .u64 m.r.nx] ^ blk n3 [.int .u64 m.p.best, .int .i64 m.p.n, .bool m.p.full] ^ blk n4 [.int .i64 m.c.ph, .int .u64 m.c.at'] ^ blk n5 [.int .u64 m.b.best, .int .u64 m.b.at', .bool m.b.on, .int .u64 m.b.til, .bool m.b.rd] ^ blk n6 [.bool m.q.use, .bool m.q.mea, .int .u64 m.q.bw, .int .i64 m.q.n, .int .u64 m.q.lost, .int .u64 m.q.t0, .int .u64 m.q.d0, .int .u64 m.q.l0]) (fun r => pur (r = mBw m) (blk b [.ptr (some ⟨n1, 0⟩), .ptr (some ⟨n2, 0⟩), .ptr (some ⟨n3, 0⟩), .ptr (some ⟨n4, 0⟩), .ptr (some ⟨n5, 0⟩), .ptr (some ⟨n6, 0⟩), .int .u64 m.mss, .int .i64 m.mode, .int .u64 m.rate, .int .u64 m.win, .int .u64 m.sav, .bool m.rec', .bool m.first, .int .u64 m.til] ^ blk n1 [.int .u64 m.w.w, .int .u64 m.w.t0, .int .u64 m.w.v0, .int .u64 m.w.t1, .int .u64 m.w.v1, .int .u64 m.w.t2, .int .u64 m.w.v2, .int .u64 m.w.la] ^ blk n2 [.int .u64 m.r.n, .int .u64 m.r.nx] ^ blk n3 [.int .u64 m.p.best, .int .i64 m.p.n, .bool m.p.full] ^ blk n4 [.int .i64 m.c.ph, .int .u64 m.c.at'] ^ blk n5 [.int .u64 m.b.best, .int .u64 m.b.at', .bool m.b.on, .int .u64 m.b.til, .bool m.b.rd] ^ blk n6 [.bool m.q.use, .bool m.q.mea, .int .u64 m.q.bw, .int .i64 m.q.n, .int .u64 m.q.lost, .int .u64 m.q.t0, .int .u64 m.q.d0, .int .u64 m.q.l0])) :=
  tri_0 (call_bbr_Model_bw _) fun w0 S R h => by
    unfold W_bbr_Model_bw
    repeat' (first
      | (refine w_drw h fun w h => ?_)
      | (refine w_deref ?_)
      | (refine w_ldAll h rfl ?_)
      | (refine w_ld h rfl ?_)
      | (refine w_chkAll h ?_)
      | (refine w_chk h rfl ?_)
      | (refine w_setAll h (by rfl) fun w h => ?_)
      | (refine w_new h fun n w h => ?_)
      | (refine w_leave h fun w h => ?_)
      | (refine w_set h rfl fun w h => ?_; dsimp only [upd, over] at h)
      | (refine w_call (luse_tri n6 m.q) h fun r w h => ?_; obtain ⟨hr, h⟩ := h.purP; (try dsimp only at hr h); try rw [hr]))
    refine w_ite (fun c => ?_) fun c => ?_
    · have c : m.q.use = true := c
      exact Own.retP (by unfold mBw; rw [c]; rfl) h.fin
    · have c : m.q.use = false := c
      repeat' (first
        | (refine w_drw h fun w h => ?_)
        | (refine w_deref ?_)
        | (refine w_ldAll h rfl ?_)
        | (refine w_ld h rfl ?_)
        | (refine w_chkAll h ?_)
        | (refine w_chk h rfl ?_)
        | (refine w_setAll h (by rfl) fun w h => ?_)
        | (refine w_new h fun n w h => ?_)
        | (refine w_leave h fun w h => ?_)
        | (refine w_set h rfl fun w h => ?_; dsimp only [upd, over] at h)
        | (refine w_call (best_tri n1 m.w) h fun r w h => ?_; obtain ⟨hr, h⟩ := h.purP; (try dsimp only at hr h); try rw [hr]))
      exact Own.retP (by unfold mBw; rw [c]; rfl) h.fin
theorem pol_tri : Tri Try.prog N_bbr_Model_policed [.lf (.ptr (some ⟨b, 0⟩))] [.lf .bool] (blk b [.ptr (some ⟨n1, 0⟩), .ptr (some ⟨n2, 0⟩), .ptr (some ⟨n3, 0⟩), .ptr (some ⟨n4, 0⟩), .ptr (some ⟨n5, 0⟩), .ptr (some ⟨n6, 0⟩), .int .u64 m.mss, .int .i64 m.mode, .int .u64 m.rate, .int .u64 m.win, .int .u64 m.sav, .bool m.rec', .bool m.first, .int .u64 m.til] ^ blk n1 [.int .u64 m.w.w, .int .u64 m.w.t0, .int .u64 m.w.v0, .int .u64 m.w.t1, .int .u64 m.w.v1, .int .u64 m.w.t2, .int .u64 m.w.v2, .int .u64 m.w.la] ^ blk n2 [.int .u64 m.r.n, .int .u64 m.r.nx] ^ blk n3 [.int .u64 m.p.best, .int .i64 m.p.n, .bool m.p.full] ^ blk n4 [.int .i64 m.c.ph, .int .u64 m.c.at'] ^ blk n5 [.int .u64 m.b.best, .int .u64 m.b.at', .bool m.b.on, .int .u64 m.b.til, .bool m.b.rd] ^ blk n6 [.bool m.q.use, .bool m.q.mea, .int .u64 m.q.bw, .int .i64 m.q.n, .int .u64 m.q.lost, .int .u64 m.q.t0, .int .u64 m.q.d0, .int .u64 m.q.l0]) (fun r => pur (r = m.q.use) (blk b [.ptr (some ⟨n1, 0⟩), .ptr (some ⟨n2, 0⟩), .ptr (some ⟨n3, 0⟩), .ptr (some ⟨n4, 0⟩), .ptr (some ⟨n5, 0⟩), .ptr (some ⟨n6, 0⟩), .int .u64 m.mss, .int .i64 m.mode, .int .u64 m.rate, .int .u64 m.win, .int .u64 m.sav, .bool m.rec', .bool m.first, .int .u64 m.til] ^ blk n1 [.int .u64 m.w.w, .int .u64 m.w.t0, .int .u64 m.w.v0, .int .u64 m.w.t1, .int .u64 m.w.v1, .int .u64 m.w.t2, .int .u64 m.w.v2, .int .u64 m.w.la] ^ blk n2 [.int .u64 m.r.n, .int .u64 m.r.nx] ^ blk n3 [.int .u64 m.p.best, .int .i64 m.p.n, .bool m.p.full] ^ blk n4 [.int .i64 m.c.ph, .int .u64 m.c.at'] ^ blk n5 [.int .u64 m.b.best, .int .u64 m.b.at', .bool m.b.on, .int .u64 m.b.til, .bool m.b.rd] ^ blk n6 [.bool m.q.use, .bool m.q.mea, .int .u64 m.q.bw, .int .i64 m.q.n, .int .u64 m.q.lost, .int .u64 m.q.t0, .int .u64 m.q.d0, .int .u64 m.q.l0])) :=
  tri_0 (call_bbr_Model_policed _) fun w0 S R h => by
    unfold W_bbr_Model_policed
    repeat' (first
      | (refine w_drw h fun w h => ?_)
      | (refine w_deref ?_)
      | (refine w_ldAll h rfl ?_)
      | (refine w_ld h rfl ?_)
      | (refine w_chkAll h ?_)
      | (refine w_chk h rfl ?_)
      | (refine w_setAll h (by rfl) fun w h => ?_)
      | (refine w_new h fun n w h => ?_)
      | (refine w_leave h fun w h => ?_)
      | (refine w_set h rfl fun w h => ?_; dsimp only [upd, over] at h)
      | (refine w_call (luse_tri n6 m.q) h fun r w h => ?_; obtain ⟨hr, h⟩ := h.purP; (try dsimp only at hr h); try rw [hr]))
    exact Own.retP rfl h.fin
theorem gainm_tri : Tri Try.prog N_bbr_Model_gain [.lf (.ptr (some ⟨b, 0⟩))] [.lf (.int .u64)] (blk b [.ptr (some ⟨n1, 0⟩), .ptr (some ⟨n2, 0⟩), .ptr (some ⟨n3, 0⟩), .ptr (some ⟨n4, 0⟩), .ptr (some ⟨n5, 0⟩), .ptr (some ⟨n6, 0⟩), .int .u64 m.mss, .int .i64 m.mode, .int .u64 m.rate, .int .u64 m.win, .int .u64 m.sav, .bool m.rec', .bool m.first, .int .u64 m.til] ^ blk n1 [.int .u64 m.w.w, .int .u64 m.w.t0, .int .u64 m.w.v0, .int .u64 m.w.t1, .int .u64 m.w.v1, .int .u64 m.w.t2, .int .u64 m.w.v2, .int .u64 m.w.la] ^ blk n2 [.int .u64 m.r.n, .int .u64 m.r.nx] ^ blk n3 [.int .u64 m.p.best, .int .i64 m.p.n, .bool m.p.full] ^ blk n4 [.int .i64 m.c.ph, .int .u64 m.c.at'] ^ blk n5 [.int .u64 m.b.best, .int .u64 m.b.at', .bool m.b.on, .int .u64 m.b.til, .bool m.b.rd] ^ blk n6 [.bool m.q.use, .bool m.q.mea, .int .u64 m.q.bw, .int .i64 m.q.n, .int .u64 m.q.lost, .int .u64 m.q.t0, .int .u64 m.q.d0, .int .u64 m.q.l0]) (fun r => pur (r = mGain m) (blk b [.ptr (some ⟨n1, 0⟩), .ptr (some ⟨n2, 0⟩), .ptr (some ⟨n3, 0⟩), .ptr (some ⟨n4, 0⟩), .ptr (some ⟨n5, 0⟩), .ptr (some ⟨n6, 0⟩), .int .u64 m.mss, .int .i64 m.mode, .int .u64 m.rate, .int .u64 m.win, .int .u64 m.sav, .bool m.rec', .bool m.first, .int .u64 m.til] ^ blk n1 [.int .u64 m.w.w, .int .u64 m.w.t0, .int .u64 m.w.v0, .int .u64 m.w.t1, .int .u64 m.w.v1, .int .u64 m.w.t2, .int .u64 m.w.v2, .int .u64 m.w.la] ^ blk n2 [.int .u64 m.r.n, .int .u64 m.r.nx] ^ blk n3 [.int .u64 m.p.best, .int .i64 m.p.n, .bool m.p.full] ^ blk n4 [.int .i64 m.c.ph, .int .u64 m.c.at'] ^ blk n5 [.int .u64 m.b.best, .int .u64 m.b.at', .bool m.b.on, .int .u64 m.b.til, .bool m.b.rd] ^ blk n6 [.bool m.q.use, .bool m.q.mea, .int .u64 m.q.bw, .int .i64 m.q.n, .int .u64 m.q.lost, .int .u64 m.q.t0, .int .u64 m.q.d0, .int .u64 m.q.l0])) :=
  tri_0 (call_bbr_Model_gain _) fun w0 S R h => by
    unfold W_bbr_Model_gain
    repeat' (first
      | (refine w_drw h fun w h => ?_)
      | (refine w_deref ?_)
      | (refine w_ldAll h rfl ?_)
      | (refine w_ld h rfl ?_)
      | (refine w_chkAll h ?_)
      | (refine w_chk h rfl ?_)
      | (refine w_setAll h (by rfl) fun w h => ?_)
      | (refine w_new h fun n w h => ?_)
      | (refine w_leave h fun w h => ?_)
      | (refine w_set h rfl fun w h => ?_; dsimp only [upd, over] at h))
    refine w_ite (fun c => ?_) fun c => ?_
    · exact Own.retP (by unfold mGain; rw [if_pos (by simpa using c)]) h.fin
    repeat' (first
      | (refine w_drw h fun w h => ?_)
      | (refine w_deref ?_)
      | (refine w_ldAll h rfl ?_)
      | (refine w_ld h rfl ?_)
      | (refine w_chkAll h ?_)
      | (refine w_chk h rfl ?_)
      | (refine w_setAll h (by rfl) fun w h => ?_)
      | (refine w_new h fun n w h => ?_)
      | (refine w_leave h fun w h => ?_)
      | (refine w_set h rfl fun w h => ?_; dsimp only [upd, over] at h))
    refine w_ite (fun c2 => ?_) fun c2 => ?_
    · exact Own.retP (by unfold mGain; rw [if_neg (by simpa using c), if_pos (by simpa using c2)]) h.fin
    have e : mGain m = if m.mode = 2 ∧ m.q.use = false then cG m.c else 256 := by unfold mGain; rw [if_neg (by simpa using c), if_neg (by simpa using c2)]
    rw [e]
    refine w_join h (fun _ => blk b [.ptr (some ⟨n1, 0⟩), .ptr (some ⟨n2, 0⟩), .ptr (some ⟨n3, 0⟩), .ptr (some ⟨n4, 0⟩), .ptr (some ⟨n5, 0⟩), .ptr (some ⟨n6, 0⟩), .int .u64 m.mss, .int .i64 m.mode, .int .u64 m.rate, .int .u64 m.win, .int .u64 m.sav, .bool m.rec', .bool m.first, .int .u64 m.til] ^ blk n1 [.int .u64 m.w.w, .int .u64 m.w.t0, .int .u64 m.w.v0, .int .u64 m.w.t1, .int .u64 m.w.v1, .int .u64 m.w.t2, .int .u64 m.w.v2, .int .u64 m.w.la] ^ blk n2 [.int .u64 m.r.n, .int .u64 m.r.nx] ^ blk n3 [.int .u64 m.p.best, .int .i64 m.p.n, .bool m.p.full] ^ blk n4 [.int .i64 m.c.ph, .int .u64 m.c.at'] ^ blk n5 [.int .u64 m.b.best, .int .u64 m.b.at', .bool m.b.on, .int .u64 m.b.til, .bool m.b.rd] ^ blk n6 [.bool m.q.use, .bool m.q.mea, .int .u64 m.q.bw, .int .i64 m.q.n, .int .u64 m.q.lost, .int .u64 m.q.t0, .int .u64 m.q.d0, .int .u64 m.q.l0]) (fun y : Bool => y = decide (m.mode = 2 ∧ m.q.use = false)) (fun (y : Bool) w hy h => ?_) ?_
    · rw [hy]
      refine w_ite (fun c3 => ?_) fun c3 => ?_
      · have c3 : m.mode = 2 ∧ m.q.use = false := by simpa using c3
        rw [if_pos c3]
        repeat' (first
          | (refine w_drw h fun w h => ?_)
          | (refine w_deref ?_)
          | (refine w_ldAll h rfl ?_)
          | (refine w_ld h rfl ?_)
          | (refine w_chkAll h ?_)
          | (refine w_chk h rfl ?_)
          | (refine w_setAll h (by rfl) fun w h => ?_)
          | (refine w_new h fun n w h => ?_)
          | (refine w_leave h fun w h => ?_)
          | (refine w_set h rfl fun w h => ?_; dsimp only [upd, over] at h)
          | (refine w_call (gain_tri n4 m.c) h fun r w h => ?_; obtain ⟨hr, h⟩ := h.purP; (try dsimp only at hr h); try rw [hr]))
        exact Own.retP rfl h.fin
      · have c3 : ¬ (m.mode = 2 ∧ m.q.use = false) := by simpa using c3
        rw [if_neg c3]
        exact Own.retP rfl h.fin
    · repeat' (first
        | (refine w_drw h fun w h => ?_)
        | (refine w_deref ?_)
        | (refine w_ldAll h rfl ?_)
        | (refine w_ld h rfl ?_)
        | (refine w_chkAll h ?_)
        | (refine w_chk h rfl ?_)
        | (refine w_setAll h (by rfl) fun w h => ?_)
        | (refine w_new h fun n w h => ?_)
        | (refine w_leave h fun w h => ?_)
        | (refine w_set h rfl fun w h => ?_; dsimp only [upd, over] at h))
      refine w_ite (fun c3 => ?_) fun c3 => ?_
      · have c3 : m.mode = 2 := by simpa using c3
        repeat' (first
          | (refine w_drw h fun w h => ?_)
          | (refine w_deref ?_)
          | (refine w_ldAll h rfl ?_)
          | (refine w_ld h rfl ?_)
          | (refine w_chkAll h ?_)
          | (refine w_chk h rfl ?_)
          | (refine w_setAll h (by rfl) fun w h => ?_)
          | (refine w_new h fun n w h => ?_)
          | (refine w_leave h fun w h => ?_)
          | (refine w_set h rfl fun w h => ?_; dsimp only [upd, over] at h)
          | (refine w_call (pol_tri b n1 n2 n3 n4 n5 n6 m) h fun r w h => ?_; obtain ⟨hr, h⟩ := h.purP; (try dsimp only at hr h); try rw [hr]))
        exact ⟨by rw [Bool.eq_iff_iff]; simp [c3], h.fin⟩
      · have c3 : ¬ m.mode = 2 := by simpa using c3
        exact ⟨by simp [c3], h.fin⟩
theorem state_tri : Tri Try.prog N_bbr_Model_State [.lf (.ptr (some ⟨b, 0⟩))] [.agg K_i2u6b2] (blk b [.ptr (some ⟨n1, 0⟩), .ptr (some ⟨n2, 0⟩), .ptr (some ⟨n3, 0⟩), .ptr (some ⟨n4, 0⟩), .ptr (some ⟨n5, 0⟩), .ptr (some ⟨n6, 0⟩), .int .u64 m.mss, .int .i64 m.mode, .int .u64 m.rate, .int .u64 m.win, .int .u64 m.sav, .bool m.rec', .bool m.first, .int .u64 m.til] ^ blk n1 [.int .u64 m.w.w, .int .u64 m.w.t0, .int .u64 m.w.v0, .int .u64 m.w.t1, .int .u64 m.w.v1, .int .u64 m.w.t2, .int .u64 m.w.v2, .int .u64 m.w.la] ^ blk n2 [.int .u64 m.r.n, .int .u64 m.r.nx] ^ blk n3 [.int .u64 m.p.best, .int .i64 m.p.n, .bool m.p.full] ^ blk n4 [.int .i64 m.c.ph, .int .u64 m.c.at'] ^ blk n5 [.int .u64 m.b.best, .int .u64 m.b.at', .bool m.b.on, .int .u64 m.b.til, .bool m.b.rd] ^ blk n6 [.bool m.q.use, .bool m.q.mea, .int .u64 m.q.bw, .int .i64 m.q.n, .int .u64 m.q.lost, .int .u64 m.q.t0, .int .u64 m.q.d0, .int .u64 m.q.l0]) (fun r => pur (r = mSt m) (blk b [.ptr (some ⟨n1, 0⟩), .ptr (some ⟨n2, 0⟩), .ptr (some ⟨n3, 0⟩), .ptr (some ⟨n4, 0⟩), .ptr (some ⟨n5, 0⟩), .ptr (some ⟨n6, 0⟩), .int .u64 m.mss, .int .i64 m.mode, .int .u64 m.rate, .int .u64 m.win, .int .u64 m.sav, .bool m.rec', .bool m.first, .int .u64 m.til] ^ blk n1 [.int .u64 m.w.w, .int .u64 m.w.t0, .int .u64 m.w.v0, .int .u64 m.w.t1, .int .u64 m.w.v1, .int .u64 m.w.t2, .int .u64 m.w.v2, .int .u64 m.w.la] ^ blk n2 [.int .u64 m.r.n, .int .u64 m.r.nx] ^ blk n3 [.int .u64 m.p.best, .int .i64 m.p.n, .bool m.p.full] ^ blk n4 [.int .i64 m.c.ph, .int .u64 m.c.at'] ^ blk n5 [.int .u64 m.b.best, .int .u64 m.b.at', .bool m.b.on, .int .u64 m.b.til, .bool m.b.rd] ^ blk n6 [.bool m.q.use, .bool m.q.mea, .int .u64 m.q.bw, .int .i64 m.q.n, .int .u64 m.q.lost, .int .u64 m.q.t0, .int .u64 m.q.d0, .int .u64 m.q.l0])) :=
  tri_0 (call_bbr_Model_State _) fun w0 S R h => by
    unfold W_bbr_Model_State
    refine w_new h fun x w h => ?_
    refine w_ite (fun c => (by cases c)) fun _ => ?_
    repeat' (first
      | (refine w_drw h fun w h => ?_)
      | (refine w_deref ?_)
      | (refine w_ldAll h rfl ?_)
      | (refine w_ld h rfl ?_)
      | (refine w_chkAll h ?_)
      | (refine w_chk h rfl ?_)
      | (refine w_setAll h (by rfl) fun w h => ?_)
      | (refine w_new h fun n w h => ?_)
      | (refine w_leave h fun w h => ?_)
      | (refine w_set h rfl fun w h => ?_; dsimp only [upd, over] at h)
      | (refine w_call (bw_tri b n1 n2 n3 n4 n5 n6 m) h fun r w h => ?_; obtain ⟨hr, h⟩ := h.purP; (try dsimp only at hr h); try rw [hr])
      | (refine w_call (bbest_tri n5 m.b) h fun r w h => ?_; obtain ⟨hr, h⟩ := h.purP; (try dsimp only at hr h); try rw [hr])
      | (refine w_call (gainm_tri b n1 n2 n3 n4 n5 n6 m) h fun r w h => ?_; obtain ⟨hr, h⟩ := h.purP; (try dsimp only at hr h); try rw [hr])
      | (refine w_call (count_tri n2 m.r) h fun r w h => ?_; obtain ⟨hr, h⟩ := h.purP; (try dsimp only at hr h); try rw [hr])
      | (refine w_call (phase_tri n4 m.c) h fun r w h => ?_; obtain ⟨hr, h⟩ := h.purP; (try dsimp only at hr h); try rw [hr])
      | (refine w_call (full_tri n3 m.p) h fun r w h => ?_; obtain ⟨hr, h⟩ := h.purP; (try dsimp only at hr h); try rw [hr])
      | (refine w_call (pol_tri b n1 n2 n3 n4 n5 n6 m) h fun r w h => ?_; obtain ⟨hr, h⟩ := h.purP; (try dsimp only at hr h); try rw [hr]))
    exact Own.retP rfl h.fin
end
end BbrN

namespace SockA
open Arith ArithC
/-! ### The send buffer: written, next, unacknowledged, room -/
abbrev Bf := Int × Int × Int × Int
abbrev KBf : Ks := [.int .u64, .int .u64, .int .u64, .int .u64]
abbrev bW (b : Bf) : Int := b.1
abbrev bN (b : Bf) : Int := b.2.1
abbrev bU (b : Bf) : Int := b.2.2.1
abbrev bL (b : Bf) : Int := b.2.2.2
structure OkBf (b : Bf) : Prop where
  u : 0 ≤ bU b
  un : bU b ≤ bN b
  nw : bN b ≤ bW b
  l : bW b - bU b ≤ bL b
  ll : bL b ≤ 1073741824
  w : bW b ≤ 4611686018427387904
def wrF (b : Bf) (n : Int) : Int × Bf := if n < 1 then (1, b) else if n > bL b - (bW b - bU b) then (5, b) else (0, (bW b + n, bN b, bU b, bL b))
def tkF (b : Bf) (most : Int) : ((Int × Int) × Bool) × Bf := if most ≥ 1 ∧ bW b - bN b ≠ 0 then (((bN b, bN b + min (bW b - bN b) most), true), (bW b, bN b + min (bW b - bN b) most, bU b, bL b)) else (((0, 0), false), b)
def akF (b : Bf) (upto : Int) : Int × Bf := if upto > bN b then (11, b) else (0, (bW b, bN b, if upto > bU b then upto else bU b, bL b))
theorem OkBf.tk {b : Bf} (h : OkBf b) (most : Int) : OkBf (tkF b most).2 := by
  have h1 := h.u
  have h2 := h.un
  have h3 := h.nw
  unfold tkF
  split
  · exact ⟨h1, by show bU b ≤ bN b + min _ _; omega, by show bN b + min _ _ ≤ bW b; omega, h.l, h.ll, h.w⟩
  · exact h
theorem OkBf.ak {b : Bf} (h : OkBf b) (upto : Int) : OkBf (akF b upto).2 := by
  have h1 := h.u
  have h2 := h.un
  have h3 := h.nw
  have h4 := h.l
  unfold akF
  split
  · exact h
  · refine ⟨?_, ?_, h3, ?_, h.ll, h.w⟩
    · show 0 ≤ if upto > bU b then upto else bU b
      split <;> omega
    · show (if upto > bU b then upto else bU b) ≤ bN b
      split <;> omega
    · show bW b - (if upto > bU b then upto else bU b) ≤ bL b
      split <;> omega
theorem bnew_tri (n : Int) : Tri Try.prog N_buffer_New [.lf (.int .i64 n)] [.lf .ptr] emp (fun r => ex fun p : Nat => pur (r = some ⟨p, 0⟩) (blk p (Ks.mk KBf (0, 0, 0, IntKind.u64.wrap (if (1073741824:Int) < (if (0:Int) > n then (0:Int) else n) then (1073741824:Int) else (if (0:Int) > n then (0:Int) else n)))))) :=
  tri_0 (call_buffer_New n) fun w0 S R h => by
    unfold W_buffer_New
    refine w_new h fun p w h => ?_
    exact Own.retE p (Own.retP rfl h.keep)
theorem bunsent_tri (p : Nat) (b : Bf) (hb : OkBf b) : Tri Try.prog N_buffer_Buffer_Unsent [.lf (.ptr (some ⟨p, 0⟩))] [.lf (.int .u64)] (blk p (Ks.mk KBf b)) (fun r => pur (r = bW b - bN b) (blk p (Ks.mk KBf b))) :=
  tri_0 (call_buffer_Buffer_Unsent (some ⟨p, 0⟩)) fun w0 S R h => by
    unfold W_buffer_Buffer_Unsent
    have h2 := hb.un
    have h3 := hb.nw
    have h4 := hb.u
    have h5 := hb.w
    refine w_ite (fun c => (by simp at c)) fun _ => w_drw h fun w h => w_deref (w_deref (w_ld h rfl (w_ld h rfl ?_)))
    exact Own.retP (wu (n := bW b - bN b) (by omega) (by omega)) h
theorem bheld_tri (p : Nat) (b : Bf) (hb : OkBf b) : Tri Try.prog N_buffer_Buffer_Held [.lf (.ptr (some ⟨p, 0⟩))] [.lf (.int .u64)] (blk p (Ks.mk KBf b)) (fun r => pur (r = bW b - bU b) (blk p (Ks.mk KBf b))) :=
  tri_0 (call_buffer_Buffer_Held (some ⟨p, 0⟩)) fun w0 S R h => by
    unfold W_buffer_Buffer_Held
    have h2 := hb.un
    have h3 := hb.nw
    have h4 := hb.u
    have h5 := hb.w
    refine w_ite (fun c => (by simp at c)) fun _ => w_drw h fun w h => w_deref (w_deref (w_ld h rfl (w_ld h rfl ?_)))
    exact Own.retP (wu (n := bW b - bU b) (by omega) (by omega)) h
theorem bwrite_tri (p : Nat) (b : Bf) (hb : OkBf b) (n : Int) (hn : n < 9223372036854775808) : Tri Try.prog N_buffer_Buffer_Write [.lf (.ptr (some ⟨p, 0⟩)), .lf (.int .i64 n)] [.lf (.int .i64)] (blk p (Ks.mk KBf b)) (fun r => pur (r = (wrF b n).1) (blk p (Ks.mk KBf (wrF b n).2))) :=
  tri_0 (call_buffer_Buffer_Write (some ⟨p, 0⟩) n) fun w0 S R h => by
    unfold W_buffer_Buffer_Write
    have h1 := hb.un
    have h2 := hb.nw
    have h3 := hb.u
    have h4 := hb.l
    have h5 := hb.ll
    have h6 := hb.w
    refine w_ite (fun c => (by simp at c)) fun _ => w_ite (fun c => ?_) fun c => ?_
    · have c : n < 1 := of_decide_eq_true c
      have e : wrF b n = (1, b) := by unfold wrF; rw [if_pos c]
      rw [e]
      exact Own.retP rfl h
    have c : ¬ n < 1 := of_decide_eq_false c
    refine w_drw h fun w h => w_deref (w_ld h rfl (w_call (bheld_tri p b hb) h fun r w h => ?_))
    obtain ⟨hr, h⟩ := h.purP; rw [hr]
    refine w_chk h rfl (w_ite (fun c2 => ?_) fun c2 => ?_)
    · have c2 := of_decide_eq_true c2
      have c2 : IntKind.u64.wrap n > IntKind.u64.wrap (bL b - (bW b - bU b)) := c2
      rw [wu (n := n) (by omega) (by omega), wu (n := bL b - (bW b - bU b)) (by omega) (by omega)] at c2
      have e : wrF b n = (5, b) := by unfold wrF; rw [if_neg c, if_pos c2]
      rw [e]
      exact Own.retP rfl h.fin
    · have c2 := of_decide_eq_false c2
      have c2 : ¬ IntKind.u64.wrap n > IntKind.u64.wrap (bL b - (bW b - bU b)) := c2
      rw [wu (n := n) (by omega) (by omega), wu (n := bL b - (bW b - bU b)) (by omega) (by omega)] at c2
      have e : wrF b n = (0, (bW b + n, bN b, bU b, bL b)) := by unfold wrF; rw [if_neg c, if_neg c2]
      rw [e]
      have ew : IntKind.u64.wrap (bW b + IntKind.u64.wrap n) = bW b + n := by rw [wu (n := n) (by omega) (by omega)]; exact wu (by omega) (by omega)
      refine w_deref (w_ld h rfl (w_deref ?_))
      rw [show IntKind.u64.wrap (b.1 + IntKind.u64.wrap n) = bW b + n from ew]
      refine w_setTo h p (Ks.mk KBf (bW b + n, bN b, bU b, bL b)) rfl rfl rfl fun w h => ?_
      exact Own.retP rfl h.fin
theorem btake_tri (p : Nat) (b : Bf) (hb : OkBf b) (most : Int) (hm : most < 9223372036854775808) : Tri Try.prog N_buffer_Buffer_Take [.lf (.ptr (some ⟨p, 0⟩)), .lf (.int .i64 most)] [.agg [.int .u64, .int .u64], .lf .bool] (blk p (Ks.mk KBf b)) (fun r => pur (r = (tkF b most).1) (blk p (Ks.mk KBf (tkF b most).2))) :=
  tri_0 (call_buffer_Buffer_Take (some ⟨p, 0⟩) most) fun w0 S R h => by
    unfold W_buffer_Buffer_Take
    have h1 := hb.un
    have h2 := hb.nw
    have h3 := hb.u
    have h6 := hb.w
    refine w_new h fun n1 w h => w_new h fun n2 w h => w_setAll h (by rfl) fun w h => ?_
    refine w_join h (fun _ => blk n1 [.int .u64 0, .int .u64 0] ^ blk n2 [.int .u64 (tkF b most).1.1.1, .int .u64 (tkF b most).1.1.2] ^ blk p (Ks.mk KBf (tkF b most).2)) (fun y : Bool => y = (tkF b most).1.2) (fun (y : Bool) w hy h => ?_) ?_
    · refine w_ldAll (b := n2) (x := (tkF b most).1.1) h rfl (w_setAll h (by rfl) fun w h => w_ldAll (b := n1) (x := (tkF b most).1.1) h rfl ?_)
      refine Own.retP ?_ h.fin
      rw [hy]
    · have no : ∀ {w : World}, ¬ (most ≥ 1 ∧ bW b - bN b ≠ 0) → Own w0 S R w (blk n1 [.int .u64 0, .int .u64 0] ^ blk n2 [.int .u64 0, .int .u64 0] ^ blk p (Ks.mk KBf b)) → (fun y : Bool => y = (tkF b most).1.2) false ∧ Own w0 S R w (blk n1 [.int .u64 0, .int .u64 0] ^ blk n2 [.int .u64 (tkF b most).1.1.1, .int .u64 (tkF b most).1.1.2] ^ blk p (Ks.mk KBf (tkF b most).2)) := fun {w} c h => by
        have e : tkF b most = (((0, 0), false), b) := by unfold tkF; rw [if_neg c]
        rw [e]
        exact ⟨rfl, h⟩
      have h : Own w0 S R w (blk n1 [.int .u64 0, .int .u64 0] ^ blk n2 [.int .u64 0, .int .u64 0] ^ blk p (Ks.mk KBf b)) := h.fin
      refine w_loop (fun _ : Bool => blk n1 [.int .u64 0, .int .u64 0] ^ blk n2 [.int .u64 0, .int .u64 0] ^ blk p (Ks.mk KBf b)) (fun y : Bool => y = false) (fun _ => 0) h rfl ?_
      rintro (y : Bool) w hy h
      rw [hy]
      refine w_ite (fun c => ?_) fun c => ?_
      · have c : most ≥ 1 := of_decide_eq_true c
        refine w_call (bunsent_tri p b hb) h fun r w h => ?_
        obtain ⟨hr, h⟩ := h.purP; rw [hr]
        have ek : (if bW b - bN b < IntKind.u64.wrap most then bW b - bN b else IntKind.u64.wrap most) = min (bW b - bN b) most := by
          rw [wu (n := most) (by omega) (by omega)]
          split <;> omega
        rw [ek]
        refine w_ite (fun c2 => ?_) fun c2 => ?_
        · have c2 : min (bW b - bN b) most = 0 := by simpa using c2
          exact no (by omega) h.fin
        · have c2 : ¬ min (bW b - bN b) most = 0 := by simpa using c2
          have e : tkF b most = (((bN b, bN b + min (bW b - bN b) most), true), (bW b, bN b + min (bW b - bN b) most, bU b, bL b)) := by unfold tkF; rw [if_pos ⟨c, by omega⟩]
          have ew : IntKind.u64.wrap (bN b + min (bW b - bN b) most) = bN b + min (bW b - bN b) most := wu (by omega) (by omega)
          rw [e]
          refine w_drw h fun w h => w_deref (w_deref (w_ld h rfl (w_ld h rfl ?_)))
          rw [show IntKind.u64.wrap (b.2.1 + min (bW b - bN b) most) = bN b + min (bW b - bN b) most from ew]
          refine w_setAll h (by rfl) fun w h => w_deref (w_ld h rfl (w_deref ?_))
          rw [show IntKind.u64.wrap (b.2.1 + min (bW b - bN b) most) = bN b + min (bW b - bN b) most from ew]
          refine w_setTo h p (Ks.mk KBf (bW b, bN b + min (bW b - bN b) most, bU b, bL b)) rfl rfl rfl fun w h => ?_
          exact ⟨rfl, h.fin⟩
      · have c : ¬ most ≥ 1 := of_decide_eq_false c
        exact no (fun x => c x.1) h
end SockA


end Go.X
