/- Contracts and plain facts: BbrN. -/
import Derived.Test.YteeabliibhedoaaBPlain
import Derived.Test.YteeabliibhedoaaBArith
import Derived.Test.YteeabliibhedoaaBArithC
import Derived.Test.YteeabliibhedoaaBTarget
import Derived.Test.YteeabliibhedoaaBBbrM
import Derived.Test.YteeabliibhedoaaBBbrMm
import Derived.Test.YteeabliibhedoaaBBbrP
import Derived.Test.YteeabliibhedoaaBBbrW
import Derived.Test.YteeabliibhedoaaBBbrQ
import Derived.Test.YteeabliibhedoaaBBbrL
import Derived.Test.YteeabliibhedoaaXw
import Derived.Test.YteeabliibhedoaaK
import Derived.Test.YteeabliibhedoaaF0
import Derived.Test.YteeabliibhedoaaF1
set_option linter.unusedVariables false
set_option linter.unusedSimpArgs false
set_option linter.unusedSectionVars false
namespace Go.X
open Go.Proofs
namespace BbrN
open Arith ArithC _root_.Go.X.Target BbrM BbrMm BbrP BbrW BbrQ BbrL
theorem new_tri (n : Int) : Tri Try.prog N_bbr_New [.lf (.int .u64 n)] [.lf .ptr] emp (fun r => ex fun x : Nat × Nat × Nat × Nat × Nat × Nat × Nat => match x with | (b, n1, n2, n3, n4, n5, n6) => pur (r = some ⟨b, 0⟩) (blk b [.ptr (some ⟨n1, 0⟩), .ptr (some ⟨n2, 0⟩), .ptr (some ⟨n3, 0⟩), .ptr (some ⟨n4, 0⟩), .ptr (some ⟨n5, 0⟩), .ptr (some ⟨n6, 0⟩), .int .u64 (mNew n).mss, .int .i64 (mNew n).mode, .int .u64 (mNew n).rate, .int .u64 (mNew n).win, .int .u64 (mNew n).sav, .bool (mNew n).rec', .bool (mNew n).first, .int .u64 (mNew n).til] ^ blk n1 [.int .u64 (mNew n).w.w, .int .u64 (mNew n).w.t0, .int .u64 (mNew n).w.v0, .int .u64 (mNew n).w.t1, .int .u64 (mNew n).w.v1, .int .u64 (mNew n).w.t2, .int .u64 (mNew n).w.v2, .int .u64 (mNew n).w.la] ^ blk n2 [.int .u64 (mNew n).r.n, .int .u64 (mNew n).r.nx] ^ blk n3 [.int .u64 (mNew n).p.best, .int .i64 (mNew n).p.n, .bool (mNew n).p.full] ^ blk n4 [.int .i64 (mNew n).c.ph, .int .u64 (mNew n).c.at'] ^ blk n5 [.int .u64 (mNew n).b.best, .int .u64 (mNew n).b.at', .bool (mNew n).b.on, .int .u64 (mNew n).b.til, .bool (mNew n).b.rd] ^ blk n6 [.bool (mNew n).q.use, .bool (mNew n).q.mea, .int .u64 (mNew n).q.bw, .int .i64 (mNew n).q.n, .int .u64 (mNew n).q.lost, .int .u64 (mNew n).q.t0, .int .u64 (mNew n).q.d0, .int .u64 (mNew n).q.l0])) :=
  tri_0 (call_bbr_New _) fun w0 S R h => by
    unfold W_bbr_New
    refine w_call (wnew_tri 10) h fun r w h => ?_
    obtain ⟨n1, h⟩ := h.exP; obtain ⟨hr, h⟩ := h.purP; rw [hr]
    refine w_call rnew_tri h fun r w h => ?_
    obtain ⟨n2, h⟩ := h.exP; obtain ⟨hr, h⟩ := h.purP; rw [hr]
    refine w_call pnew_tri h fun r w h => ?_
    obtain ⟨n3, h⟩ := h.exP; obtain ⟨hr, h⟩ := h.purP; rw [hr]
    refine w_call cnew_tri h fun r w h => ?_
    obtain ⟨n4, h⟩ := h.exP; obtain ⟨hr, h⟩ := h.purP; rw [hr]
    refine w_call bnew_tri h fun r w h => ?_
    obtain ⟨n5, h⟩ := h.exP; obtain ⟨hr, h⟩ := h.purP; rw [hr]
    refine w_call lnew_tri h fun r w h => ?_
    obtain ⟨n6, h⟩ := h.exP; obtain ⟨hr, h⟩ := h.purP; rw [hr]
    have hm := mss_r n
    refine w_new h fun b w h => ?_
    change Own w0 S R w (blk b [.ptr (some ⟨n1, 0⟩), .ptr (some ⟨n2, 0⟩), .ptr (some ⟨n3, 0⟩), .ptr (some ⟨n4, 0⟩), .ptr (some ⟨n5, 0⟩), .ptr (some ⟨n6, 0⟩), .int .u64 (mMss n), .int .i64 0, .int .u64 0, .int .u64 0, .int .u64 0, .bool false, .bool false, .int .u64 0] ^ _) at h
    change deref _ (fun q8 => st _ [.int .u64 (IntKind.u64.wrap (10 * mMss n))] _) w
    rw [wu (n := 10 * mMss n) (by omega) (by omega)]
    refine w_deref (w_setTo h b [.ptr (some ⟨n1, 0⟩), .ptr (some ⟨n2, 0⟩), .ptr (some ⟨n3, 0⟩), .ptr (some ⟨n4, 0⟩), .ptr (some ⟨n5, 0⟩), .ptr (some ⟨n6, 0⟩), .int .u64 (mMss n), .int .i64 0, .int .u64 0, .int .u64 (10 * mMss n), .int .u64 0, .bool false, .bool false, .int .u64 0] rfl rfl rfl fun w h => ?_)
    refine w_deref (w_ld h rfl ?_)
    rw [wu (n := 10 * mMss n * 1000) (by omega) (by omega)]
    refine w_call (rate_tri (10 * mMss n * 1000) 739 ⟨by omega, by omega⟩ (U_lit _)) h fun r w h => ?_
    obtain ⟨hr, h⟩ := h.purP; rw [hr]
    refine w_deref (w_setTo h b [.ptr (some ⟨n1, 0⟩), .ptr (some ⟨n2, 0⟩), .ptr (some ⟨n3, 0⟩), .ptr (some ⟨n4, 0⟩), .ptr (some ⟨n5, 0⟩), .ptr (some ⟨n6, 0⟩), .int .u64 (mNew n).mss, .int .i64 (mNew n).mode, .int .u64 (mNew n).rate, .int .u64 (mNew n).win, .int .u64 (mNew n).sav, .bool (mNew n).rec', .bool (mNew n).first, .int .u64 (mNew n).til] rfl rfl rfl fun w h => ?_)
    exact Own.retE (b, n1, n2, n3, n4, n5, n6) (Own.retP rfl h.fin)
section
variable (b n1 n2 n3 n4 n5 n6 : Nat) (m : Md)
theorem bw_tri : Tri Try.prog N_bbr_Model_bw [.lf (.ptr (some ⟨b, 0⟩))] [.lf (.int .u64)] (blk b [.ptr (some ⟨n1, 0⟩), .ptr (some ⟨n2, 0⟩), .ptr (some ⟨n3, 0⟩), .ptr (some ⟨n4, 0⟩), .ptr (some ⟨n5, 0⟩), .ptr (some ⟨n6, 0⟩), .int .u64 m.mss, .int .i64 m.mode, .int .u64 m.rate, .int .u64 m.win, .int .u64 m.sav, .bool m.rec', .bool m.first, .int .u64 m.til] ^ blk n1 [.int .u64 m.w.w, .int .u64 m.w.t0, .int .u64 m.w.v0, .int .u64 m.w.t1, .int .u64 m.w.v1, .int .u64 m.w.t2, .int .u64 m.w.v2, .int .u64 m.w.la] ^ blk n2 [.int .u64 m.r.n, .int .u64 m.r.nx] ^ blk n3 [.int .u64 m.p.best, .int .i64 m.p.n, .bool m.p.full] ^ blk n4 [.int .i64 m.c.ph, .int .u64 m.c.at'] ^ blk n5 [.int .u64 m.b.best, .int .u64 m.b.at', .bool m.b.on, .int .u64 m.b.til, .bool m.b.rd] ^ blk n6 [.bool m.q.use, .bool m.q.mea, .int .u64 m.q.bw, .int .i64 m.q.n, .int .u64 m.q.lost, .int .u64 m.q.t0, .int .u64 m.q.d0, .int .u64 m.q.l0]) (fun r => pur (r = mBw m) (blk b [.ptr (some ⟨n1, 0⟩), .ptr (some ⟨n2, 0⟩), .ptr (some ⟨n3, 0⟩), .ptr (some ⟨n4, 0⟩), .ptr (some ⟨n5, 0⟩), .ptr (some ⟨n6, 0⟩), .int .u64 m.mss, .int .i64 m.mode, .int .u64 m.rate, .int .u64 m.win, .int .u64 m.sav, .bool m.rec', .bool m.first, .int .u64 m.til] ^ blk n1 [.int .u64 m.w.w, .int .u64 m.w.t0, .int .u64 m.w.v0, .int .u64 m.w.t1, .int .u64 m.w.v1, .int .u64 m.w.t2, .int .u64 m.w.v2, .int .u64 m.w.la] ^ blk n2 [.int .u64 m.r.n, .int .u64 m.r.nx] ^ blk n3 [.int .u64 m.p.best, .int .i64 m.p.n, .bool m.p.full] ^ blk n4 [.int .i64 m.c.ph, .int .u64 m.c.at'] ^ blk n5 [.int .u64 m.b.best, .int .u64 m.b.at', .bool m.b.on, .int .u64 m.b.til, .bool m.b.rd] ^ blk n6 [.bool m.q.use, .bool m.q.mea, .int .u64 m.q.bw, .int .i64 m.q.n, .int .u64 m.q.lost, .int .u64 m.q.t0, .int .u64 m.q.d0, .int .u64 m.q.l0])) :=
  tri_0 (call_bbr_Model_bw _) fun w0 S R h => by
    unfold W_bbr_Model_bw
    repeat' (first
      | (refine w_drw h fun w h => ?_)
      | (refine w_deref ?_)
      | (refine w_ldAll h rfl ?_)
      | (refine w_ld h rfl ?_)
      | (refine w_chkAll h ?_)
      | (refine w_chk h rfl ?_)
      | (refine w_setAll h (by rfl) fun w h => ?_)
      | (refine w_new h fun n w h => ?_)
      | (refine w_leave h fun w h => ?_)
      | (refine w_set h rfl fun w h => ?_; dsimp only [upd, over] at h)
      | (refine w_call (luse_tri n6 m.q) h fun r w h => ?_; obtain ⟨hr, h⟩ := h.purP; (try dsimp only at hr h); try rw [hr]))
    refine w_ite (fun c => ?_) fun c => ?_
    · have c : m.q.use = true := c
      exact Own.retP (by unfold mBw; rw [c]; rfl) h.fin
    · have c : m.q.use = false := c
      repeat' (first
        | (refine w_drw h fun w h => ?_)
        | (refine w_deref ?_)
        | (refine w_ldAll h rfl ?_)
        | (refine w_ld h rfl ?_)
        | (refine w_chkAll h ?_)
        | (refine w_chk h rfl ?_)
        | (refine w_setAll h (by rfl) fun w h => ?_)
        | (refine w_new h fun n w h => ?_)
        | (refine w_leave h fun w h => ?_)
        | (refine w_set h rfl fun w h => ?_; dsimp only [upd, over] at h)
        | (refine w_call (best_tri n1 m.w) h fun r w h => ?_; obtain ⟨hr, h⟩ := h.purP; (try dsimp only at hr h); try rw [hr]))
      exact Own.retP (by unfold mBw; rw [c]; rfl) h.fin
theorem pol_tri : Tri Try.prog N_bbr_Model_policed [.lf (.ptr (some ⟨b, 0⟩))] [.lf .bool] (blk b [.ptr (some ⟨n1, 0⟩), .ptr (some ⟨n2, 0⟩), .ptr (some ⟨n3, 0⟩), .ptr (some ⟨n4, 0⟩), .ptr (some ⟨n5, 0⟩), .ptr (some ⟨n6, 0⟩), .int .u64 m.mss, .int .i64 m.mode, .int .u64 m.rate, .int .u64 m.win, .int .u64 m.sav, .bool m.rec', .bool m.first, .int .u64 m.til] ^ blk n1 [.int .u64 m.w.w, .int .u64 m.w.t0, .int .u64 m.w.v0, .int .u64 m.w.t1, .int .u64 m.w.v1, .int .u64 m.w.t2, .int .u64 m.w.v2, .int .u64 m.w.la] ^ blk n2 [.int .u64 m.r.n, .int .u64 m.r.nx] ^ blk n3 [.int .u64 m.p.best, .int .i64 m.p.n, .bool m.p.full] ^ blk n4 [.int .i64 m.c.ph, .int .u64 m.c.at'] ^ blk n5 [.int .u64 m.b.best, .int .u64 m.b.at', .bool m.b.on, .int .u64 m.b.til, .bool m.b.rd] ^ blk n6 [.bool m.q.use, .bool m.q.mea, .int .u64 m.q.bw, .int .i64 m.q.n, .int .u64 m.q.lost, .int .u64 m.q.t0, .int .u64 m.q.d0, .int .u64 m.q.l0]) (fun r => pur (r = m.q.use) (blk b [.ptr (some ⟨n1, 0⟩), .ptr (some ⟨n2, 0⟩), .ptr (some ⟨n3, 0⟩), .ptr (some ⟨n4, 0⟩), .ptr (some ⟨n5, 0⟩), .ptr (some ⟨n6, 0⟩), .int .u64 m.mss, .int .i64 m.mode, .int .u64 m.rate, .int .u64 m.win, .int .u64 m.sav, .bool m.rec', .bool m.first, .int .u64 m.til] ^ blk n1 [.int .u64 m.w.w, .int .u64 m.w.t0, .int .u64 m.w.v0, .int .u64 m.w.t1, .int .u64 m.w.v1, .int .u64 m.w.t2, .int .u64 m.w.v2, .int .u64 m.w.la] ^ blk n2 [.int .u64 m.r.n, .int .u64 m.r.nx] ^ blk n3 [.int .u64 m.p.best, .int .i64 m.p.n, .bool m.p.full] ^ blk n4 [.int .i64 m.c.ph, .int .u64 m.c.at'] ^ blk n5 [.int .u64 m.b.best, .int .u64 m.b.at', .bool m.b.on, .int .u64 m.b.til, .bool m.b.rd] ^ blk n6 [.bool m.q.use, .bool m.q.mea, .int .u64 m.q.bw, .int .i64 m.q.n, .int .u64 m.q.lost, .int .u64 m.q.t0, .int .u64 m.q.d0, .int .u64 m.q.l0])) :=
  tri_0 (call_bbr_Model_policed _) fun w0 S R h => by
    unfold W_bbr_Model_policed
    repeat' (first
      | (refine w_drw h fun w h => ?_)
      | (refine w_deref ?_)
      | (refine w_ldAll h rfl ?_)
      | (refine w_ld h rfl ?_)
      | (refine w_chkAll h ?_)
      | (refine w_chk h rfl ?_)
      | (refine w_setAll h (by rfl) fun w h => ?_)
      | (refine w_new h fun n w h => ?_)
      | (refine w_leave h fun w h => ?_)
      | (refine w_set h rfl fun w h => ?_; dsimp only [upd, over] at h)
      | (refine w_call (luse_tri n6 m.q) h fun r w h => ?_; obtain ⟨hr, h⟩ := h.purP; (try dsimp only at hr h); try rw [hr]))
    exact Own.retP rfl h.fin
theorem gainm_tri : Tri Try.prog N_bbr_Model_gain [.lf (.ptr (some ⟨b, 0⟩))] [.lf (.int .u64)] (blk b [.ptr (some ⟨n1, 0⟩), .ptr (some ⟨n2, 0⟩), .ptr (some ⟨n3, 0⟩), .ptr (some ⟨n4, 0⟩), .ptr (some ⟨n5, 0⟩), .ptr (some ⟨n6, 0⟩), .int .u64 m.mss, .int .i64 m.mode, .int .u64 m.rate, .int .u64 m.win, .int .u64 m.sav, .bool m.rec', .bool m.first, .int .u64 m.til] ^ blk n1 [.int .u64 m.w.w, .int .u64 m.w.t0, .int .u64 m.w.v0, .int .u64 m.w.t1, .int .u64 m.w.v1, .int .u64 m.w.t2, .int .u64 m.w.v2, .int .u64 m.w.la] ^ blk n2 [.int .u64 m.r.n, .int .u64 m.r.nx] ^ blk n3 [.int .u64 m.p.best, .int .i64 m.p.n, .bool m.p.full] ^ blk n4 [.int .i64 m.c.ph, .int .u64 m.c.at'] ^ blk n5 [.int .u64 m.b.best, .int .u64 m.b.at', .bool m.b.on, .int .u64 m.b.til, .bool m.b.rd] ^ blk n6 [.bool m.q.use, .bool m.q.mea, .int .u64 m.q.bw, .int .i64 m.q.n, .int .u64 m.q.lost, .int .u64 m.q.t0, .int .u64 m.q.d0, .int .u64 m.q.l0]) (fun r => pur (r = mGain m) (blk b [.ptr (some ⟨n1, 0⟩), .ptr (some ⟨n2, 0⟩), .ptr (some ⟨n3, 0⟩), .ptr (some ⟨n4, 0⟩), .ptr (some ⟨n5, 0⟩), .ptr (some ⟨n6, 0⟩), .int .u64 m.mss, .int .i64 m.mode, .int .u64 m.rate, .int .u64 m.win, .int .u64 m.sav, .bool m.rec', .bool m.first, .int .u64 m.til] ^ blk n1 [.int .u64 m.w.w, .int .u64 m.w.t0, .int .u64 m.w.v0, .int .u64 m.w.t1, .int .u64 m.w.v1, .int .u64 m.w.t2, .int .u64 m.w.v2, .int .u64 m.w.la] ^ blk n2 [.int .u64 m.r.n, .int .u64 m.r.nx] ^ blk n3 [.int .u64 m.p.best, .int .i64 m.p.n, .bool m.p.full] ^ blk n4 [.int .i64 m.c.ph, .int .u64 m.c.at'] ^ blk n5 [.int .u64 m.b.best, .int .u64 m.b.at', .bool m.b.on, .int .u64 m.b.til, .bool m.b.rd] ^ blk n6 [.bool m.q.use, .bool m.q.mea, .int .u64 m.q.bw, .int .i64 m.q.n, .int .u64 m.q.lost, .int .u64 m.q.t0, .int .u64 m.q.d0, .int .u64 m.q.l0])) :=
  tri_0 (call_bbr_Model_gain _) fun w0 S R h => by
    unfold W_bbr_Model_gain
    repeat' (first
      | (refine w_drw h fun w h => ?_)
      | (refine w_deref ?_)
      | (refine w_ldAll h rfl ?_)
      | (refine w_ld h rfl ?_)
      | (refine w_chkAll h ?_)
      | (refine w_chk h rfl ?_)
      | (refine w_setAll h (by rfl) fun w h => ?_)
      | (refine w_new h fun n w h => ?_)
      | (refine w_leave h fun w h => ?_)
      | (refine w_set h rfl fun w h => ?_; dsimp only [upd, over] at h))
    refine w_ite (fun c => ?_) fun c => ?_
    · exact Own.retP (by unfold mGain; rw [if_pos (by simpa using c)]) h.fin
    repeat' (first
      | (refine w_drw h fun w h => ?_)
      | (refine w_deref ?_)
      | (refine w_ldAll h rfl ?_)
      | (refine w_ld h rfl ?_)
      | (refine w_chkAll h ?_)
      | (refine w_chk h rfl ?_)
      | (refine w_setAll h (by rfl) fun w h => ?_)
      | (refine w_new h fun n w h => ?_)
      | (refine w_leave h fun w h => ?_)
      | (refine w_set h rfl fun w h => ?_; dsimp only [upd, over] at h))
    refine w_ite (fun c2 => ?_) fun c2 => ?_
    · exact Own.retP (by unfold mGain; rw [if_neg (by simpa using c), if_pos (by simpa using c2)]) h.fin
    have e : mGain m = if m.mode = 2 ∧ m.q.use = false then cG m.c else 256 := by unfold mGain; rw [if_neg (by simpa using c), if_neg (by simpa using c2)]
    rw [e]
    refine w_join h (fun _ => blk b [.ptr (some ⟨n1, 0⟩), .ptr (some ⟨n2, 0⟩), .ptr (some ⟨n3, 0⟩), .ptr (some ⟨n4, 0⟩), .ptr (some ⟨n5, 0⟩), .ptr (some ⟨n6, 0⟩), .int .u64 m.mss, .int .i64 m.mode, .int .u64 m.rate, .int .u64 m.win, .int .u64 m.sav, .bool m.rec', .bool m.first, .int .u64 m.til] ^ blk n1 [.int .u64 m.w.w, .int .u64 m.w.t0, .int .u64 m.w.v0, .int .u64 m.w.t1, .int .u64 m.w.v1, .int .u64 m.w.t2, .int .u64 m.w.v2, .int .u64 m.w.la] ^ blk n2 [.int .u64 m.r.n, .int .u64 m.r.nx] ^ blk n3 [.int .u64 m.p.best, .int .i64 m.p.n, .bool m.p.full] ^ blk n4 [.int .i64 m.c.ph, .int .u64 m.c.at'] ^ blk n5 [.int .u64 m.b.best, .int .u64 m.b.at', .bool m.b.on, .int .u64 m.b.til, .bool m.b.rd] ^ blk n6 [.bool m.q.use, .bool m.q.mea, .int .u64 m.q.bw, .int .i64 m.q.n, .int .u64 m.q.lost, .int .u64 m.q.t0, .int .u64 m.q.d0, .int .u64 m.q.l0]) (fun y : Bool => y = decide (m.mode = 2 ∧ m.q.use = false)) (fun (y : Bool) w hy h => ?_) ?_
    · rw [hy]
      refine w_ite (fun c3 => ?_) fun c3 => ?_
      · have c3 : m.mode = 2 ∧ m.q.use = false := by simpa using c3
        rw [if_pos c3]
        repeat' (first
          | (refine w_drw h fun w h => ?_)
          | (refine w_deref ?_)
          | (refine w_ldAll h rfl ?_)
          | (refine w_ld h rfl ?_)
          | (refine w_chkAll h ?_)
          | (refine w_chk h rfl ?_)
          | (refine w_setAll h (by rfl) fun w h => ?_)
          | (refine w_new h fun n w h => ?_)
          | (refine w_leave h fun w h => ?_)
          | (refine w_set h rfl fun w h => ?_; dsimp only [upd, over] at h)
          | (refine w_call (gain_tri n4 m.c) h fun r w h => ?_; obtain ⟨hr, h⟩ := h.purP; (try dsimp only at hr h); try rw [hr]))
        exact Own.retP rfl h.fin
      · have c3 : ¬ (m.mode = 2 ∧ m.q.use = false) := by simpa using c3
        rw [if_neg c3]
        exact Own.retP rfl h.fin
    · repeat' (first
        | (refine w_drw h fun w h => ?_)
        | (refine w_deref ?_)
        | (refine w_ldAll h rfl ?_)
        | (refine w_ld h rfl ?_)
        | (refine w_chkAll h ?_)
        | (refine w_chk h rfl ?_)
        | (refine w_setAll h (by rfl) fun w h => ?_)
        | (refine w_new h fun n w h => ?_)
        | (refine w_leave h fun w h => ?_)
        | (refine w_set h rfl fun w h => ?_; dsimp only [upd, over] at h))
      refine w_ite (fun c3 => ?_) fun c3 => ?_
      · have c3 : m.mode = 2 := by simpa using c3
        repeat' (first
          | (refine w_drw h fun w h => ?_)
          | (refine w_deref ?_)
          | (refine w_ldAll h rfl ?_)
          | (refine w_ld h rfl ?_)
          | (refine w_chkAll h ?_)
          | (refine w_chk h rfl ?_)
          | (refine w_setAll h (by rfl) fun w h => ?_)
          | (refine w_new h fun n w h => ?_)
          | (refine w_leave h fun w h => ?_)
          | (refine w_set h rfl fun w h => ?_; dsimp only [upd, over] at h)
          | (refine w_call (pol_tri b n1 n2 n3 n4 n5 n6 m) h fun r w h => ?_; obtain ⟨hr, h⟩ := h.purP; (try dsimp only at hr h); try rw [hr]))
        exact ⟨by rw [Bool.eq_iff_iff]; simp [c3], h.fin⟩
      · have c3 : ¬ m.mode = 2 := by simpa using c3
        exact ⟨by simp [c3], h.fin⟩
theorem wide_tri' : Tri Try.prog N_bbr_Model_wideGain [.lf (.ptr (some ⟨b, 0⟩))] [.lf (.int .u64)] (blk b [.ptr (some ⟨n1, 0⟩), .ptr (some ⟨n2, 0⟩), .ptr (some ⟨n3, 0⟩), .ptr (some ⟨n4, 0⟩), .ptr (some ⟨n5, 0⟩), .ptr (some ⟨n6, 0⟩), .int .u64 m.mss, .int .i64 m.mode, .int .u64 m.rate, .int .u64 m.win, .int .u64 m.sav, .bool m.rec', .bool m.first, .int .u64 m.til] ^ blk n1 [.int .u64 m.w.w, .int .u64 m.w.t0, .int .u64 m.w.v0, .int .u64 m.w.t1, .int .u64 m.w.v1, .int .u64 m.w.t2, .int .u64 m.w.v2, .int .u64 m.w.la] ^ blk n2 [.int .u64 m.r.n, .int .u64 m.r.nx] ^ blk n3 [.int .u64 m.p.best, .int .i64 m.p.n, .bool m.p.full] ^ blk n4 [.int .i64 m.c.ph, .int .u64 m.c.at'] ^ blk n5 [.int .u64 m.b.best, .int .u64 m.b.at', .bool m.b.on, .int .u64 m.b.til, .bool m.b.rd] ^ blk n6 [.bool m.q.use, .bool m.q.mea, .int .u64 m.q.bw, .int .i64 m.q.n, .int .u64 m.q.lost, .int .u64 m.q.t0, .int .u64 m.q.d0, .int .u64 m.q.l0]) (fun r => pur (r = mWide m) (blk b [.ptr (some ⟨n1, 0⟩), .ptr (some ⟨n2, 0⟩), .ptr (some ⟨n3, 0⟩), .ptr (some ⟨n4, 0⟩), .ptr (some ⟨n5, 0⟩), .ptr (some ⟨n6, 0⟩), .int .u64 m.mss, .int .i64 m.mode, .int .u64 m.rate, .int .u64 m.win, .int .u64 m.sav, .bool m.rec', .bool m.first, .int .u64 m.til] ^ blk n1 [.int .u64 m.w.w, .int .u64 m.w.t0, .int .u64 m.w.v0, .int .u64 m.w.t1, .int .u64 m.w.v1, .int .u64 m.w.t2, .int .u64 m.w.v2, .int .u64 m.w.la] ^ blk n2 [.int .u64 m.r.n, .int .u64 m.r.nx] ^ blk n3 [.int .u64 m.p.best, .int .i64 m.p.n, .bool m.p.full] ^ blk n4 [.int .i64 m.c.ph, .int .u64 m.c.at'] ^ blk n5 [.int .u64 m.b.best, .int .u64 m.b.at', .bool m.b.on, .int .u64 m.b.til, .bool m.b.rd] ^ blk n6 [.bool m.q.use, .bool m.q.mea, .int .u64 m.q.bw, .int .i64 m.q.n, .int .u64 m.q.lost, .int .u64 m.q.t0, .int .u64 m.q.d0, .int .u64 m.q.l0])) :=
  tri_0 (call_bbr_Model_wideGain _) fun w0 S R h => by
    unfold W_bbr_Model_wideGain
    repeat' (first
      | (refine w_drw h fun w h => ?_)
      | (refine w_deref ?_)
      | (refine w_ldAll h rfl ?_)
      | (refine w_ld h rfl ?_)
      | (refine w_chkAll h ?_)
      | (refine w_chk h rfl ?_)
      | (refine w_setAll h (by rfl) fun w h => ?_)
      | (refine w_new h fun n w h => ?_)
      | (refine w_leave h fun w h => ?_)
      | (refine w_set h rfl fun w h => ?_; dsimp only [upd, over] at h))
    refine w_ite (fun c => ?_) fun c => ?_
    · exact Own.retP (by unfold mWide; rw [if_pos (by simpa using c)]) h.fin
    refine w_ite (fun c2 => ?_) fun c2 => ?_
    · exact Own.retP (by unfold mWide; rw [if_neg (by simpa using c), if_pos (by simpa using c2)]) h.fin
    · exact Own.retP (by unfold mWide; rw [if_neg (by simpa using c), if_neg (by simpa using c2)]) h.fin
theorem floor_tri (hm : OkM m) : Tri Try.prog N_bbr_Model_floor [.lf (.ptr (some ⟨b, 0⟩))] [.lf (.int .u64)] (blk b [.ptr (some ⟨n1, 0⟩), .ptr (some ⟨n2, 0⟩), .ptr (some ⟨n3, 0⟩), .ptr (some ⟨n4, 0⟩), .ptr (some ⟨n5, 0⟩), .ptr (some ⟨n6, 0⟩), .int .u64 m.mss, .int .i64 m.mode, .int .u64 m.rate, .int .u64 m.win, .int .u64 m.sav, .bool m.rec', .bool m.first, .int .u64 m.til] ^ blk n1 [.int .u64 m.w.w, .int .u64 m.w.t0, .int .u64 m.w.v0, .int .u64 m.w.t1, .int .u64 m.w.v1, .int .u64 m.w.t2, .int .u64 m.w.v2, .int .u64 m.w.la] ^ blk n2 [.int .u64 m.r.n, .int .u64 m.r.nx] ^ blk n3 [.int .u64 m.p.best, .int .i64 m.p.n, .bool m.p.full] ^ blk n4 [.int .i64 m.c.ph, .int .u64 m.c.at'] ^ blk n5 [.int .u64 m.b.best, .int .u64 m.b.at', .bool m.b.on, .int .u64 m.b.til, .bool m.b.rd] ^ blk n6 [.bool m.q.use, .bool m.q.mea, .int .u64 m.q.bw, .int .i64 m.q.n, .int .u64 m.q.lost, .int .u64 m.q.t0, .int .u64 m.q.d0, .int .u64 m.q.l0]) (fun r => pur (r = mFloor m) (blk b [.ptr (some ⟨n1, 0⟩), .ptr (some ⟨n2, 0⟩), .ptr (some ⟨n3, 0⟩), .ptr (some ⟨n4, 0⟩), .ptr (some ⟨n5, 0⟩), .ptr (some ⟨n6, 0⟩), .int .u64 m.mss, .int .i64 m.mode, .int .u64 m.rate, .int .u64 m.win, .int .u64 m.sav, .bool m.rec', .bool m.first, .int .u64 m.til] ^ blk n1 [.int .u64 m.w.w, .int .u64 m.w.t0, .int .u64 m.w.v0, .int .u64 m.w.t1, .int .u64 m.w.v1, .int .u64 m.w.t2, .int .u64 m.w.v2, .int .u64 m.w.la] ^ blk n2 [.int .u64 m.r.n, .int .u64 m.r.nx] ^ blk n3 [.int .u64 m.p.best, .int .i64 m.p.n, .bool m.p.full] ^ blk n4 [.int .i64 m.c.ph, .int .u64 m.c.at'] ^ blk n5 [.int .u64 m.b.best, .int .u64 m.b.at', .bool m.b.on, .int .u64 m.b.til, .bool m.b.rd] ^ blk n6 [.bool m.q.use, .bool m.q.mea, .int .u64 m.q.bw, .int .i64 m.q.n, .int .u64 m.q.lost, .int .u64 m.q.t0, .int .u64 m.q.d0, .int .u64 m.q.l0])) :=
  tri_0 (call_bbr_Model_floor _) fun w0 S R h => by
    unfold W_bbr_Model_floor
    repeat' (first
      | (refine w_drw h fun w h => ?_)
      | (refine w_deref ?_)
      | (refine w_ldAll h rfl ?_)
      | (refine w_ld h rfl ?_)
      | (refine w_chkAll h ?_)
      | (refine w_chk h rfl ?_)
      | (refine w_setAll h (by rfl) fun w h => ?_)
      | (refine w_new h fun n w h => ?_)
      | (refine w_leave h fun w h => ?_)
      | (refine w_set h rfl fun w h => ?_; dsimp only [upd, over] at h))
    have := hm.mss
    exact Own.retP (wu (by omega) (by omega)) h.fin
theorem bdpm_tri (hm : OkM m) (g : Int) (hg : U g) : Tri Try.prog N_bbr_Model_bdp [.lf (.ptr (some ⟨b, 0⟩)), .lf (.int .u64 g)] [.lf (.int .u64)] (blk b [.ptr (some ⟨n1, 0⟩), .ptr (some ⟨n2, 0⟩), .ptr (some ⟨n3, 0⟩), .ptr (some ⟨n4, 0⟩), .ptr (some ⟨n5, 0⟩), .ptr (some ⟨n6, 0⟩), .int .u64 m.mss, .int .i64 m.mode, .int .u64 m.rate, .int .u64 m.win, .int .u64 m.sav, .bool m.rec', .bool m.first, .int .u64 m.til] ^ blk n1 [.int .u64 m.w.w, .int .u64 m.w.t0, .int .u64 m.w.v0, .int .u64 m.w.t1, .int .u64 m.w.v1, .int .u64 m.w.t2, .int .u64 m.w.v2, .int .u64 m.w.la] ^ blk n2 [.int .u64 m.r.n, .int .u64 m.r.nx] ^ blk n3 [.int .u64 m.p.best, .int .i64 m.p.n, .bool m.p.full] ^ blk n4 [.int .i64 m.c.ph, .int .u64 m.c.at'] ^ blk n5 [.int .u64 m.b.best, .int .u64 m.b.at', .bool m.b.on, .int .u64 m.b.til, .bool m.b.rd] ^ blk n6 [.bool m.q.use, .bool m.q.mea, .int .u64 m.q.bw, .int .i64 m.q.n, .int .u64 m.q.lost, .int .u64 m.q.t0, .int .u64 m.q.d0, .int .u64 m.q.l0]) (fun r => pur (r = mBdp m g) (blk b [.ptr (some ⟨n1, 0⟩), .ptr (some ⟨n2, 0⟩), .ptr (some ⟨n3, 0⟩), .ptr (some ⟨n4, 0⟩), .ptr (some ⟨n5, 0⟩), .ptr (some ⟨n6, 0⟩), .int .u64 m.mss, .int .i64 m.mode, .int .u64 m.rate, .int .u64 m.win, .int .u64 m.sav, .bool m.rec', .bool m.first, .int .u64 m.til] ^ blk n1 [.int .u64 m.w.w, .int .u64 m.w.t0, .int .u64 m.w.v0, .int .u64 m.w.t1, .int .u64 m.w.v1, .int .u64 m.w.t2, .int .u64 m.w.v2, .int .u64 m.w.la] ^ blk n2 [.int .u64 m.r.n, .int .u64 m.r.nx] ^ blk n3 [.int .u64 m.p.best, .int .i64 m.p.n, .bool m.p.full] ^ blk n4 [.int .i64 m.c.ph, .int .u64 m.c.at'] ^ blk n5 [.int .u64 m.b.best, .int .u64 m.b.at', .bool m.b.on, .int .u64 m.b.til, .bool m.b.rd] ^ blk n6 [.bool m.q.use, .bool m.q.mea, .int .u64 m.q.bw, .int .i64 m.q.n, .int .u64 m.q.lost, .int .u64 m.q.t0, .int .u64 m.q.d0, .int .u64 m.q.l0])) :=
  tri_0 (call_bbr_Model_bdp _ _) fun w0 S R h => by
    unfold W_bbr_Model_bdp
    have h : Own w0 S R w0 ((blk b [.ptr (some ⟨n1, 0⟩), .ptr (some ⟨n2, 0⟩), .ptr (some ⟨n3, 0⟩), .ptr (some ⟨n4, 0⟩), .ptr (some ⟨n5, 0⟩), .ptr (some ⟨n6, 0⟩), .int .u64 m.mss, .int .i64 m.mode, .int .u64 m.rate, .int .u64 m.win, .int .u64 m.sav, .bool m.rec', .bool m.first, .int .u64 m.til] ^ blk n1 [.int .u64 m.w.w, .int .u64 m.w.t0, .int .u64 m.w.v0, .int .u64 m.w.t1, .int .u64 m.w.v1, .int .u64 m.w.t2, .int .u64 m.w.v2, .int .u64 m.w.la] ^ blk n2 [.int .u64 m.r.n, .int .u64 m.r.nx] ^ blk n3 [.int .u64 m.p.best, .int .i64 m.p.n, .bool m.p.full] ^ blk n4 [.int .i64 m.c.ph, .int .u64 m.c.at'] ^ blk n5 [.int .u64 m.b.best, .int .u64 m.b.at', .bool m.b.on, .int .u64 m.b.til, .bool m.b.rd] ^ blk n6 [.bool m.q.use, .bool m.q.mea, .int .u64 m.q.bw, .int .i64 m.q.n, .int .u64 m.q.lost, .int .u64 m.q.t0, .int .u64 m.q.d0, .int .u64 m.q.l0]) ^ emp) := h.le (star_emp _)
    repeat' (first
      | (refine w_drw h fun w h => ?_)
      | (refine w_deref ?_)
      | (refine w_ldAll h rfl ?_)
      | (refine w_ld h rfl ?_)
      | (refine w_chkAll h ?_)
      | (refine w_chk h rfl ?_)
      | (refine w_setAll h (by rfl) fun w h => ?_)
      | (refine w_new h fun n w h => ?_)
      | (refine w_leave h fun w h => ?_)
      | (refine w_set h rfl fun w h => ?_; dsimp only [upd, over] at h)
      | (refine w_call (bw_tri b n1 n2 n3 n4 n5 n6 m) h fun r w h => ?_; obtain ⟨hr, h⟩ := h.purP; (try dsimp only at hr h); try rw [hr])
      | (refine w_call (bbest_tri n5 m.b) h fun r w h => ?_; obtain ⟨hr, h⟩ := h.purP; (try dsimp only at hr h); try rw [hr])
      | (refine w_call (bdp_tri (mBw m) m.b.best g hm.bw hm.b.best hg) h fun r w h => ?_; obtain ⟨hr, h⟩ := h.purP; (try dsimp only at hr h); try rw [hr]))
    exact Own.retP rfl h.fin
theorem cruise_tri (now : Int) : Tri Try.prog N_bbr_Model_cruise [.lf (.ptr (some ⟨b, 0⟩)), .lf (.int .u64 now)] [] (blk b [.ptr (some ⟨n1, 0⟩), .ptr (some ⟨n2, 0⟩), .ptr (some ⟨n3, 0⟩), .ptr (some ⟨n4, 0⟩), .ptr (some ⟨n5, 0⟩), .ptr (some ⟨n6, 0⟩), .int .u64 m.mss, .int .i64 m.mode, .int .u64 m.rate, .int .u64 m.win, .int .u64 m.sav, .bool m.rec', .bool m.first, .int .u64 m.til] ^ blk n1 [.int .u64 m.w.w, .int .u64 m.w.t0, .int .u64 m.w.v0, .int .u64 m.w.t1, .int .u64 m.w.v1, .int .u64 m.w.t2, .int .u64 m.w.v2, .int .u64 m.w.la] ^ blk n2 [.int .u64 m.r.n, .int .u64 m.r.nx] ^ blk n3 [.int .u64 m.p.best, .int .i64 m.p.n, .bool m.p.full] ^ blk n4 [.int .i64 m.c.ph, .int .u64 m.c.at'] ^ blk n5 [.int .u64 m.b.best, .int .u64 m.b.at', .bool m.b.on, .int .u64 m.b.til, .bool m.b.rd] ^ blk n6 [.bool m.q.use, .bool m.q.mea, .int .u64 m.q.bw, .int .i64 m.q.n, .int .u64 m.q.lost, .int .u64 m.q.t0, .int .u64 m.q.d0, .int .u64 m.q.l0]) (fun _ => blk b [.ptr (some ⟨n1, 0⟩), .ptr (some ⟨n2, 0⟩), .ptr (some ⟨n3, 0⟩), .ptr (some ⟨n4, 0⟩), .ptr (some ⟨n5, 0⟩), .ptr (some ⟨n6, 0⟩), .int .u64 (mCruise m now).mss, .int .i64 (mCruise m now).mode, .int .u64 (mCruise m now).rate, .int .u64 (mCruise m now).win, .int .u64 (mCruise m now).sav, .bool (mCruise m now).rec', .bool (mCruise m now).first, .int .u64 (mCruise m now).til] ^ blk n1 [.int .u64 (mCruise m now).w.w, .int .u64 (mCruise m now).w.t0, .int .u64 (mCruise m now).w.v0, .int .u64 (mCruise m now).w.t1, .int .u64 (mCruise m now).w.v1, .int .u64 (mCruise m now).w.t2, .int .u64 (mCruise m now).w.v2, .int .u64 (mCruise m now).w.la] ^ blk n2 [.int .u64 (mCruise m now).r.n, .int .u64 (mCruise m now).r.nx] ^ blk n3 [.int .u64 (mCruise m now).p.best, .int .i64 (mCruise m now).p.n, .bool (mCruise m now).p.full] ^ blk n4 [.int .i64 (mCruise m now).c.ph, .int .u64 (mCruise m now).c.at'] ^ blk n5 [.int .u64 (mCruise m now).b.best, .int .u64 (mCruise m now).b.at', .bool (mCruise m now).b.on, .int .u64 (mCruise m now).b.til, .bool (mCruise m now).b.rd] ^ blk n6 [.bool (mCruise m now).q.use, .bool (mCruise m now).q.mea, .int .u64 (mCruise m now).q.bw, .int .i64 (mCruise m now).q.n, .int .u64 (mCruise m now).q.lost, .int .u64 (mCruise m now).q.t0, .int .u64 (mCruise m now).q.d0, .int .u64 (mCruise m now).q.l0]) :=
  tri_0 (call_bbr_Model_cruise _ _) fun w0 S R h => by
    unfold W_bbr_Model_cruise
    refine w_deref (w_setTo h b [.ptr (some ⟨n1, 0⟩), .ptr (some ⟨n2, 0⟩), .ptr (some ⟨n3, 0⟩), .ptr (some ⟨n4, 0⟩), .ptr (some ⟨n5, 0⟩), .ptr (some ⟨n6, 0⟩), .int .u64 (mCruise m now).mss, .int .i64 (mCruise m now).mode, .int .u64 (mCruise m now).rate, .int .u64 (mCruise m now).win, .int .u64 (mCruise m now).sav, .bool (mCruise m now).rec', .bool (mCruise m now).first, .int .u64 (mCruise m now).til] rfl rfl rfl fun w h => ?_)
    refine w_deref (w_ld h rfl ?_)
    refine w_call (cst_tri n4 m.c now 2 (by decide) (by decide)) h fun r w h => ?_
    show Own w0 S R w (blk b [.ptr (some ⟨n1, 0⟩), .ptr (some ⟨n2, 0⟩), .ptr (some ⟨n3, 0⟩), .ptr (some ⟨n4, 0⟩), .ptr (some ⟨n5, 0⟩), .ptr (some ⟨n6, 0⟩), .int .u64 (mCruise m now).mss, .int .i64 (mCruise m now).mode, .int .u64 (mCruise m now).rate, .int .u64 (mCruise m now).win, .int .u64 (mCruise m now).sav, .bool (mCruise m now).rec', .bool (mCruise m now).first, .int .u64 (mCruise m now).til] ^ blk n1 [.int .u64 (mCruise m now).w.w, .int .u64 (mCruise m now).w.t0, .int .u64 (mCruise m now).w.v0, .int .u64 (mCruise m now).w.t1, .int .u64 (mCruise m now).w.v1, .int .u64 (mCruise m now).w.t2, .int .u64 (mCruise m now).w.v2, .int .u64 (mCruise m now).w.la] ^ blk n2 [.int .u64 (mCruise m now).r.n, .int .u64 (mCruise m now).r.nx] ^ blk n3 [.int .u64 (mCruise m now).p.best, .int .i64 (mCruise m now).p.n, .bool (mCruise m now).p.full] ^ blk n4 [.int .i64 (mCruise m now).c.ph, .int .u64 (mCruise m now).c.at'] ^ blk n5 [.int .u64 (mCruise m now).b.best, .int .u64 (mCruise m now).b.at', .bool (mCruise m now).b.on, .int .u64 (mCruise m now).b.til, .bool (mCruise m now).b.rd] ^ blk n6 [.bool (mCruise m now).q.use, .bool (mCruise m now).q.mea, .int .u64 (mCruise m now).q.bw, .int .i64 (mCruise m now).q.n, .int .u64 (mCruise m now).q.lost, .int .u64 (mCruise m now).q.t0, .int .u64 (mCruise m now).q.d0, .int .u64 (mCruise m now).q.l0])
    exact h.fin
theorem back_tri : Tri Try.prog N_bbr_Model_back [.lf (.ptr (some ⟨b, 0⟩))] [] (blk b [.ptr (some ⟨n1, 0⟩), .ptr (some ⟨n2, 0⟩), .ptr (some ⟨n3, 0⟩), .ptr (some ⟨n4, 0⟩), .ptr (some ⟨n5, 0⟩), .ptr (some ⟨n6, 0⟩), .int .u64 m.mss, .int .i64 m.mode, .int .u64 m.rate, .int .u64 m.win, .int .u64 m.sav, .bool m.rec', .bool m.first, .int .u64 m.til] ^ blk n1 [.int .u64 m.w.w, .int .u64 m.w.t0, .int .u64 m.w.v0, .int .u64 m.w.t1, .int .u64 m.w.v1, .int .u64 m.w.t2, .int .u64 m.w.v2, .int .u64 m.w.la] ^ blk n2 [.int .u64 m.r.n, .int .u64 m.r.nx] ^ blk n3 [.int .u64 m.p.best, .int .i64 m.p.n, .bool m.p.full] ^ blk n4 [.int .i64 m.c.ph, .int .u64 m.c.at'] ^ blk n5 [.int .u64 m.b.best, .int .u64 m.b.at', .bool m.b.on, .int .u64 m.b.til, .bool m.b.rd] ^ blk n6 [.bool m.q.use, .bool m.q.mea, .int .u64 m.q.bw, .int .i64 m.q.n, .int .u64 m.q.lost, .int .u64 m.q.t0, .int .u64 m.q.d0, .int .u64 m.q.l0]) (fun _ => blk b [.ptr (some ⟨n1, 0⟩), .ptr (some ⟨n2, 0⟩), .ptr (some ⟨n3, 0⟩), .ptr (some ⟨n4, 0⟩), .ptr (some ⟨n5, 0⟩), .ptr (some ⟨n6, 0⟩), .int .u64 (mBack m).mss, .int .i64 (mBack m).mode, .int .u64 (mBack m).rate, .int .u64 (mBack m).win, .int .u64 (mBack m).sav, .bool (mBack m).rec', .bool (mBack m).first, .int .u64 (mBack m).til] ^ blk n1 [.int .u64 (mBack m).w.w, .int .u64 (mBack m).w.t0, .int .u64 (mBack m).w.v0, .int .u64 (mBack m).w.t1, .int .u64 (mBack m).w.v1, .int .u64 (mBack m).w.t2, .int .u64 (mBack m).w.v2, .int .u64 (mBack m).w.la] ^ blk n2 [.int .u64 (mBack m).r.n, .int .u64 (mBack m).r.nx] ^ blk n3 [.int .u64 (mBack m).p.best, .int .i64 (mBack m).p.n, .bool (mBack m).p.full] ^ blk n4 [.int .i64 (mBack m).c.ph, .int .u64 (mBack m).c.at'] ^ blk n5 [.int .u64 (mBack m).b.best, .int .u64 (mBack m).b.at', .bool (mBack m).b.on, .int .u64 (mBack m).b.til, .bool (mBack m).b.rd] ^ blk n6 [.bool (mBack m).q.use, .bool (mBack m).q.mea, .int .u64 (mBack m).q.bw, .int .i64 (mBack m).q.n, .int .u64 (mBack m).q.lost, .int .u64 (mBack m).q.t0, .int .u64 (mBack m).q.d0, .int .u64 (mBack m).q.l0]) :=
  tri_0 (call_bbr_Model_back _) fun w0 S R h => by
    unfold W_bbr_Model_back
    refine w_drw h fun w h => w_deref (w_deref (w_ld h rfl (w_ld h rfl (w_deref ?_))))
    refine w_setTo h b [.ptr (some ⟨n1, 0⟩), .ptr (some ⟨n2, 0⟩), .ptr (some ⟨n3, 0⟩), .ptr (some ⟨n4, 0⟩), .ptr (some ⟨n5, 0⟩), .ptr (some ⟨n6, 0⟩), .int .u64 ({ m with win := if m.sav > m.win then m.sav else m.win }).mss, .int .i64 ({ m with win := if m.sav > m.win then m.sav else m.win }).mode, .int .u64 ({ m with win := if m.sav > m.win then m.sav else m.win }).rate, .int .u64 ({ m with win := if m.sav > m.win then m.sav else m.win }).win, .int .u64 ({ m with win := if m.sav > m.win then m.sav else m.win }).sav, .bool ({ m with win := if m.sav > m.win then m.sav else m.win }).rec', .bool ({ m with win := if m.sav > m.win then m.sav else m.win }).first, .int .u64 ({ m with win := if m.sav > m.win then m.sav else m.win }).til] rfl rfl rfl fun w h => ?_
    refine w_deref (w_setTo h b [.ptr (some ⟨n1, 0⟩), .ptr (some ⟨n2, 0⟩), .ptr (some ⟨n3, 0⟩), .ptr (some ⟨n4, 0⟩), .ptr (some ⟨n5, 0⟩), .ptr (some ⟨n6, 0⟩), .int .u64 (mBack m).mss, .int .i64 (mBack m).mode, .int .u64 (mBack m).rate, .int .u64 (mBack m).win, .int .u64 (mBack m).sav, .bool (mBack m).rec', .bool (mBack m).first, .int .u64 (mBack m).til] rfl rfl rfl fun w h => ?_)
    show Own w0 S R w (blk b [.ptr (some ⟨n1, 0⟩), .ptr (some ⟨n2, 0⟩), .ptr (some ⟨n3, 0⟩), .ptr (some ⟨n4, 0⟩), .ptr (some ⟨n5, 0⟩), .ptr (some ⟨n6, 0⟩), .int .u64 (mBack m).mss, .int .i64 (mBack m).mode, .int .u64 (mBack m).rate, .int .u64 (mBack m).win, .int .u64 (mBack m).sav, .bool (mBack m).rec', .bool (mBack m).first, .int .u64 (mBack m).til] ^ blk n1 [.int .u64 (mBack m).w.w, .int .u64 (mBack m).w.t0, .int .u64 (mBack m).w.v0, .int .u64 (mBack m).w.t1, .int .u64 (mBack m).w.v1, .int .u64 (mBack m).w.t2, .int .u64 (mBack m).w.v2, .int .u64 (mBack m).w.la] ^ blk n2 [.int .u64 (mBack m).r.n, .int .u64 (mBack m).r.nx] ^ blk n3 [.int .u64 (mBack m).p.best, .int .i64 (mBack m).p.n, .bool (mBack m).p.full] ^ blk n4 [.int .i64 (mBack m).c.ph, .int .u64 (mBack m).c.at'] ^ blk n5 [.int .u64 (mBack m).b.best, .int .u64 (mBack m).b.at', .bool (mBack m).b.on, .int .u64 (mBack m).b.til, .bool (mBack m).b.rd] ^ blk n6 [.bool (mBack m).q.use, .bool (mBack m).q.mea, .int .u64 (mBack m).q.bw, .int .i64 (mBack m).q.n, .int .u64 (mBack m).q.lost, .int .u64 (mBack m).q.t0, .int .u64 (mBack m).q.d0, .int .u64 (mBack m).q.l0])
    exact h.fin
theorem state_tri : Tri Try.prog N_bbr_Model_State [.lf (.ptr (some ⟨b, 0⟩))] [.agg K_i2u6b2] (blk b [.ptr (some ⟨n1, 0⟩), .ptr (some ⟨n2, 0⟩), .ptr (some ⟨n3, 0⟩), .ptr (some ⟨n4, 0⟩), .ptr (some ⟨n5, 0⟩), .ptr (some ⟨n6, 0⟩), .int .u64 m.mss, .int .i64 m.mode, .int .u64 m.rate, .int .u64 m.win, .int .u64 m.sav, .bool m.rec', .bool m.first, .int .u64 m.til] ^ blk n1 [.int .u64 m.w.w, .int .u64 m.w.t0, .int .u64 m.w.v0, .int .u64 m.w.t1, .int .u64 m.w.v1, .int .u64 m.w.t2, .int .u64 m.w.v2, .int .u64 m.w.la] ^ blk n2 [.int .u64 m.r.n, .int .u64 m.r.nx] ^ blk n3 [.int .u64 m.p.best, .int .i64 m.p.n, .bool m.p.full] ^ blk n4 [.int .i64 m.c.ph, .int .u64 m.c.at'] ^ blk n5 [.int .u64 m.b.best, .int .u64 m.b.at', .bool m.b.on, .int .u64 m.b.til, .bool m.b.rd] ^ blk n6 [.bool m.q.use, .bool m.q.mea, .int .u64 m.q.bw, .int .i64 m.q.n, .int .u64 m.q.lost, .int .u64 m.q.t0, .int .u64 m.q.d0, .int .u64 m.q.l0]) (fun r => pur (r = mSt m) (blk b [.ptr (some ⟨n1, 0⟩), .ptr (some ⟨n2, 0⟩), .ptr (some ⟨n3, 0⟩), .ptr (some ⟨n4, 0⟩), .ptr (some ⟨n5, 0⟩), .ptr (some ⟨n6, 0⟩), .int .u64 m.mss, .int .i64 m.mode, .int .u64 m.rate, .int .u64 m.win, .int .u64 m.sav, .bool m.rec', .bool m.first, .int .u64 m.til] ^ blk n1 [.int .u64 m.w.w, .int .u64 m.w.t0, .int .u64 m.w.v0, .int .u64 m.w.t1, .int .u64 m.w.v1, .int .u64 m.w.t2, .int .u64 m.w.v2, .int .u64 m.w.la] ^ blk n2 [.int .u64 m.r.n, .int .u64 m.r.nx] ^ blk n3 [.int .u64 m.p.best, .int .i64 m.p.n, .bool m.p.full] ^ blk n4 [.int .i64 m.c.ph, .int .u64 m.c.at'] ^ blk n5 [.int .u64 m.b.best, .int .u64 m.b.at', .bool m.b.on, .int .u64 m.b.til, .bool m.b.rd] ^ blk n6 [.bool m.q.use, .bool m.q.mea, .int .u64 m.q.bw, .int .i64 m.q.n, .int .u64 m.q.lost, .int .u64 m.q.t0, .int .u64 m.q.d0, .int .u64 m.q.l0])) :=
  tri_0 (call_bbr_Model_State _) fun w0 S R h => by
    unfold W_bbr_Model_State
    refine w_new h fun x w h => ?_
    refine w_ite (fun c => (by cases c)) fun _ => ?_
    repeat' (first
      | (refine w_drw h fun w h => ?_)
      | (refine w_deref ?_)
      | (refine w_ldAll h rfl ?_)
      | (refine w_ld h rfl ?_)
      | (refine w_chkAll h ?_)
      | (refine w_chk h rfl ?_)
      | (refine w_setAll h (by rfl) fun w h => ?_)
      | (refine w_new h fun n w h => ?_)
      | (refine w_leave h fun w h => ?_)
      | (refine w_set h rfl fun w h => ?_; dsimp only [upd, over] at h)
      | (refine w_call (bw_tri b n1 n2 n3 n4 n5 n6 m) h fun r w h => ?_; obtain ⟨hr, h⟩ := h.purP; (try dsimp only at hr h); try rw [hr])
      | (refine w_call (bbest_tri n5 m.b) h fun r w h => ?_; obtain ⟨hr, h⟩ := h.purP; (try dsimp only at hr h); try rw [hr])
      | (refine w_call (gainm_tri b n1 n2 n3 n4 n5 n6 m) h fun r w h => ?_; obtain ⟨hr, h⟩ := h.purP; (try dsimp only at hr h); try rw [hr])
      | (refine w_call (count_tri n2 m.r) h fun r w h => ?_; obtain ⟨hr, h⟩ := h.purP; (try dsimp only at hr h); try rw [hr])
      | (refine w_call (phase_tri n4 m.c) h fun r w h => ?_; obtain ⟨hr, h⟩ := h.purP; (try dsimp only at hr h); try rw [hr])
      | (refine w_call (full_tri n3 m.p) h fun r w h => ?_; obtain ⟨hr, h⟩ := h.purP; (try dsimp only at hr h); try rw [hr])
      | (refine w_call (pol_tri b n1 n2 n3 n4 n5 n6 m) h fun r w h => ?_; obtain ⟨hr, h⟩ := h.purP; (try dsimp only at hr h); try rw [hr]))
    exact Own.retP rfl h.fin
end
end BbrN

end Go.X
