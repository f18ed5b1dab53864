/- Contracts and plain facts: BbrU SockA. -/
import Derived.Test.YtkideobegadadaaBArith
import Derived.Test.YtkideobegadadaaBDelays
import Derived.Test.YtkideobegadadaaBTarget
import Derived.Test.YtkideobegadadaaBBbrMm
import Derived.Test.YtkideobegadadaaBBbrW
import Derived.Test.YtkideobegadadaaBBbrL
import Derived.Test.YtkideobegadadaaBBbrO
import Derived.Test.YtkideobegadadaaXw
import Derived.Test.YtkideobegadadaaK
import Derived.Test.YtkideobegadadaaF0
import Derived.Test.YtkideobegadadaaF1
set_option linter.unusedVariables false
set_option linter.unusedSimpArgs false
set_option linter.unusedSectionVars false
namespace Go.X
open Go.Proofs
namespace BbrU
open Arith ArithC _root_.Go.X.Target BbrM BbrMm BbrP BbrW BbrQ BbrL BbrN BbrO
section
variable (b n1 n2 n3 n4 n5 n6 : Nat) (m : Md) (hm : OkM m) (s : Sm) (hs : OkS s) (tso : Int) (ht : U tso)
include hm hs ht
theorem window_tri : Tri Try.prog N_bbr_Model_window [.lf (.ptr (some ⟨b, 0⟩)), .agg (Ks.mk K_u8b s), .lf (.int .u64 tso)] [] (blk b [.ptr (some ⟨n1, 0⟩), .ptr (some ⟨n2, 0⟩), .ptr (some ⟨n3, 0⟩), .ptr (some ⟨n4, 0⟩), .ptr (some ⟨n5, 0⟩), .ptr (some ⟨n6, 0⟩), .int .u64 m.mss, .int .i64 m.mode, .int .u64 m.rate, .int .u64 m.win, .int .u64 m.sav, .bool m.rec', .bool m.first, .int .u64 m.til] ^ blk n1 [.int .u64 m.w.w, .int .u64 m.w.t0, .int .u64 m.w.v0, .int .u64 m.w.t1, .int .u64 m.w.v1, .int .u64 m.w.t2, .int .u64 m.w.v2, .int .u64 m.w.la] ^ blk n2 [.int .u64 m.r.n, .int .u64 m.r.nx] ^ blk n3 [.int .u64 m.p.best, .int .i64 m.p.n, .bool m.p.full] ^ blk n4 [.int .i64 m.c.ph, .int .u64 m.c.at'] ^ blk n5 [.int .u64 m.b.best, .int .u64 m.b.at', .bool m.b.on, .int .u64 m.b.til, .bool m.b.rd] ^ blk n6 [.bool m.q.use, .bool m.q.mea, .int .u64 m.q.bw, .int .i64 m.q.n, .int .u64 m.q.lost, .int .u64 m.q.t0, .int .u64 m.q.d0, .int .u64 m.q.l0]) (fun _ => blk b [.ptr (some ⟨n1, 0⟩), .ptr (some ⟨n2, 0⟩), .ptr (some ⟨n3, 0⟩), .ptr (some ⟨n4, 0⟩), .ptr (some ⟨n5, 0⟩), .ptr (some ⟨n6, 0⟩), .int .u64 (mWindow m s tso).mss, .int .i64 (mWindow m s tso).mode, .int .u64 (mWindow m s tso).rate, .int .u64 (mWindow m s tso).win, .int .u64 (mWindow m s tso).sav, .bool (mWindow m s tso).rec', .bool (mWindow m s tso).first, .int .u64 (mWindow m s tso).til] ^ blk n1 [.int .u64 (mWindow m s tso).w.w, .int .u64 (mWindow m s tso).w.t0, .int .u64 (mWindow m s tso).w.v0, .int .u64 (mWindow m s tso).w.t1, .int .u64 (mWindow m s tso).w.v1, .int .u64 (mWindow m s tso).w.t2, .int .u64 (mWindow m s tso).w.v2, .int .u64 (mWindow m s tso).w.la] ^ blk n2 [.int .u64 (mWindow m s tso).r.n, .int .u64 (mWindow m s tso).r.nx] ^ blk n3 [.int .u64 (mWindow m s tso).p.best, .int .i64 (mWindow m s tso).p.n, .bool (mWindow m s tso).p.full] ^ blk n4 [.int .i64 (mWindow m s tso).c.ph, .int .u64 (mWindow m s tso).c.at'] ^ blk n5 [.int .u64 (mWindow m s tso).b.best, .int .u64 (mWindow m s tso).b.at', .bool (mWindow m s tso).b.on, .int .u64 (mWindow m s tso).b.til, .bool (mWindow m s tso).b.rd] ^ blk n6 [.bool (mWindow m s tso).q.use, .bool (mWindow m s tso).q.mea, .int .u64 (mWindow m s tso).q.bw, .int .i64 (mWindow m s tso).q.n, .int .u64 (mWindow m s tso).q.lost, .int .u64 (mWindow m s tso).q.t0, .int .u64 (mWindow m s tso).q.d0, .int .u64 (mWindow m s tso).q.l0]) :=
  tri_0 (call_bbr_Model_window _ _ _) fun w0 S R h => by
    unfold W_bbr_Model_window
    refine w_new h fun x w h => ?_
    have h : Own w0 S R w ((blk b [.ptr (some ⟨n1, 0⟩), .ptr (some ⟨n2, 0⟩), .ptr (some ⟨n3, 0⟩), .ptr (some ⟨n4, 0⟩), .ptr (some ⟨n5, 0⟩), .ptr (some ⟨n6, 0⟩), .int .u64 m.mss, .int .i64 m.mode, .int .u64 m.rate, .int .u64 m.win, .int .u64 m.sav, .bool m.rec', .bool m.first, .int .u64 m.til] ^ blk n1 [.int .u64 m.w.w, .int .u64 m.w.t0, .int .u64 m.w.v0, .int .u64 m.w.t1, .int .u64 m.w.v1, .int .u64 m.w.t2, .int .u64 m.w.v2, .int .u64 m.w.la] ^ blk n2 [.int .u64 m.r.n, .int .u64 m.r.nx] ^ blk n3 [.int .u64 m.p.best, .int .i64 m.p.n, .bool m.p.full] ^ blk n4 [.int .i64 m.c.ph, .int .u64 m.c.at'] ^ blk n5 [.int .u64 m.b.best, .int .u64 m.b.at', .bool m.b.on, .int .u64 m.b.til, .bool m.b.rd] ^ blk n6 [.bool m.q.use, .bool m.q.mea, .int .u64 m.q.bw, .int .i64 m.q.n, .int .u64 m.q.lost, .int .u64 m.q.t0, .int .u64 m.q.d0, .int .u64 m.q.l0]) ^ blk x (Ks.mk K_u8b s) ^ emp) := h.fin
    refine w_drw h fun w h => w_deref (w_ld h rfl (w_deref (w_ld h rfl (w_ld h rfl ?_))))
    refine w_call (satsub_tri m.win (sLost s) hm.win hs.lost) h fun r w h => ?_
    obtain ⟨hr, h⟩ := h.purP; rw [hr]
    refine w_chk h rfl ?_
    refine w_deref (w_setTo h b [.ptr (some ⟨n1, 0⟩), .ptr (some ⟨n2, 0⟩), .ptr (some ⟨n3, 0⟩), .ptr (some ⟨n4, 0⟩), .ptr (some ⟨n5, 0⟩), .ptr (some ⟨n6, 0⟩), .int .u64 (mW1 m s).mss, .int .i64 (mW1 m s).mode, .int .u64 (mW1 m s).rate, .int .u64 (mW1 m s).win, .int .u64 (mW1 m s).sav, .bool (mW1 m s).rec', .bool (mW1 m s).first, .int .u64 (mW1 m s).til] rfl rfl rfl fun w h => ?_)
    have e : mWindow m s tso = mW4 (mW3 (mW2 (mW1 m s) s tso)) := rfl
    rw [e]
    have h : Own w0 S R w ((blk b [.ptr (some ⟨n1, 0⟩), .ptr (some ⟨n2, 0⟩), .ptr (some ⟨n3, 0⟩), .ptr (some ⟨n4, 0⟩), .ptr (some ⟨n5, 0⟩), .ptr (some ⟨n6, 0⟩), .int .u64 (mW1 m s).mss, .int .i64 (mW1 m s).mode, .int .u64 (mW1 m s).rate, .int .u64 (mW1 m s).win, .int .u64 (mW1 m s).sav, .bool (mW1 m s).rec', .bool (mW1 m s).first, .int .u64 (mW1 m s).til] ^ blk n1 [.int .u64 (mW1 m s).w.w, .int .u64 (mW1 m s).w.t0, .int .u64 (mW1 m s).w.v0, .int .u64 (mW1 m s).w.t1, .int .u64 (mW1 m s).w.v1, .int .u64 (mW1 m s).w.t2, .int .u64 (mW1 m s).w.v2, .int .u64 (mW1 m s).w.la] ^ blk n2 [.int .u64 (mW1 m s).r.n, .int .u64 (mW1 m s).r.nx] ^ blk n3 [.int .u64 (mW1 m s).p.best, .int .i64 (mW1 m s).p.n, .bool (mW1 m s).p.full] ^ blk n4 [.int .i64 (mW1 m s).c.ph, .int .u64 (mW1 m s).c.at'] ^ blk n5 [.int .u64 (mW1 m s).b.best, .int .u64 (mW1 m s).b.at', .bool (mW1 m s).b.on, .int .u64 (mW1 m s).b.til, .bool (mW1 m s).b.rd] ^ blk n6 [.bool (mW1 m s).q.use, .bool (mW1 m s).q.mea, .int .u64 (mW1 m s).q.bw, .int .i64 (mW1 m s).q.n, .int .u64 (mW1 m s).q.lost, .int .u64 (mW1 m s).q.t0, .int .u64 (mW1 m s).q.d0, .int .u64 (mW1 m s).q.l0]) ^ blk x (Ks.mk K_u8b s)) := h.fin
    have hu := hm.w1 hs
    generalize mW1 m s = u at *
    refine w_join h (fun _ => (blk b [.ptr (some ⟨n1, 0⟩), .ptr (some ⟨n2, 0⟩), .ptr (some ⟨n3, 0⟩), .ptr (some ⟨n4, 0⟩), .ptr (some ⟨n5, 0⟩), .ptr (some ⟨n6, 0⟩), .int .u64 (mW2 u s tso).mss, .int .i64 (mW2 u s tso).mode, .int .u64 (mW2 u s tso).rate, .int .u64 (mW2 u s tso).win, .int .u64 (mW2 u s tso).sav, .bool (mW2 u s tso).rec', .bool (mW2 u s tso).first, .int .u64 (mW2 u s tso).til] ^ blk n1 [.int .u64 (mW2 u s tso).w.w, .int .u64 (mW2 u s tso).w.t0, .int .u64 (mW2 u s tso).w.v0, .int .u64 (mW2 u s tso).w.t1, .int .u64 (mW2 u s tso).w.v1, .int .u64 (mW2 u s tso).w.t2, .int .u64 (mW2 u s tso).w.v2, .int .u64 (mW2 u s tso).w.la] ^ blk n2 [.int .u64 (mW2 u s tso).r.n, .int .u64 (mW2 u s tso).r.nx] ^ blk n3 [.int .u64 (mW2 u s tso).p.best, .int .i64 (mW2 u s tso).p.n, .bool (mW2 u s tso).p.full] ^ blk n4 [.int .i64 (mW2 u s tso).c.ph, .int .u64 (mW2 u s tso).c.at'] ^ blk n5 [.int .u64 (mW2 u s tso).b.best, .int .u64 (mW2 u s tso).b.at', .bool (mW2 u s tso).b.on, .int .u64 (mW2 u s tso).b.til, .bool (mW2 u s tso).b.rd] ^ blk n6 [.bool (mW2 u s tso).q.use, .bool (mW2 u s tso).q.mea, .int .u64 (mW2 u s tso).q.bw, .int .i64 (mW2 u s tso).q.n, .int .u64 (mW2 u s tso).q.lost, .int .u64 (mW2 u s tso).q.t0, .int .u64 (mW2 u s tso).q.d0, .int .u64 (mW2 u s tso).q.l0]) ^ blk x (Ks.mk K_u8b s)) (fun _ => True) (fun _ w _ h => ?_) ?_
    · have hv := hu.w2 hs ht
      generalize mW2 u s tso = v at *
      refine w_drw h fun w h => w_deref (w_ld h rfl ?_)
      refine w_call (floor_tri b n1 n2 n3 n4 n5 n6 v hv) h fun r w h => ?_
      obtain ⟨hr, h⟩ := h.purP; rw [hr]
      refine w_chk h rfl ?_
      refine w_deref (w_setTo h b [.ptr (some ⟨n1, 0⟩), .ptr (some ⟨n2, 0⟩), .ptr (some ⟨n3, 0⟩), .ptr (some ⟨n4, 0⟩), .ptr (some ⟨n5, 0⟩), .ptr (some ⟨n6, 0⟩), .int .u64 (mW3 v).mss, .int .i64 (mW3 v).mode, .int .u64 (mW3 v).rate, .int .u64 (mW3 v).win, .int .u64 (mW3 v).sav, .bool (mW3 v).rec', .bool (mW3 v).first, .int .u64 (mW3 v).til] rfl rfl rfl fun w h => ?_)
      refine w_deref (w_ld h rfl ?_)
      have h : Own w0 S R w ((blk b [.ptr (some ⟨n1, 0⟩), .ptr (some ⟨n2, 0⟩), .ptr (some ⟨n3, 0⟩), .ptr (some ⟨n4, 0⟩), .ptr (some ⟨n5, 0⟩), .ptr (some ⟨n6, 0⟩), .int .u64 (mW3 v).mss, .int .i64 (mW3 v).mode, .int .u64 (mW3 v).rate, .int .u64 (mW3 v).win, .int .u64 (mW3 v).sav, .bool (mW3 v).rec', .bool (mW3 v).first, .int .u64 (mW3 v).til] ^ blk n1 [.int .u64 (mW3 v).w.w, .int .u64 (mW3 v).w.t0, .int .u64 (mW3 v).w.v0, .int .u64 (mW3 v).w.t1, .int .u64 (mW3 v).w.v1, .int .u64 (mW3 v).w.t2, .int .u64 (mW3 v).w.v2, .int .u64 (mW3 v).w.la] ^ blk n2 [.int .u64 (mW3 v).r.n, .int .u64 (mW3 v).r.nx] ^ blk n3 [.int .u64 (mW3 v).p.best, .int .i64 (mW3 v).p.n, .bool (mW3 v).p.full] ^ blk n4 [.int .i64 (mW3 v).c.ph, .int .u64 (mW3 v).c.at'] ^ blk n5 [.int .u64 (mW3 v).b.best, .int .u64 (mW3 v).b.at', .bool (mW3 v).b.on, .int .u64 (mW3 v).b.til, .bool (mW3 v).b.rd] ^ blk n6 [.bool (mW3 v).q.use, .bool (mW3 v).q.mea, .int .u64 (mW3 v).q.bw, .int .i64 (mW3 v).q.n, .int .u64 (mW3 v).q.lost, .int .u64 (mW3 v).q.t0, .int .u64 (mW3 v).q.d0, .int .u64 (mW3 v).q.l0]) ^ blk x (Ks.mk K_u8b s)) := h.fin
      have hy := hv.w3
      generalize mW3 v = y at *
      refine w_ite (fun c => ?_) fun c => ?_
      · have c : y.mode = 3 := by simpa using c
        have e : mW4 y = { y with win := mFloor y } := by unfold mW4; rw [if_pos c]
        rw [e]
        refine w_call (floor_tri b n1 n2 n3 n4 n5 n6 y hy) h fun r w h => ?_
        obtain ⟨hr, h⟩ := h.purP; rw [hr]
        refine w_deref (w_setTo h b [.ptr (some ⟨n1, 0⟩), .ptr (some ⟨n2, 0⟩), .ptr (some ⟨n3, 0⟩), .ptr (some ⟨n4, 0⟩), .ptr (some ⟨n5, 0⟩), .ptr (some ⟨n6, 0⟩), .int .u64 ({ y with win := mFloor y }).mss, .int .i64 ({ y with win := mFloor y }).mode, .int .u64 ({ y with win := mFloor y }).rate, .int .u64 ({ y with win := mFloor y }).win, .int .u64 ({ y with win := mFloor y }).sav, .bool ({ y with win := mFloor y }).rec', .bool ({ y with win := mFloor y }).first, .int .u64 ({ y with win := mFloor y }).til] rfl rfl rfl fun w h => ?_)
        exact h.fin
      · have c : ¬ y.mode = 3 := by simpa using c
        have e : mW4 y = y := by unfold mW4; rw [if_neg c]
        rw [e]
        exact h.fin
    · refine w_deref (w_ld h rfl ?_)
      refine w_ite (fun c => ?_) fun c => ?_
      · have c : u.first = true := c
        have e : mW2 u s tso = { u with win := if addI (sFli s) (sAck s) > u.win then addI (sFli s) (sAck s) else u.win } := by unfold mW2; rw [if_pos c]
        rw [e]
        refine w_drw h fun w h => w_deref (w_ld h rfl (w_ld h rfl (w_ld h rfl ?_)))
        refine w_call (satadd_tri (sFli s) (sAck s) hs.fli hs.ack) (h.le (star_mono Le.rfl (star_emp _))) fun r w h => ?_
        obtain ⟨hr, h⟩ := h.purP; rw [hr]
        refine w_chk h rfl (w_deref ?_)
        refine w_setTo h b [.ptr (some ⟨n1, 0⟩), .ptr (some ⟨n2, 0⟩), .ptr (some ⟨n3, 0⟩), .ptr (some ⟨n4, 0⟩), .ptr (some ⟨n5, 0⟩), .ptr (some ⟨n6, 0⟩), .int .u64 ({ u with win := if addI (sFli s) (sAck s) > u.win then addI (sFli s) (sAck s) else u.win }).mss, .int .i64 ({ u with win := if addI (sFli s) (sAck s) > u.win then addI (sFli s) (sAck s) else u.win }).mode, .int .u64 ({ u with win := if addI (sFli s) (sAck s) > u.win then addI (sFli s) (sAck s) else u.win }).rate, .int .u64 ({ u with win := if addI (sFli s) (sAck s) > u.win then addI (sFli s) (sAck s) else u.win }).win, .int .u64 ({ u with win := if addI (sFli s) (sAck s) > u.win then addI (sFli s) (sAck s) else u.win }).sav, .bool ({ u with win := if addI (sFli s) (sAck s) > u.win then addI (sFli s) (sAck s) else u.win }).rec', .bool ({ u with win := if addI (sFli s) (sAck s) > u.win then addI (sFli s) (sAck s) else u.win }).first, .int .u64 ({ u with win := if addI (sFli s) (sAck s) > u.win then addI (sFli s) (sAck s) else u.win }).til] rfl rfl rfl fun w h => ?_
        exact ⟨trivial, h.fin⟩
      have c : ¬ u.first = true := by rw [show u.first = false from c]; simp
      refine w_ld h rfl ?_
      refine w_ite (fun c2 => ?_) fun c2 => ?_
      · have c2 : sAck s > 0 := by simpa using c2
        have e : mW2 u s tso = if u.p.full then { u with win := if mTar u tso < addI u.win (sAck s) then mTar u tso else addI u.win (sAck s) }
            else if u.win < mTar u tso ∨ sDel s < 10 * u.mss then { u with win := addI u.win (sAck s) } else u := by unfold mW2; rw [if_neg c, if_pos c2]
        rw [e]
        have h : Own w0 S R w ((blk b [.ptr (some ⟨n1, 0⟩), .ptr (some ⟨n2, 0⟩), .ptr (some ⟨n3, 0⟩), .ptr (some ⟨n4, 0⟩), .ptr (some ⟨n5, 0⟩), .ptr (some ⟨n6, 0⟩), .int .u64 u.mss, .int .i64 u.mode, .int .u64 u.rate, .int .u64 u.win, .int .u64 u.sav, .bool u.rec', .bool u.first, .int .u64 u.til] ^ blk n1 [.int .u64 u.w.w, .int .u64 u.w.t0, .int .u64 u.w.v0, .int .u64 u.w.t1, .int .u64 u.w.v1, .int .u64 u.w.t2, .int .u64 u.w.v2, .int .u64 u.w.la] ^ blk n2 [.int .u64 u.r.n, .int .u64 u.r.nx] ^ blk n3 [.int .u64 u.p.best, .int .i64 u.p.n, .bool u.p.full] ^ blk n4 [.int .i64 u.c.ph, .int .u64 u.c.at'] ^ blk n5 [.int .u64 u.b.best, .int .u64 u.b.at', .bool u.b.on, .int .u64 u.b.til, .bool u.b.rd] ^ blk n6 [.bool u.q.use, .bool u.q.mea, .int .u64 u.q.bw, .int .i64 u.q.n, .int .u64 u.q.lost, .int .u64 u.q.t0, .int .u64 u.q.d0, .int .u64 u.q.l0]) ^ blk x (Ks.mk K_u8b s) ^ emp) := h.le (star_mono Le.rfl (star_emp _))
        repeat' (first
          | (refine w_drw h fun w h => ?_)
          | (refine w_deref ?_)
          | (refine w_ldAll h rfl ?_)
          | (refine w_ld h rfl ?_)
          | (refine w_chkAll h ?_)
          | (refine w_chk h rfl ?_)
          | (refine w_setAll h (by rfl) fun w h => ?_)
          | (refine w_new h fun n w h => ?_)
          | (refine w_leave h fun w h => ?_)
          | (refine w_set h rfl fun w h => ?_; dsimp only [upd, over] at h)
          | (refine w_call (bw_tri b n1 n2 n3 n4 n5 n6 u) h fun r w h => ?_; obtain ⟨hr, h⟩ := h.purP; (try dsimp only at hr h); try rw [hr])
          | (refine w_call (bbest_tri n5 u.b) h fun r w h => ?_; obtain ⟨hr, h⟩ := h.purP; (try dsimp only at hr h); try rw [hr])
          | (refine w_call (wide_tri' b n1 n2 n3 n4 n5 n6 u) h fun r w h => ?_; obtain ⟨hr, h⟩ := h.purP; (try dsimp only at hr h); try rw [hr])
          | (refine w_call (Target.win_tri (mBw u) u.b.best (mWide u) tso u.mss hu.bw hu.b.best (U_wide u) ht hu.mssU) h fun r w h => ?_; obtain ⟨hr, h⟩ := h.purP; (try dsimp only at hr h); try rw [hr])
          | (refine w_call (full_tri n3 u.p) h fun r w h => ?_; obtain ⟨hr, h⟩ := h.purP; (try dsimp only at hr h); try rw [hr]))
        refine w_ite (fun c3 => ?_) fun c3 => ?_
        · have c3 : u.p.full = true := c3
          rw [if_pos c3]
          refine w_drw h fun w h => w_deref (w_ld h rfl (w_ld h rfl ?_))
          refine w_call (satadd_tri u.win (sAck s) hu.win hs.ack) h fun r w h => ?_
          obtain ⟨hr, h⟩ := h.purP; rw [hr]
          refine w_deref ?_
          refine w_setTo h b [.ptr (some ⟨n1, 0⟩), .ptr (some ⟨n2, 0⟩), .ptr (some ⟨n3, 0⟩), .ptr (some ⟨n4, 0⟩), .ptr (some ⟨n5, 0⟩), .ptr (some ⟨n6, 0⟩), .int .u64 ({ u with win := if mTar u tso < addI u.win (sAck s) then mTar u tso else addI u.win (sAck s) }).mss, .int .i64 ({ u with win := if mTar u tso < addI u.win (sAck s) then mTar u tso else addI u.win (sAck s) }).mode, .int .u64 ({ u with win := if mTar u tso < addI u.win (sAck s) then mTar u tso else addI u.win (sAck s) }).rate, .int .u64 ({ u with win := if mTar u tso < addI u.win (sAck s) then mTar u tso else addI u.win (sAck s) }).win, .int .u64 ({ u with win := if mTar u tso < addI u.win (sAck s) then mTar u tso else addI u.win (sAck s) }).sav, .bool ({ u with win := if mTar u tso < addI u.win (sAck s) then mTar u tso else addI u.win (sAck s) }).rec', .bool ({ u with win := if mTar u tso < addI u.win (sAck s) then mTar u tso else addI u.win (sAck s) }).first, .int .u64 ({ u with win := if mTar u tso < addI u.win (sAck s) then mTar u tso else addI u.win (sAck s) }).til] rfl rfl rfl fun w h => ?_
          exact ⟨trivial, h.fin⟩
        have c3 : ¬ u.p.full = true := by rw [show u.p.full = false from c3]; simp
        rw [if_neg c3]
        have hms := hu.mss
        have h : Own w0 S R _ ((blk b [.ptr (some ⟨n1, 0⟩), .ptr (some ⟨n2, 0⟩), .ptr (some ⟨n3, 0⟩), .ptr (some ⟨n4, 0⟩), .ptr (some ⟨n5, 0⟩), .ptr (some ⟨n6, 0⟩), .int .u64 u.mss, .int .i64 u.mode, .int .u64 u.rate, .int .u64 u.win, .int .u64 u.sav, .bool u.rec', .bool u.first, .int .u64 u.til] ^ blk n1 [.int .u64 u.w.w, .int .u64 u.w.t0, .int .u64 u.w.v0, .int .u64 u.w.t1, .int .u64 u.w.v1, .int .u64 u.w.t2, .int .u64 u.w.v2, .int .u64 u.w.la] ^ blk n2 [.int .u64 u.r.n, .int .u64 u.r.nx] ^ blk n3 [.int .u64 u.p.best, .int .i64 u.p.n, .bool u.p.full] ^ blk n4 [.int .i64 u.c.ph, .int .u64 u.c.at'] ^ blk n5 [.int .u64 u.b.best, .int .u64 u.b.at', .bool u.b.on, .int .u64 u.b.til, .bool u.b.rd] ^ blk n6 [.bool u.q.use, .bool u.q.mea, .int .u64 u.q.bw, .int .i64 u.q.n, .int .u64 u.q.lost, .int .u64 u.q.t0, .int .u64 u.q.d0, .int .u64 u.q.l0]) ^ blk x (Ks.mk K_u8b s) ^ emp) := h.fin
        refine w_join h (fun _ => (blk b [.ptr (some ⟨n1, 0⟩), .ptr (some ⟨n2, 0⟩), .ptr (some ⟨n3, 0⟩), .ptr (some ⟨n4, 0⟩), .ptr (some ⟨n5, 0⟩), .ptr (some ⟨n6, 0⟩), .int .u64 u.mss, .int .i64 u.mode, .int .u64 u.rate, .int .u64 u.win, .int .u64 u.sav, .bool u.rec', .bool u.first, .int .u64 u.til] ^ blk n1 [.int .u64 u.w.w, .int .u64 u.w.t0, .int .u64 u.w.v0, .int .u64 u.w.t1, .int .u64 u.w.v1, .int .u64 u.w.t2, .int .u64 u.w.v2, .int .u64 u.w.la] ^ blk n2 [.int .u64 u.r.n, .int .u64 u.r.nx] ^ blk n3 [.int .u64 u.p.best, .int .i64 u.p.n, .bool u.p.full] ^ blk n4 [.int .i64 u.c.ph, .int .u64 u.c.at'] ^ blk n5 [.int .u64 u.b.best, .int .u64 u.b.at', .bool u.b.on, .int .u64 u.b.til, .bool u.b.rd] ^ blk n6 [.bool u.q.use, .bool u.q.mea, .int .u64 u.q.bw, .int .i64 u.q.n, .int .u64 u.q.lost, .int .u64 u.q.t0, .int .u64 u.q.d0, .int .u64 u.q.l0]) ^ blk x (Ks.mk K_u8b s) ^ emp) (fun y : Bool => y = decide (u.win < mTar u tso ∨ sDel s < 10 * u.mss)) (fun (y : Bool) w hy h => ?_) ?_
        · rw [hy]
          refine w_ite (fun c4 => ?_) fun c4 => ?_
          · have c4 : u.win < mTar u tso ∨ sDel s < 10 * u.mss := by simpa using c4
            rw [if_pos c4]
            refine w_drw h fun w h => w_deref (w_ld h rfl (w_ld h rfl ?_))
            refine w_call (satadd_tri u.win (sAck s) hu.win hs.ack) h fun r w h => ?_
            obtain ⟨hr, h⟩ := h.purP; rw [hr]
            refine w_deref ?_
            refine w_setTo h b [.ptr (some ⟨n1, 0⟩), .ptr (some ⟨n2, 0⟩), .ptr (some ⟨n3, 0⟩), .ptr (some ⟨n4, 0⟩), .ptr (some ⟨n5, 0⟩), .ptr (some ⟨n6, 0⟩), .int .u64 ({ u with win := addI u.win (sAck s) }).mss, .int .i64 ({ u with win := addI u.win (sAck s) }).mode, .int .u64 ({ u with win := addI u.win (sAck s) }).rate, .int .u64 ({ u with win := addI u.win (sAck s) }).win, .int .u64 ({ u with win := addI u.win (sAck s) }).sav, .bool ({ u with win := addI u.win (sAck s) }).rec', .bool ({ u with win := addI u.win (sAck s) }).first, .int .u64 ({ u with win := addI u.win (sAck s) }).til] rfl rfl rfl fun w h => ?_
            exact ⟨trivial, h.fin⟩
          · have c4 : ¬ (u.win < mTar u tso ∨ sDel s < 10 * u.mss) := by simpa using c4
            rw [if_neg c4]
            exact ⟨trivial, h.fin⟩
        · refine w_drw h fun w h => w_deref (w_ld h rfl ?_)
          refine w_ite (fun c4 => ?_) fun c4 => ?_
          · have c4 : u.win < mTar u tso := of_decide_eq_true c4
            exact ⟨by simp [c4], h⟩
          · have c4 : ¬ u.win < mTar u tso := of_decide_eq_false c4
            refine w_ld h rfl (w_deref (w_ld h rfl ?_))
            rw [wu (n := 10 * u.mss) (by omega) (by omega)]
            exact ⟨by rw [Bool.eq_iff_iff]; simp [c4], h⟩
      · have c2 : ¬ sAck s > 0 := by simpa using c2
        have e : mW2 u s tso = u := by unfold mW2; rw [if_neg c, if_neg c2]
        rw [e]
        exact ⟨trivial, h⟩
theorem upd_tri : Tri Try.prog N_bbr_Model_Update [.lf (.ptr (some ⟨b, 0⟩)), .agg (Ks.mk K_u8b s), .lf (.int .u64 tso)] [.agg K_i2u6b2] (blk b [.ptr (some ⟨n1, 0⟩), .ptr (some ⟨n2, 0⟩), .ptr (some ⟨n3, 0⟩), .ptr (some ⟨n4, 0⟩), .ptr (some ⟨n5, 0⟩), .ptr (some ⟨n6, 0⟩), .int .u64 m.mss, .int .i64 m.mode, .int .u64 m.rate, .int .u64 m.win, .int .u64 m.sav, .bool m.rec', .bool m.first, .int .u64 m.til] ^ blk n1 [.int .u64 m.w.w, .int .u64 m.w.t0, .int .u64 m.w.v0, .int .u64 m.w.t1, .int .u64 m.w.v1, .int .u64 m.w.t2, .int .u64 m.w.v2, .int .u64 m.w.la] ^ blk n2 [.int .u64 m.r.n, .int .u64 m.r.nx] ^ blk n3 [.int .u64 m.p.best, .int .i64 m.p.n, .bool m.p.full] ^ blk n4 [.int .i64 m.c.ph, .int .u64 m.c.at'] ^ blk n5 [.int .u64 m.b.best, .int .u64 m.b.at', .bool m.b.on, .int .u64 m.b.til, .bool m.b.rd] ^ blk n6 [.bool m.q.use, .bool m.q.mea, .int .u64 m.q.bw, .int .i64 m.q.n, .int .u64 m.q.lost, .int .u64 m.q.t0, .int .u64 m.q.d0, .int .u64 m.q.l0]) (fun r => pur (r = mSt (mUpd m s tso)) (blk b [.ptr (some ⟨n1, 0⟩), .ptr (some ⟨n2, 0⟩), .ptr (some ⟨n3, 0⟩), .ptr (some ⟨n4, 0⟩), .ptr (some ⟨n5, 0⟩), .ptr (some ⟨n6, 0⟩), .int .u64 (mUpd m s tso).mss, .int .i64 (mUpd m s tso).mode, .int .u64 (mUpd m s tso).rate, .int .u64 (mUpd m s tso).win, .int .u64 (mUpd m s tso).sav, .bool (mUpd m s tso).rec', .bool (mUpd m s tso).first, .int .u64 (mUpd m s tso).til] ^ blk n1 [.int .u64 (mUpd m s tso).w.w, .int .u64 (mUpd m s tso).w.t0, .int .u64 (mUpd m s tso).w.v0, .int .u64 (mUpd m s tso).w.t1, .int .u64 (mUpd m s tso).w.v1, .int .u64 (mUpd m s tso).w.t2, .int .u64 (mUpd m s tso).w.v2, .int .u64 (mUpd m s tso).w.la] ^ blk n2 [.int .u64 (mUpd m s tso).r.n, .int .u64 (mUpd m s tso).r.nx] ^ blk n3 [.int .u64 (mUpd m s tso).p.best, .int .i64 (mUpd m s tso).p.n, .bool (mUpd m s tso).p.full] ^ blk n4 [.int .i64 (mUpd m s tso).c.ph, .int .u64 (mUpd m s tso).c.at'] ^ blk n5 [.int .u64 (mUpd m s tso).b.best, .int .u64 (mUpd m s tso).b.at', .bool (mUpd m s tso).b.on, .int .u64 (mUpd m s tso).b.til, .bool (mUpd m s tso).b.rd] ^ blk n6 [.bool (mUpd m s tso).q.use, .bool (mUpd m s tso).q.mea, .int .u64 (mUpd m s tso).q.bw, .int .i64 (mUpd m s tso).q.n, .int .u64 (mUpd m s tso).q.lost, .int .u64 (mUpd m s tso).q.t0, .int .u64 (mUpd m s tso).q.d0, .int .u64 (mUpd m s tso).q.l0])) :=
  tri_0 (call_bbr_Model_Update _ _ _) fun w0 S R h => by
    unfold W_bbr_Model_Update
    refine w_new h fun x w h => ?_
    refine w_new h fun y w h => ?_
    refine w_ite (fun c => (by cases c)) fun _ => ?_
    have h : Own w0 S R w ((blk b [.ptr (some ⟨n1, 0⟩), .ptr (some ⟨n2, 0⟩), .ptr (some ⟨n3, 0⟩), .ptr (some ⟨n4, 0⟩), .ptr (some ⟨n5, 0⟩), .ptr (some ⟨n6, 0⟩), .int .u64 m.mss, .int .i64 m.mode, .int .u64 m.rate, .int .u64 m.win, .int .u64 m.sav, .bool m.rec', .bool m.first, .int .u64 m.til] ^ blk n1 [.int .u64 m.w.w, .int .u64 m.w.t0, .int .u64 m.w.v0, .int .u64 m.w.t1, .int .u64 m.w.v1, .int .u64 m.w.t2, .int .u64 m.w.v2, .int .u64 m.w.la] ^ blk n2 [.int .u64 m.r.n, .int .u64 m.r.nx] ^ blk n3 [.int .u64 m.p.best, .int .i64 m.p.n, .bool m.p.full] ^ blk n4 [.int .i64 m.c.ph, .int .u64 m.c.at'] ^ blk n5 [.int .u64 m.b.best, .int .u64 m.b.at', .bool m.b.on, .int .u64 m.b.til, .bool m.b.rd] ^ blk n6 [.bool m.q.use, .bool m.q.mea, .int .u64 m.q.bw, .int .i64 m.q.n, .int .u64 m.q.lost, .int .u64 m.q.t0, .int .u64 m.q.d0, .int .u64 m.q.l0]) ^ blk x (Ks.mk K_u8b s) ^ blk y [.int .i64 0, .int .i64 0, .int .u64 0, .int .u64 0, .int .u64 0, .int .u64 0, .int .u64 0, .int .u64 0, .bool false, .bool false]) := h.fin
    refine w_drw h fun w h => w_ldAll (x := s) h rfl (w_deref (w_ld h rfl ?_))
    refine w_call (rupd_tri n2 m.r s) h fun r w h => ?_
    obtain ⟨hr, h⟩ := h.purP; rw [hr]
    refine w_drw h fun w h => w_ldAll (x := s) h rfl (w_deref (w_ld h rfl ?_))
    refine w_call (lupd_tri n6 m.q hm.q (rB m.r s) s hs) h fun _ w h => ?_
    refine w_ldAll (x := s) h rfl ?_
    have e : mUpd m s tso = mU3 (mU2 (mU1 m s) (rB m.r s) s) (rB m.r s) s tso := rfl
    rw [e]
    have h : Own w0 S R w ((blk b [.ptr (some ⟨n1, 0⟩), .ptr (some ⟨n2, 0⟩), .ptr (some ⟨n3, 0⟩), .ptr (some ⟨n4, 0⟩), .ptr (some ⟨n5, 0⟩), .ptr (some ⟨n6, 0⟩), .int .u64 (mU1 m s).mss, .int .i64 (mU1 m s).mode, .int .u64 (mU1 m s).rate, .int .u64 (mU1 m s).win, .int .u64 (mU1 m s).sav, .bool (mU1 m s).rec', .bool (mU1 m s).first, .int .u64 (mU1 m s).til] ^ blk n1 [.int .u64 (mU1 m s).w.w, .int .u64 (mU1 m s).w.t0, .int .u64 (mU1 m s).w.v0, .int .u64 (mU1 m s).w.t1, .int .u64 (mU1 m s).w.v1, .int .u64 (mU1 m s).w.t2, .int .u64 (mU1 m s).w.v2, .int .u64 (mU1 m s).w.la] ^ blk n2 [.int .u64 (mU1 m s).r.n, .int .u64 (mU1 m s).r.nx] ^ blk n3 [.int .u64 (mU1 m s).p.best, .int .i64 (mU1 m s).p.n, .bool (mU1 m s).p.full] ^ blk n4 [.int .i64 (mU1 m s).c.ph, .int .u64 (mU1 m s).c.at'] ^ blk n5 [.int .u64 (mU1 m s).b.best, .int .u64 (mU1 m s).b.at', .bool (mU1 m s).b.on, .int .u64 (mU1 m s).b.til, .bool (mU1 m s).b.rd] ^ blk n6 [.bool (mU1 m s).q.use, .bool (mU1 m s).q.mea, .int .u64 (mU1 m s).q.bw, .int .i64 (mU1 m s).q.n, .int .u64 (mU1 m s).q.lost, .int .u64 (mU1 m s).q.t0, .int .u64 (mU1 m s).q.d0, .int .u64 (mU1 m s).q.l0]) ^ blk x (Ks.mk K_u8b s) ^ blk y [.int .i64 0, .int .i64 0, .int .u64 0, .int .u64 0, .int .u64 0, .int .u64 0, .int .u64 0, .int .u64 0, .bool false, .bool false]) := h.fin
    have h1 := hm.u1 hs
    generalize rB m.r s = o at *
    generalize mU1 m s = u at *
    refine w_call (meas_tri b n1 n2 n3 n4 n5 n6 u h1 s hs) h fun _ w h => ?_
    have h2 := h1.meas hs
    have e : mU2 u o s = mLook (mM2 (mM1 (mPipe (mCyc (mMeas u s) s) o s)) s) s o := rfl
    rw [e]
    generalize mMeas u s = v at *
    have h : Own w0 S R w ((blk b [.ptr (some ⟨n1, 0⟩), .ptr (some ⟨n2, 0⟩), .ptr (some ⟨n3, 0⟩), .ptr (some ⟨n4, 0⟩), .ptr (some ⟨n5, 0⟩), .ptr (some ⟨n6, 0⟩), .int .u64 v.mss, .int .i64 v.mode, .int .u64 v.rate, .int .u64 v.win, .int .u64 v.sav, .bool v.rec', .bool v.first, .int .u64 v.til] ^ blk n1 [.int .u64 v.w.w, .int .u64 v.w.t0, .int .u64 v.w.v0, .int .u64 v.w.t1, .int .u64 v.w.v1, .int .u64 v.w.t2, .int .u64 v.w.v2, .int .u64 v.w.la] ^ blk n2 [.int .u64 v.r.n, .int .u64 v.r.nx] ^ blk n3 [.int .u64 v.p.best, .int .i64 v.p.n, .bool v.p.full] ^ blk n4 [.int .i64 v.c.ph, .int .u64 v.c.at'] ^ blk n5 [.int .u64 v.b.best, .int .u64 v.b.at', .bool v.b.on, .int .u64 v.b.til, .bool v.b.rd] ^ blk n6 [.bool v.q.use, .bool v.q.mea, .int .u64 v.q.bw, .int .i64 v.q.n, .int .u64 v.q.lost, .int .u64 v.q.t0, .int .u64 v.q.d0, .int .u64 v.q.l0]) ^ blk x (Ks.mk K_u8b s) ^ blk y [.int .i64 0, .int .i64 0, .int .u64 0, .int .u64 0, .int .u64 0, .int .u64 0, .int .u64 0, .int .u64 0, .bool false, .bool false]) := h.fin
    refine w_join h (fun _ => (blk b [.ptr (some ⟨n1, 0⟩), .ptr (some ⟨n2, 0⟩), .ptr (some ⟨n3, 0⟩), .ptr (some ⟨n4, 0⟩), .ptr (some ⟨n5, 0⟩), .ptr (some ⟨n6, 0⟩), .int .u64 (mCyc v s).mss, .int .i64 (mCyc v s).mode, .int .u64 (mCyc v s).rate, .int .u64 (mCyc v s).win, .int .u64 (mCyc v s).sav, .bool (mCyc v s).rec', .bool (mCyc v s).first, .int .u64 (mCyc v s).til] ^ blk n1 [.int .u64 (mCyc v s).w.w, .int .u64 (mCyc v s).w.t0, .int .u64 (mCyc v s).w.v0, .int .u64 (mCyc v s).w.t1, .int .u64 (mCyc v s).w.v1, .int .u64 (mCyc v s).w.t2, .int .u64 (mCyc v s).w.v2, .int .u64 (mCyc v s).w.la] ^ blk n2 [.int .u64 (mCyc v s).r.n, .int .u64 (mCyc v s).r.nx] ^ blk n3 [.int .u64 (mCyc v s).p.best, .int .i64 (mCyc v s).p.n, .bool (mCyc v s).p.full] ^ blk n4 [.int .i64 (mCyc v s).c.ph, .int .u64 (mCyc v s).c.at'] ^ blk n5 [.int .u64 (mCyc v s).b.best, .int .u64 (mCyc v s).b.at', .bool (mCyc v s).b.on, .int .u64 (mCyc v s).b.til, .bool (mCyc v s).b.rd] ^ blk n6 [.bool (mCyc v s).q.use, .bool (mCyc v s).q.mea, .int .u64 (mCyc v s).q.bw, .int .i64 (mCyc v s).q.n, .int .u64 (mCyc v s).q.lost, .int .u64 (mCyc v s).q.t0, .int .u64 (mCyc v s).q.d0, .int .u64 (mCyc v s).q.l0]) ^ blk x (Ks.mk K_u8b s) ^ blk y [.int .i64 0, .int .i64 0, .int .u64 0, .int .u64 0, .int .u64 0, .int .u64 0, .int .u64 0, .int .u64 0, .bool false, .bool false]) (fun _ => True) (fun _ w _ h => ?_) ?_
    · have h3 := h2.cyc hs
      generalize mCyc v s = z at *
      repeat' (first
        | (refine w_drw h fun w h => ?_)
        | (refine w_deref ?_)
        | (refine w_ldAll h rfl ?_)
        | (refine w_ld h rfl ?_)
        | (refine w_chkAll h ?_)
        | (refine w_chk h rfl ?_)
        | (refine w_setAll h (by rfl) fun w h => ?_)
        | (refine w_new h fun n w h => ?_)
        | (refine w_leave h fun w h => ?_)
        | (refine w_set h rfl fun w h => ?_; dsimp only [upd, over] at h)
        | (refine w_call (best_tri n1 z.w) h fun r w h => ?_; obtain ⟨hr, h⟩ := h.purP; (try dsimp only at hr h); try rw [hr])
        | (refine w_call (pupd_tri n3 z.p h3.p o (sLim s) z.w.v0 h3.w.v0) h fun r w h => ?_; obtain ⟨hr, h⟩ := h.purP; (try dsimp only at hr h); try rw [hr]))
      have h4 : OkM (mPipe z o s) := h3.pipe
      have h : Own w0 S R _ ((blk b [.ptr (some ⟨n1, 0⟩), .ptr (some ⟨n2, 0⟩), .ptr (some ⟨n3, 0⟩), .ptr (some ⟨n4, 0⟩), .ptr (some ⟨n5, 0⟩), .ptr (some ⟨n6, 0⟩), .int .u64 (mPipe z o s).mss, .int .i64 (mPipe z o s).mode, .int .u64 (mPipe z o s).rate, .int .u64 (mPipe z o s).win, .int .u64 (mPipe z o s).sav, .bool (mPipe z o s).rec', .bool (mPipe z o s).first, .int .u64 (mPipe z o s).til] ^ blk n1 [.int .u64 (mPipe z o s).w.w, .int .u64 (mPipe z o s).w.t0, .int .u64 (mPipe z o s).w.v0, .int .u64 (mPipe z o s).w.t1, .int .u64 (mPipe z o s).w.v1, .int .u64 (mPipe z o s).w.t2, .int .u64 (mPipe z o s).w.v2, .int .u64 (mPipe z o s).w.la] ^ blk n2 [.int .u64 (mPipe z o s).r.n, .int .u64 (mPipe z o s).r.nx] ^ blk n3 [.int .u64 (mPipe z o s).p.best, .int .i64 (mPipe z o s).p.n, .bool (mPipe z o s).p.full] ^ blk n4 [.int .i64 (mPipe z o s).c.ph, .int .u64 (mPipe z o s).c.at'] ^ blk n5 [.int .u64 (mPipe z o s).b.best, .int .u64 (mPipe z o s).b.at', .bool (mPipe z o s).b.on, .int .u64 (mPipe z o s).b.til, .bool (mPipe z o s).b.rd] ^ blk n6 [.bool (mPipe z o s).q.use, .bool (mPipe z o s).q.mea, .int .u64 (mPipe z o s).q.bw, .int .i64 (mPipe z o s).q.n, .int .u64 (mPipe z o s).q.lost, .int .u64 (mPipe z o s).q.t0, .int .u64 (mPipe z o s).q.d0, .int .u64 (mPipe z o s).q.l0]) ^ blk x (Ks.mk K_u8b s) ^ blk y [.int .i64 0, .int .i64 0, .int .u64 0, .int .u64 0, .int .u64 0, .int .u64 0, .int .u64 0, .int .u64 0, .bool false, .bool false]) := h.fin
      generalize mPipe z o s = a at *
      refine w_call (modes_tri b n1 n2 n3 n4 n5 n6 a h4 s hs) h fun _ w h => ?_
      have h5 := h4.m1.m2 hs
      generalize mM2 (mM1 a) s = a at *
      refine w_ldAll (x := s) h rfl ?_
      refine w_call (look_tri b n1 n2 n3 n4 n5 n6 a h5 s hs o) h fun _ w h => ?_
      have h6 : OkM (mLook a s o) := h5.look hs
      generalize mLook a s o = a at *
      refine w_call (pace_tri b n1 n2 n3 n4 n5 n6 a h6) h fun _ w h => ?_
      have e : mU3 a o s tso = mWindow (mRecover (mPace a) s o) s tso := rfl
      rw [e]
      have h7 := h6.pace
      generalize mPace a = a at *
      refine w_ldAll (x := s) h rfl ?_
      refine w_call (rec_tri b n1 n2 n3 n4 n5 n6 a h7 s hs o) h fun _ w h => ?_
      have h8 : OkM (mRecover a s o) := h7.recover hs
      generalize mRecover a s o = a at *
      refine w_ldAll (x := s) h rfl ?_
      refine w_call (window_tri b n1 n2 n3 n4 n5 n6 a h8 s hs tso ht) h fun _ w h => ?_
      generalize mWindow a s tso = a at *
      refine w_call (state_tri b n1 n2 n3 n4 n5 n6 a) h fun r w h => ?_
      obtain ⟨hr, h⟩ := h.purP; rw [hr]
      refine w_setAll h (by rfl) fun w h => ?_
      refine w_ldAll (x := mSt a) h rfl ?_
      exact Own.retP rfl h.fin
    · refine w_join h (fun _ => (blk b [.ptr (some ⟨n1, 0⟩), .ptr (some ⟨n2, 0⟩), .ptr (some ⟨n3, 0⟩), .ptr (some ⟨n4, 0⟩), .ptr (some ⟨n5, 0⟩), .ptr (some ⟨n6, 0⟩), .int .u64 v.mss, .int .i64 v.mode, .int .u64 v.rate, .int .u64 v.win, .int .u64 v.sav, .bool v.rec', .bool v.first, .int .u64 v.til] ^ blk n1 [.int .u64 v.w.w, .int .u64 v.w.t0, .int .u64 v.w.v0, .int .u64 v.w.t1, .int .u64 v.w.v1, .int .u64 v.w.t2, .int .u64 v.w.v2, .int .u64 v.w.la] ^ blk n2 [.int .u64 v.r.n, .int .u64 v.r.nx] ^ blk n3 [.int .u64 v.p.best, .int .i64 v.p.n, .bool v.p.full] ^ blk n4 [.int .i64 v.c.ph, .int .u64 v.c.at'] ^ blk n5 [.int .u64 v.b.best, .int .u64 v.b.at', .bool v.b.on, .int .u64 v.b.til, .bool v.b.rd] ^ blk n6 [.bool v.q.use, .bool v.q.mea, .int .u64 v.q.bw, .int .i64 v.q.n, .int .u64 v.q.lost, .int .u64 v.q.t0, .int .u64 v.q.d0, .int .u64 v.q.l0]) ^ blk x (Ks.mk K_u8b s) ^ blk y [.int .i64 0, .int .i64 0, .int .u64 0, .int .u64 0, .int .u64 0, .int .u64 0, .int .u64 0, .int .u64 0, .bool false, .bool false]) (fun y : Bool => y = decide (v.mode = 2 ∧ v.q.use = false)) (fun (y : Bool) w hy h => ?_) ?_
      · rw [hy]
        refine w_ite (fun c => ?_) fun c => ?_
        · have c : v.mode = 2 ∧ v.q.use = false := by simpa using c
          have e : mCyc v s = { v with c := cU v.c (sNow s) v.b.best (sLost s) (sFli s) (mBdp v 320) (mBdp v 256) } := by unfold mCyc; rw [if_pos c]
          rw [e]
          repeat' (first
            | (refine w_drw h fun w h => ?_)
            | (refine w_deref ?_)
            | (refine w_ldAll h rfl ?_)
            | (refine w_ld h rfl ?_)
            | (refine w_chkAll h ?_)
            | (refine w_chk h rfl ?_)
            | (refine w_setAll h (by rfl) fun w h => ?_)
            | (refine w_new h fun n w h => ?_)
            | (refine w_leave h fun w h => ?_)
            | (refine w_set h rfl fun w h => ?_; dsimp only [upd, over] at h)
            | (refine w_call (bbest_tri n5 v.b) h fun r w h => ?_; obtain ⟨hr, h⟩ := h.purP; (try dsimp only at hr h); try rw [hr])
            | (refine w_call (bdpm_tri b n1 n2 n3 n4 n5 n6 v h2 320 (U_lit _)) h fun r w h => ?_; obtain ⟨hr, h⟩ := h.purP; (try dsimp only at hr h); try rw [hr])
            | (refine w_call (bdpm_tri b n1 n2 n3 n4 n5 n6 v h2 256 (U_lit _)) h fun r w h => ?_; obtain ⟨hr, h⟩ := h.purP; (try dsimp only at hr h); try rw [hr]))
          refine w_call (cupd_tri n4 v.c h2.c (sNow s) v.b.best (sLost s) (sFli s) (mBdp v 320) (mBdp v 256) hs.now) h fun _ w h => ?_
          exact ⟨trivial, h.fin⟩
        · have c : ¬ (v.mode = 2 ∧ v.q.use = false) := by simpa using c
          have e : mCyc v s = v := by unfold mCyc; rw [if_neg c]
          rw [e]
          exact ⟨trivial, h.fin⟩
      · repeat' (first
          | (refine w_drw h fun w h => ?_)
          | (refine w_deref ?_)
          | (refine w_ldAll h rfl ?_)
          | (refine w_ld h rfl ?_)
          | (refine w_chkAll h ?_)
          | (refine w_chk h rfl ?_)
          | (refine w_setAll h (by rfl) fun w h => ?_)
          | (refine w_new h fun n w h => ?_)
          | (refine w_leave h fun w h => ?_)
          | (refine w_set h rfl fun w h => ?_; dsimp only [upd, over] at h))
        refine w_ite (fun c => ?_) fun c => ?_
        · have c : v.mode = 2 := by simpa using c
          repeat' (first
            | (refine w_drw h fun w h => ?_)
            | (refine w_deref ?_)
            | (refine w_ldAll h rfl ?_)
            | (refine w_ld h rfl ?_)
            | (refine w_chkAll h ?_)
            | (refine w_chk h rfl ?_)
            | (refine w_setAll h (by rfl) fun w h => ?_)
            | (refine w_new h fun n w h => ?_)
            | (refine w_leave h fun w h => ?_)
            | (refine w_set h rfl fun w h => ?_; dsimp only [upd, over] at h)
            | (refine w_call (pol_tri b n1 n2 n3 n4 n5 n6 v) h fun r w h => ?_; obtain ⟨hr, h⟩ := h.purP; (try dsimp only at hr h); try rw [hr]))
          exact ⟨by rw [Bool.eq_iff_iff]; simp [c], h.fin⟩
        · have c : ¬ v.mode = 2 := by simpa using c
          exact ⟨by simp [c], h.fin⟩
end
end BbrU

namespace SockA
open Arith ArithC
/-! ### The send buffer: written, next, unacknowledged, room -/
abbrev Bf := Int × Int × Int × Int
abbrev KBf : Ks := [.int .u64, .int .u64, .int .u64, .int .u64]
abbrev bW (b : Bf) : Int := b.1
abbrev bN (b : Bf) : Int := b.2.1
abbrev bU (b : Bf) : Int := b.2.2.1
abbrev bL (b : Bf) : Int := b.2.2.2
structure OkBf (b : Bf) : Prop where
  u : 0 ≤ bU b
  un : bU b ≤ bN b
  nw : bN b ≤ bW b
  l : bW b - bU b ≤ bL b
  ll : bL b ≤ 1073741824
  w : bW b ≤ 4611686018427387904
def wrF (b : Bf) (n : Int) : Int × Bf := if n < 1 then (1, b) else if n > bL b - (bW b - bU b) then (5, b) else (0, (bW b + n, bN b, bU b, bL b))
def tkF (b : Bf) (most : Int) : ((Int × Int) × Bool) × Bf := if most ≥ 1 ∧ bW b - bN b ≠ 0 then (((bN b, bN b + min (bW b - bN b) most), true), (bW b, bN b + min (bW b - bN b) most, bU b, bL b)) else (((0, 0), false), b)
def akF (b : Bf) (upto : Int) : Int × Bf := if upto > bN b then (11, b) else (0, (bW b, bN b, if upto > bU b then upto else bU b, bL b))
theorem OkBf.tk {b : Bf} (h : OkBf b) (most : Int) : OkBf (tkF b most).2 := by
  have h1 := h.u
  have h2 := h.un
  have h3 := h.nw
  unfold tkF
  split
  · exact ⟨h1, by show bU b ≤ bN b + min _ _; omega, by show bN b + min _ _ ≤ bW b; omega, h.l, h.ll, h.w⟩
  · exact h
theorem OkBf.ak {b : Bf} (h : OkBf b) (upto : Int) : OkBf (akF b upto).2 := by
  have h1 := h.u
  have h2 := h.un
  have h3 := h.nw
  have h4 := h.l
  unfold akF
  split
  · exact h
  · refine ⟨?_, ?_, h3, ?_, h.ll, h.w⟩
    · show 0 ≤ if upto > bU b then upto else bU b
      split <;> omega
    · show (if upto > bU b then upto else bU b) ≤ bN b
      split <;> omega
    · show bW b - (if upto > bU b then upto else bU b) ≤ bL b
      split <;> omega
theorem bnew_tri (n : Int) : Tri Try.prog N_buffer_New [.lf (.int .i64 n)] [.lf .ptr] emp (fun r => ex fun p : Nat => pur (r = some ⟨p, 0⟩) (blk p (Ks.mk KBf (0, 0, 0, IntKind.u64.wrap (if (1073741824:Int) < (if (0:Int) > n then (0:Int) else n) then (1073741824:Int) else (if (0:Int) > n then (0:Int) else n)))))) :=
  tri_0 (call_buffer_New n) fun w0 S R h => by
    unfold W_buffer_New
    refine w_new h fun p w h => ?_
    exact Own.retE p (Own.retP rfl h.keep)
theorem bunsent_tri (p : Nat) (b : Bf) (hb : OkBf b) : Tri Try.prog N_buffer_Buffer_Unsent [.lf (.ptr (some ⟨p, 0⟩))] [.lf (.int .u64)] (blk p (Ks.mk KBf b)) (fun r => pur (r = bW b - bN b) (blk p (Ks.mk KBf b))) :=
  tri_0 (call_buffer_Buffer_Unsent (some ⟨p, 0⟩)) fun w0 S R h => by
    unfold W_buffer_Buffer_Unsent
    have h2 := hb.un
    have h3 := hb.nw
    have h4 := hb.u
    have h5 := hb.w
    refine w_ite (fun c => (by simp at c)) fun _ => w_drw h fun w h => w_deref (w_deref (w_ld h rfl (w_ld h rfl ?_)))
    exact Own.retP (wu (n := bW b - bN b) (by omega) (by omega)) h
theorem bheld_tri (p : Nat) (b : Bf) (hb : OkBf b) : Tri Try.prog N_buffer_Buffer_Held [.lf (.ptr (some ⟨p, 0⟩))] [.lf (.int .u64)] (blk p (Ks.mk KBf b)) (fun r => pur (r = bW b - bU b) (blk p (Ks.mk KBf b))) :=
  tri_0 (call_buffer_Buffer_Held (some ⟨p, 0⟩)) fun w0 S R h => by
    unfold W_buffer_Buffer_Held
    have h2 := hb.un
    have h3 := hb.nw
    have h4 := hb.u
    have h5 := hb.w
    refine w_ite (fun c => (by simp at c)) fun _ => w_drw h fun w h => w_deref (w_deref (w_ld h rfl (w_ld h rfl ?_)))
    exact Own.retP (wu (n := bW b - bU b) (by omega) (by omega)) h
theorem bwrite_tri (p : Nat) (b : Bf) (hb : OkBf b) (n : Int) (hn : n < 9223372036854775808) : Tri Try.prog N_buffer_Buffer_Write [.lf (.ptr (some ⟨p, 0⟩)), .lf (.int .i64 n)] [.lf (.int .i64)] (blk p (Ks.mk KBf b)) (fun r => pur (r = (wrF b n).1) (blk p (Ks.mk KBf (wrF b n).2))) :=
  tri_0 (call_buffer_Buffer_Write (some ⟨p, 0⟩) n) fun w0 S R h => by
    unfold W_buffer_Buffer_Write
    have h1 := hb.un
    have h2 := hb.nw
    have h3 := hb.u
    have h4 := hb.l
    have h5 := hb.ll
    have h6 := hb.w
    refine w_ite (fun c => (by simp at c)) fun _ => w_ite (fun c => ?_) fun c => ?_
    · have c : n < 1 := of_decide_eq_true c
      have e : wrF b n = (1, b) := by unfold wrF; rw [if_pos c]
      rw [e]
      exact Own.retP rfl h
    have c : ¬ n < 1 := of_decide_eq_false c
    refine w_drw h fun w h => w_deref (w_ld h rfl (w_call (bheld_tri p b hb) h fun r w h => ?_))
    obtain ⟨hr, h⟩ := h.purP; rw [hr]
    refine w_chk h rfl (w_ite (fun c2 => ?_) fun c2 => ?_)
    · have c2 := of_decide_eq_true c2
      have c2 : IntKind.u64.wrap n > IntKind.u64.wrap (bL b - (bW b - bU b)) := c2
      rw [wu (n := n) (by omega) (by omega), wu (n := bL b - (bW b - bU b)) (by omega) (by omega)] at c2
      have e : wrF b n = (5, b) := by unfold wrF; rw [if_neg c, if_pos c2]
      rw [e]
      exact Own.retP rfl h.fin
    · have c2 := of_decide_eq_false c2
      have c2 : ¬ IntKind.u64.wrap n > IntKind.u64.wrap (bL b - (bW b - bU b)) := c2
      rw [wu (n := n) (by omega) (by omega), wu (n := bL b - (bW b - bU b)) (by omega) (by omega)] at c2
      have e : wrF b n = (0, (bW b + n, bN b, bU b, bL b)) := by unfold wrF; rw [if_neg c, if_neg c2]
      rw [e]
      have ew : IntKind.u64.wrap (bW b + IntKind.u64.wrap n) = bW b + n := by rw [wu (n := n) (by omega) (by omega)]; exact wu (by omega) (by omega)
      refine w_deref (w_ld h rfl (w_deref ?_))
      rw [show IntKind.u64.wrap (b.1 + IntKind.u64.wrap n) = bW b + n from ew]
      refine w_setTo h p (Ks.mk KBf (bW b + n, bN b, bU b, bL b)) rfl rfl rfl fun w h => ?_
      exact Own.retP rfl h.fin
theorem btake_tri (p : Nat) (b : Bf) (hb : OkBf b) (most : Int) (hm : most < 9223372036854775808) : Tri Try.prog N_buffer_Buffer_Take [.lf (.ptr (some ⟨p, 0⟩)), .lf (.int .i64 most)] [.agg [.int .u64, .int .u64], .lf .bool] (blk p (Ks.mk KBf b)) (fun r => pur (r = (tkF b most).1) (blk p (Ks.mk KBf (tkF b most).2))) :=
  tri_0 (call_buffer_Buffer_Take (some ⟨p, 0⟩) most) fun w0 S R h => by
    unfold W_buffer_Buffer_Take
    have h1 := hb.un
    have h2 := hb.nw
    have h3 := hb.u
    have h6 := hb.w
    refine w_new h fun n1 w h => w_new h fun n2 w h => w_setAll h (by rfl) fun w h => ?_
    refine w_join h (fun _ => blk n1 [.int .u64 0, .int .u64 0] ^ blk n2 [.int .u64 (tkF b most).1.1.1, .int .u64 (tkF b most).1.1.2] ^ blk p (Ks.mk KBf (tkF b most).2)) (fun y : Bool => y = (tkF b most).1.2) (fun (y : Bool) w hy h => ?_) ?_
    · refine w_ldAll (b := n2) (x := (tkF b most).1.1) h rfl (w_setAll h (by rfl) fun w h => w_ldAll (b := n1) (x := (tkF b most).1.1) h rfl ?_)
      refine Own.retP ?_ h.fin
      rw [hy]
    · have no : ∀ {w : World}, ¬ (most ≥ 1 ∧ bW b - bN b ≠ 0) → Own w0 S R w (blk n1 [.int .u64 0, .int .u64 0] ^ blk n2 [.int .u64 0, .int .u64 0] ^ blk p (Ks.mk KBf b)) → (fun y : Bool => y = (tkF b most).1.2) false ∧ Own w0 S R w (blk n1 [.int .u64 0, .int .u64 0] ^ blk n2 [.int .u64 (tkF b most).1.1.1, .int .u64 (tkF b most).1.1.2] ^ blk p (Ks.mk KBf (tkF b most).2)) := fun {w} c h => by
        have e : tkF b most = (((0, 0), false), b) := by unfold tkF; rw [if_neg c]
        rw [e]
        exact ⟨rfl, h⟩
      have h : Own w0 S R w (blk n1 [.int .u64 0, .int .u64 0] ^ blk n2 [.int .u64 0, .int .u64 0] ^ blk p (Ks.mk KBf b)) := h.fin
      refine w_loop (fun _ : Bool => blk n1 [.int .u64 0, .int .u64 0] ^ blk n2 [.int .u64 0, .int .u64 0] ^ blk p (Ks.mk KBf b)) (fun y : Bool => y = false) (fun _ => 0) h rfl ?_
      rintro (y : Bool) w hy h
      rw [hy]
      refine w_ite (fun c => ?_) fun c => ?_
      · have c : most ≥ 1 := of_decide_eq_true c
        refine w_call (bunsent_tri p b hb) h fun r w h => ?_
        obtain ⟨hr, h⟩ := h.purP; rw [hr]
        have ek : (if bW b - bN b < IntKind.u64.wrap most then bW b - bN b else IntKind.u64.wrap most) = min (bW b - bN b) most := by
          rw [wu (n := most) (by omega) (by omega)]
          split <;> omega
        rw [ek]
        refine w_ite (fun c2 => ?_) fun c2 => ?_
        · have c2 : min (bW b - bN b) most = 0 := by simpa using c2
          exact no (by omega) h.fin
        · have c2 : ¬ min (bW b - bN b) most = 0 := by simpa using c2
          have e : tkF b most = (((bN b, bN b + min (bW b - bN b) most), true), (bW b, bN b + min (bW b - bN b) most, bU b, bL b)) := by unfold tkF; rw [if_pos ⟨c, by omega⟩]
          have ew : IntKind.u64.wrap (bN b + min (bW b - bN b) most) = bN b + min (bW b - bN b) most := wu (by omega) (by omega)
          rw [e]
          refine w_drw h fun w h => w_deref (w_deref (w_ld h rfl (w_ld h rfl ?_)))
          rw [show IntKind.u64.wrap (b.2.1 + min (bW b - bN b) most) = bN b + min (bW b - bN b) most from ew]
          refine w_setAll h (by rfl) fun w h => w_deref (w_ld h rfl (w_deref ?_))
          rw [show IntKind.u64.wrap (b.2.1 + min (bW b - bN b) most) = bN b + min (bW b - bN b) most from ew]
          refine w_setTo h p (Ks.mk KBf (bW b, bN b + min (bW b - bN b) most, bU b, bL b)) rfl rfl rfl fun w h => ?_
          exact ⟨rfl, h.fin⟩
      · have c : ¬ most ≥ 1 := of_decide_eq_false c
        exact no (fun x => c x.1) h
end SockA


end Go.X
