/- Contracts and plain facts: BbrO BbrU. -/
import Derived.Test.YtkideobegadadaaGreatBArith
import Derived.Test.YtkideobegadadaaGreatBWf
import Derived.Test.YtkideobegadadaaGreatBTarget
import Derived.Test.YtkideobegadadaaGreatBBbrMm
import Derived.Test.YtkideobegadadaaGreatBBbrP
import Derived.Test.YtkideobegadadaaGreatBBbrQ
import Derived.Test.YtkideobegadadaaGreatBBbrN
import Derived.Test.YtkideobegadadaaGreatXw
import Derived.Test.YtkideobegadadaaGreatK
import Derived.Test.YtkideobegadadaaGreatF0
import Derived.Test.YtkideobegadadaaGreatF1
set_option linter.unusedVariables false
set_option linter.unusedSimpArgs false
set_option linter.unusedSectionVars false
namespace Go.X
open Go.Proofs
namespace BbrO
open Arith ArithC _root_.Go.X.Target BbrM BbrMm BbrP BbrW BbrQ BbrL BbrN
section
variable (b n1 n2 n3 n4 n5 n6 : Nat) (m : Md) (hm : OkM m) (s : Sm) (hs : OkS s) (o : Bool)
include hm hs
theorem meas_tri : Tri Tryz.prog N_bbr_Model_measure [.lf (.ptr (some ⟨b, 0⟩)), .agg (Ks.mk K_u8b s)] [] (blk b [.ptr (some ⟨n1, 0⟩), .ptr (some ⟨n2, 0⟩), .ptr (some ⟨n3, 0⟩), .ptr (some ⟨n4, 0⟩), .ptr (some ⟨n5, 0⟩), .ptr (some ⟨n6, 0⟩), .int .u64 m.mss, .int .i64 m.mode, .int .u64 m.rate, .int .u64 m.win, .int .u64 m.sav, .bool m.rec', .bool m.first, .int .u64 m.til] ^ blk n1 [.int .u64 m.w.w, .int .u64 m.w.t0, .int .u64 m.w.v0, .int .u64 m.w.t1, .int .u64 m.w.v1, .int .u64 m.w.t2, .int .u64 m.w.v2, .int .u64 m.w.la] ^ blk n2 [.int .u64 m.r.n, .int .u64 m.r.nx] ^ blk n3 [.int .u64 m.p.best, .int .i64 m.p.n, .bool m.p.full] ^ blk n4 [.int .i64 m.c.ph, .int .u64 m.c.at'] ^ blk n5 [.int .u64 m.b.best, .int .u64 m.b.at', .bool m.b.on, .int .u64 m.b.til, .bool m.b.rd] ^ blk n6 [.bool m.q.use, .bool m.q.mea, .int .u64 m.q.bw, .int .i64 m.q.n, .int .u64 m.q.lost, .int .u64 m.q.t0, .int .u64 m.q.d0, .int .u64 m.q.l0]) (fun _ => blk b [.ptr (some ⟨n1, 0⟩), .ptr (some ⟨n2, 0⟩), .ptr (some ⟨n3, 0⟩), .ptr (some ⟨n4, 0⟩), .ptr (some ⟨n5, 0⟩), .ptr (some ⟨n6, 0⟩), .int .u64 (mMeas m s).mss, .int .i64 (mMeas m s).mode, .int .u64 (mMeas m s).rate, .int .u64 (mMeas m s).win, .int .u64 (mMeas m s).sav, .bool (mMeas m s).rec', .bool (mMeas m s).first, .int .u64 (mMeas m s).til] ^ blk n1 [.int .u64 (mMeas m s).w.w, .int .u64 (mMeas m s).w.t0, .int .u64 (mMeas m s).w.v0, .int .u64 (mMeas m s).w.t1, .int .u64 (mMeas m s).w.v1, .int .u64 (mMeas m s).w.t2, .int .u64 (mMeas m s).w.v2, .int .u64 (mMeas m s).w.la] ^ blk n2 [.int .u64 (mMeas m s).r.n, .int .u64 (mMeas m s).r.nx] ^ blk n3 [.int .u64 (mMeas m s).p.best, .int .i64 (mMeas m s).p.n, .bool (mMeas m s).p.full] ^ blk n4 [.int .i64 (mMeas m s).c.ph, .int .u64 (mMeas m s).c.at'] ^ blk n5 [.int .u64 (mMeas m s).b.best, .int .u64 (mMeas m s).b.at', .bool (mMeas m s).b.on, .int .u64 (mMeas m s).b.til, .bool (mMeas m s).b.rd] ^ blk n6 [.bool (mMeas m s).q.use, .bool (mMeas m s).q.mea, .int .u64 (mMeas m s).q.bw, .int .i64 (mMeas m s).q.n, .int .u64 (mMeas m s).q.lost, .int .u64 (mMeas m s).q.t0, .int .u64 (mMeas m s).q.d0, .int .u64 (mMeas m s).q.l0]) :=
  tri_0 (call_bbr_Model_measure _ _) fun w0 S R h => by
    unfold W_bbr_Model_measure
    refine w_new h fun x w h => ?_
    have h : Own w0 S R w ((blk b [.ptr (some ⟨n1, 0⟩), .ptr (some ⟨n2, 0⟩), .ptr (some ⟨n3, 0⟩), .ptr (some ⟨n4, 0⟩), .ptr (some ⟨n5, 0⟩), .ptr (some ⟨n6, 0⟩), .int .u64 m.mss, .int .i64 m.mode, .int .u64 m.rate, .int .u64 m.win, .int .u64 m.sav, .bool m.rec', .bool m.first, .int .u64 m.til] ^ blk n1 [.int .u64 m.w.w, .int .u64 m.w.t0, .int .u64 m.w.v0, .int .u64 m.w.t1, .int .u64 m.w.v1, .int .u64 m.w.t2, .int .u64 m.w.v2, .int .u64 m.w.la] ^ blk n2 [.int .u64 m.r.n, .int .u64 m.r.nx] ^ blk n3 [.int .u64 m.p.best, .int .i64 m.p.n, .bool m.p.full] ^ blk n4 [.int .i64 m.c.ph, .int .u64 m.c.at'] ^ blk n5 [.int .u64 m.b.best, .int .u64 m.b.at', .bool m.b.on, .int .u64 m.b.til, .bool m.b.rd] ^ blk n6 [.bool m.q.use, .bool m.q.mea, .int .u64 m.q.bw, .int .i64 m.q.n, .int .u64 m.q.lost, .int .u64 m.q.t0, .int .u64 m.q.d0, .int .u64 m.q.l0]) ^ blk x (Ks.mk K_u8b s)) := h.fin
    refine w_join h (fun _ => (blk b [.ptr (some ⟨n1, 0⟩), .ptr (some ⟨n2, 0⟩), .ptr (some ⟨n3, 0⟩), .ptr (some ⟨n4, 0⟩), .ptr (some ⟨n5, 0⟩), .ptr (some ⟨n6, 0⟩), .int .u64 m.mss, .int .i64 m.mode, .int .u64 m.rate, .int .u64 m.win, .int .u64 m.sav, .bool m.rec', .bool m.first, .int .u64 m.til] ^ blk n1 [.int .u64 m.w.w, .int .u64 m.w.t0, .int .u64 m.w.v0, .int .u64 m.w.t1, .int .u64 m.w.v1, .int .u64 m.w.t2, .int .u64 m.w.v2, .int .u64 m.w.la] ^ blk n2 [.int .u64 m.r.n, .int .u64 m.r.nx] ^ blk n3 [.int .u64 m.p.best, .int .i64 m.p.n, .bool m.p.full] ^ blk n4 [.int .i64 m.c.ph, .int .u64 m.c.at'] ^ blk n5 [.int .u64 m.b.best, .int .u64 m.b.at', .bool m.b.on, .int .u64 m.b.til, .bool m.b.rd] ^ blk n6 [.bool m.q.use, .bool m.q.mea, .int .u64 m.q.bw, .int .i64 m.q.n, .int .u64 m.q.lost, .int .u64 m.q.t0, .int .u64 m.q.d0, .int .u64 m.q.l0]) ^ blk x (Ks.mk K_u8b s)) (fun _ => ¬ (sAck s = 0 ∨ sTim s = 0)) (fun _ w c h => ?_) ?_
    · repeat' (first
        | (refine w_drw h fun w h => ?_)
        | (refine w_deref ?_)
        | (refine w_ldAll h rfl ?_)
        | (refine w_ld h rfl ?_)
        | (refine w_chkAll h ?_)
        | (refine w_chk h rfl ?_)
        | (refine w_setAll h (by rfl) fun w h => ?_)
        | (refine w_new h fun n w h => ?_)
        | (refine w_leave h fun w h => ?_)
        | (refine w_set h rfl fun w h => ?_; dsimp only [upd, over] at h)
        | (refine w_call (satsub_tri (sDel s) (sPri s) hs.del hs.pri) h fun r w h => ?_; obtain ⟨hr, h⟩ := h.purP; (try dsimp only at hr h); try rw [hr])
        | (refine w_call (md_tri (subI (sDel s) (sPri s)) 1000000000 (sTim s) (U_sub hs.del hs.pri) (U_lit _) hs.tim) h fun r w h => ?_; obtain ⟨hr, h⟩ := h.purP; (try dsimp only at hr h); try rw [hr]))
      have hU : U (mK s) := U_md (U_sub hs.del hs.pri) (U_lit _) hs.tim
      refine w_join h (fun _ => (blk b [.ptr (some ⟨n1, 0⟩), .ptr (some ⟨n2, 0⟩), .ptr (some ⟨n3, 0⟩), .ptr (some ⟨n4, 0⟩), .ptr (some ⟨n5, 0⟩), .ptr (some ⟨n6, 0⟩), .int .u64 m.mss, .int .i64 m.mode, .int .u64 m.rate, .int .u64 m.win, .int .u64 m.sav, .bool m.rec', .bool m.first, .int .u64 m.til] ^ blk n1 [.int .u64 m.w.w, .int .u64 m.w.t0, .int .u64 m.w.v0, .int .u64 m.w.t1, .int .u64 m.w.v1, .int .u64 m.w.t2, .int .u64 m.w.v2, .int .u64 m.w.la] ^ blk n2 [.int .u64 m.r.n, .int .u64 m.r.nx] ^ blk n3 [.int .u64 m.p.best, .int .i64 m.p.n, .bool m.p.full] ^ blk n4 [.int .i64 m.c.ph, .int .u64 m.c.at'] ^ blk n5 [.int .u64 m.b.best, .int .u64 m.b.at', .bool m.b.on, .int .u64 m.b.til, .bool m.b.rd] ^ blk n6 [.bool m.q.use, .bool m.q.mea, .int .u64 m.q.bw, .int .i64 m.q.n, .int .u64 m.q.lost, .int .u64 m.q.t0, .int .u64 m.q.d0, .int .u64 m.q.l0]) ^ blk x (Ks.mk K_u8b s)) (fun y : Bool => y = decide (sLim s = false ∨ mK s ≥ m.w.v0)) (fun (y : Bool) w hy h => ?_) ?_
      · rw [hy]
        refine w_ite (fun c2 => ?_) fun c2 => ?_
        · have c2 : sLim s = false ∨ mK s ≥ m.w.v0 := by simpa using c2
          have e : mMeas m s = { m with w := wUpd m.w m.r.n (mK s) } := by unfold mMeas; rw [if_neg c, if_pos c2]
          rw [e]
          repeat' (first
            | (refine w_drw h fun w h => ?_)
            | (refine w_deref ?_)
            | (refine w_ldAll h rfl ?_)
            | (refine w_ld h rfl ?_)
            | (refine w_chkAll h ?_)
            | (refine w_chk h rfl ?_)
            | (refine w_setAll h (by rfl) fun w h => ?_)
            | (refine w_new h fun n w h => ?_)
            | (refine w_leave h fun w h => ?_)
            | (refine w_set h rfl fun w h => ?_; dsimp only [upd, over] at h)
            | (refine w_call (count_tri n2 m.r) h fun r w h => ?_; obtain ⟨hr, h⟩ := h.purP; (try dsimp only at hr h); try rw [hr])
            | (refine w_call (maxupd_tri n1 m.w hm.w m.r.n (mK s) hm.r.n hU) h fun r w h => ?_; obtain ⟨hr, h⟩ := h.purP; (try dsimp only at hr h); try rw [hr]))
          exact h.fin
        · have c2 : ¬ (sLim s = false ∨ mK s ≥ m.w.v0) := by simpa using c2
          have e : mMeas m s = m := by unfold mMeas; rw [if_neg c, if_neg c2]
          rw [e]
          exact h.fin
      · repeat' (first
          | (refine w_drw h fun w h => ?_)
          | (refine w_deref ?_)
          | (refine w_ldAll h rfl ?_)
          | (refine w_ld h rfl ?_)
          | (refine w_chkAll h ?_)
          | (refine w_chk h rfl ?_)
          | (refine w_setAll h (by rfl) fun w h => ?_)
          | (refine w_new h fun n w h => ?_)
          | (refine w_leave h fun w h => ?_)
          | (refine w_set h rfl fun w h => ?_; dsimp only [upd, over] at h))
        refine w_ite (fun c2 => ?_) fun c2 => ?_
        · have c2 : sLim s = false := by simpa using c2
          exact ⟨by simp [c2], h.fin⟩
        · have c2 : sLim s = true := by simpa using c2
          repeat' (first
            | (refine w_drw h fun w h => ?_)
            | (refine w_deref ?_)
            | (refine w_ldAll h rfl ?_)
            | (refine w_ld h rfl ?_)
            | (refine w_chkAll h ?_)
            | (refine w_chk h rfl ?_)
            | (refine w_setAll h (by rfl) fun w h => ?_)
            | (refine w_new h fun n w h => ?_)
            | (refine w_leave h fun w h => ?_)
            | (refine w_set h rfl fun w h => ?_; dsimp only [upd, over] at h)
            | (refine w_call (best_tri n1 m.w) h fun r w h => ?_; obtain ⟨hr, h⟩ := h.purP; (try dsimp only at hr h); try rw [hr]))
          exact ⟨by rw [Bool.eq_iff_iff]; simp [c2, mK], h.fin⟩
    · repeat' (first
        | (refine w_drw h fun w h => ?_)
        | (refine w_deref ?_)
        | (refine w_ldAll h rfl ?_)
        | (refine w_ld h rfl ?_)
        | (refine w_chkAll h ?_)
        | (refine w_chk h rfl ?_)
        | (refine w_setAll h (by rfl) fun w h => ?_)
        | (refine w_new h fun n w h => ?_)
        | (refine w_leave h fun w h => ?_)
        | (refine w_set h rfl fun w h => ?_; dsimp only [upd, over] at h))
      refine w_ite (fun c => ?_) fun c => ?_
      · have c : sAck s = 0 := by simpa using c
        have e : mMeas m s = m := by unfold mMeas; rw [if_pos (.inl c)]
        rw [e]
        exact h.fin
      repeat' (first
        | (refine w_drw h fun w h => ?_)
        | (refine w_deref ?_)
        | (refine w_ldAll h rfl ?_)
        | (refine w_ld h rfl ?_)
        | (refine w_chkAll h ?_)
        | (refine w_chk h rfl ?_)
        | (refine w_setAll h (by rfl) fun w h => ?_)
        | (refine w_new h fun n w h => ?_)
        | (refine w_leave h fun w h => ?_)
        | (refine w_set h rfl fun w h => ?_; dsimp only [upd, over] at h))
      have c : ¬ sAck s = 0 := by simpa using c
      refine w_ite (fun c2 => ?_) fun c2 => ?_
      · have c2 : sTim s = 0 := by simpa using c2
        have e : mMeas m s = m := by unfold mMeas; rw [if_pos (.inr c2)]
        rw [e]
        exact h.fin
      · have c2 : ¬ sTim s = 0 := by simpa using c2
        exact ⟨fun hh => hh.elim c c2, h.fin⟩
theorem modes_tri : Tri Tryz.prog N_bbr_Model_modes [.lf (.ptr (some ⟨b, 0⟩)), .agg (Ks.mk K_u8b s)] [] (blk b [.ptr (some ⟨n1, 0⟩), .ptr (some ⟨n2, 0⟩), .ptr (some ⟨n3, 0⟩), .ptr (some ⟨n4, 0⟩), .ptr (some ⟨n5, 0⟩), .ptr (some ⟨n6, 0⟩), .int .u64 m.mss, .int .i64 m.mode, .int .u64 m.rate, .int .u64 m.win, .int .u64 m.sav, .bool m.rec', .bool m.first, .int .u64 m.til] ^ blk n1 [.int .u64 m.w.w, .int .u64 m.w.t0, .int .u64 m.w.v0, .int .u64 m.w.t1, .int .u64 m.w.v1, .int .u64 m.w.t2, .int .u64 m.w.v2, .int .u64 m.w.la] ^ blk n2 [.int .u64 m.r.n, .int .u64 m.r.nx] ^ blk n3 [.int .u64 m.p.best, .int .i64 m.p.n, .bool m.p.full] ^ blk n4 [.int .i64 m.c.ph, .int .u64 m.c.at'] ^ blk n5 [.int .u64 m.b.best, .int .u64 m.b.at', .bool m.b.on, .int .u64 m.b.til, .bool m.b.rd] ^ blk n6 [.bool m.q.use, .bool m.q.mea, .int .u64 m.q.bw, .int .i64 m.q.n, .int .u64 m.q.lost, .int .u64 m.q.t0, .int .u64 m.q.d0, .int .u64 m.q.l0]) (fun _ => blk b [.ptr (some ⟨n1, 0⟩), .ptr (some ⟨n2, 0⟩), .ptr (some ⟨n3, 0⟩), .ptr (some ⟨n4, 0⟩), .ptr (some ⟨n5, 0⟩), .ptr (some ⟨n6, 0⟩), .int .u64 (mM2 (mM1 m) s).mss, .int .i64 (mM2 (mM1 m) s).mode, .int .u64 (mM2 (mM1 m) s).rate, .int .u64 (mM2 (mM1 m) s).win, .int .u64 (mM2 (mM1 m) s).sav, .bool (mM2 (mM1 m) s).rec', .bool (mM2 (mM1 m) s).first, .int .u64 (mM2 (mM1 m) s).til] ^ blk n1 [.int .u64 (mM2 (mM1 m) s).w.w, .int .u64 (mM2 (mM1 m) s).w.t0, .int .u64 (mM2 (mM1 m) s).w.v0, .int .u64 (mM2 (mM1 m) s).w.t1, .int .u64 (mM2 (mM1 m) s).w.v1, .int .u64 (mM2 (mM1 m) s).w.t2, .int .u64 (mM2 (mM1 m) s).w.v2, .int .u64 (mM2 (mM1 m) s).w.la] ^ blk n2 [.int .u64 (mM2 (mM1 m) s).r.n, .int .u64 (mM2 (mM1 m) s).r.nx] ^ blk n3 [.int .u64 (mM2 (mM1 m) s).p.best, .int .i64 (mM2 (mM1 m) s).p.n, .bool (mM2 (mM1 m) s).p.full] ^ blk n4 [.int .i64 (mM2 (mM1 m) s).c.ph, .int .u64 (mM2 (mM1 m) s).c.at'] ^ blk n5 [.int .u64 (mM2 (mM1 m) s).b.best, .int .u64 (mM2 (mM1 m) s).b.at', .bool (mM2 (mM1 m) s).b.on, .int .u64 (mM2 (mM1 m) s).b.til, .bool (mM2 (mM1 m) s).b.rd] ^ blk n6 [.bool (mM2 (mM1 m) s).q.use, .bool (mM2 (mM1 m) s).q.mea, .int .u64 (mM2 (mM1 m) s).q.bw, .int .i64 (mM2 (mM1 m) s).q.n, .int .u64 (mM2 (mM1 m) s).q.lost, .int .u64 (mM2 (mM1 m) s).q.t0, .int .u64 (mM2 (mM1 m) s).q.d0, .int .u64 (mM2 (mM1 m) s).q.l0]) :=
  tri_0 (call_bbr_Model_modes _ _) fun w0 S R h => by
    unfold W_bbr_Model_modes
    refine w_new h fun x w h => ?_
    have h : Own w0 S R w ((blk b [.ptr (some ⟨n1, 0⟩), .ptr (some ⟨n2, 0⟩), .ptr (some ⟨n3, 0⟩), .ptr (some ⟨n4, 0⟩), .ptr (some ⟨n5, 0⟩), .ptr (some ⟨n6, 0⟩), .int .u64 m.mss, .int .i64 m.mode, .int .u64 m.rate, .int .u64 m.win, .int .u64 m.sav, .bool m.rec', .bool m.first, .int .u64 m.til] ^ blk n1 [.int .u64 m.w.w, .int .u64 m.w.t0, .int .u64 m.w.v0, .int .u64 m.w.t1, .int .u64 m.w.v1, .int .u64 m.w.t2, .int .u64 m.w.v2, .int .u64 m.w.la] ^ blk n2 [.int .u64 m.r.n, .int .u64 m.r.nx] ^ blk n3 [.int .u64 m.p.best, .int .i64 m.p.n, .bool m.p.full] ^ blk n4 [.int .i64 m.c.ph, .int .u64 m.c.at'] ^ blk n5 [.int .u64 m.b.best, .int .u64 m.b.at', .bool m.b.on, .int .u64 m.b.til, .bool m.b.rd] ^ blk n6 [.bool m.q.use, .bool m.q.mea, .int .u64 m.q.bw, .int .i64 m.q.n, .int .u64 m.q.lost, .int .u64 m.q.t0, .int .u64 m.q.d0, .int .u64 m.q.l0]) ^ blk x (Ks.mk K_u8b s)) := h.fin
    refine w_loopE (fun (_ : Unit) (u : Md) => (blk b [.ptr (some ⟨n1, 0⟩), .ptr (some ⟨n2, 0⟩), .ptr (some ⟨n3, 0⟩), .ptr (some ⟨n4, 0⟩), .ptr (some ⟨n5, 0⟩), .ptr (some ⟨n6, 0⟩), .int .u64 u.mss, .int .i64 u.mode, .int .u64 u.rate, .int .u64 u.win, .int .u64 u.sav, .bool u.rec', .bool u.first, .int .u64 u.til] ^ blk n1 [.int .u64 u.w.w, .int .u64 u.w.t0, .int .u64 u.w.v0, .int .u64 u.w.t1, .int .u64 u.w.v1, .int .u64 u.w.t2, .int .u64 u.w.v2, .int .u64 u.w.la] ^ blk n2 [.int .u64 u.r.n, .int .u64 u.r.nx] ^ blk n3 [.int .u64 u.p.best, .int .i64 u.p.n, .bool u.p.full] ^ blk n4 [.int .i64 u.c.ph, .int .u64 u.c.at'] ^ blk n5 [.int .u64 u.b.best, .int .u64 u.b.at', .bool u.b.on, .int .u64 u.b.til, .bool u.b.rd] ^ blk n6 [.bool u.q.use, .bool u.q.mea, .int .u64 u.q.bw, .int .i64 u.q.n, .int .u64 u.q.lost, .int .u64 u.q.t0, .int .u64 u.q.d0, .int .u64 u.q.l0]) ^ blk x (Ks.mk K_u8b s)) (fun _ u => (OkM u ∧ mM1 u = mM1 m)) (fun _ u => if u.mode = 0 then 1 else 0) m h ⟨hm, rfl⟩ ?_
    rintro K _ u w ⟨hu, heq⟩ h hK
    rw [← heq]
    refine w_join h (fun _ => (blk b [.ptr (some ⟨n1, 0⟩), .ptr (some ⟨n2, 0⟩), .ptr (some ⟨n3, 0⟩), .ptr (some ⟨n4, 0⟩), .ptr (some ⟨n5, 0⟩), .ptr (some ⟨n6, 0⟩), .int .u64 u.mss, .int .i64 u.mode, .int .u64 u.rate, .int .u64 u.win, .int .u64 u.sav, .bool u.rec', .bool u.first, .int .u64 u.til] ^ blk n1 [.int .u64 u.w.w, .int .u64 u.w.t0, .int .u64 u.w.v0, .int .u64 u.w.t1, .int .u64 u.w.v1, .int .u64 u.w.t2, .int .u64 u.w.v2, .int .u64 u.w.la] ^ blk n2 [.int .u64 u.r.n, .int .u64 u.r.nx] ^ blk n3 [.int .u64 u.p.best, .int .i64 u.p.n, .bool u.p.full] ^ blk n4 [.int .i64 u.c.ph, .int .u64 u.c.at'] ^ blk n5 [.int .u64 u.b.best, .int .u64 u.b.at', .bool u.b.on, .int .u64 u.b.til, .bool u.b.rd] ^ blk n6 [.bool u.q.use, .bool u.q.mea, .int .u64 u.q.bw, .int .i64 u.q.n, .int .u64 u.q.lost, .int .u64 u.q.t0, .int .u64 u.q.d0, .int .u64 u.q.l0]) ^ blk x (Ks.mk K_u8b s)) (fun y : Bool => y = decide (u.mode = 0 ∧ u.p.full = true)) (fun (y : Bool) w hy h => ?_) ?_
    · rw [hy]
      refine w_ite (fun c => ?_) fun c => ?_
      · have c : u.mode = 0 ∧ u.p.full = true := by simpa using c
        refine w_deref (w_setTo h b [.ptr (some ⟨n1, 0⟩), .ptr (some ⟨n2, 0⟩), .ptr (some ⟨n3, 0⟩), .ptr (some ⟨n4, 0⟩), .ptr (some ⟨n5, 0⟩), .ptr (some ⟨n6, 0⟩), .int .u64 ({ u with mode := 1 }).mss, .int .i64 ({ u with mode := 1 }).mode, .int .u64 ({ u with mode := 1 }).rate, .int .u64 ({ u with mode := 1 }).win, .int .u64 ({ u with mode := 1 }).sav, .bool ({ u with mode := 1 }).rec', .bool ({ u with mode := 1 }).first, .int .u64 ({ u with mode := 1 }).til] rfl rfl rfl fun w h => ?_)
        refine hK () { u with mode := 1 } w ⟨{ hu with mode := by simp }, ?_⟩ h.fin ?_
        · rw [← heq]
          have e1 : mM1 u = { u with mode := 1 } := by unfold mM1; rw [if_pos c]
          rw [e1]
          unfold mM1
          rw [if_neg (by simp)]
        · rw [if_pos c.1, if_neg (by simp)]; omega
      have c : ¬ (u.mode = 0 ∧ u.p.full = true) := by simpa using c
      have e1 : mM1 u = u := by unfold mM1; rw [if_neg c]
      rw [e1]
      refine w_join h (fun _ => (blk b [.ptr (some ⟨n1, 0⟩), .ptr (some ⟨n2, 0⟩), .ptr (some ⟨n3, 0⟩), .ptr (some ⟨n4, 0⟩), .ptr (some ⟨n5, 0⟩), .ptr (some ⟨n6, 0⟩), .int .u64 u.mss, .int .i64 u.mode, .int .u64 u.rate, .int .u64 u.win, .int .u64 u.sav, .bool u.rec', .bool u.first, .int .u64 u.til] ^ blk n1 [.int .u64 u.w.w, .int .u64 u.w.t0, .int .u64 u.w.v0, .int .u64 u.w.t1, .int .u64 u.w.v1, .int .u64 u.w.t2, .int .u64 u.w.v2, .int .u64 u.w.la] ^ blk n2 [.int .u64 u.r.n, .int .u64 u.r.nx] ^ blk n3 [.int .u64 u.p.best, .int .i64 u.p.n, .bool u.p.full] ^ blk n4 [.int .i64 u.c.ph, .int .u64 u.c.at'] ^ blk n5 [.int .u64 u.b.best, .int .u64 u.b.at', .bool u.b.on, .int .u64 u.b.til, .bool u.b.rd] ^ blk n6 [.bool u.q.use, .bool u.q.mea, .int .u64 u.q.bw, .int .i64 u.q.n, .int .u64 u.q.lost, .int .u64 u.q.t0, .int .u64 u.q.d0, .int .u64 u.q.l0]) ^ blk x (Ks.mk K_u8b s)) (fun y : Bool => y = decide (u.mode = 1 ∧ u.b.best > 0 ∧ sFli s ≤ mBdp u 256)) (fun (y : Bool) w hy h => ?_) ?_
      · rw [hy]
        refine w_ite (fun c2 => ?_) fun c2 => ?_
        · have c2 : u.mode = 1 ∧ u.b.best > 0 ∧ sFli s ≤ mBdp u 256 := by simpa using c2
          have e : mM2 u s = mCruise u (sNow s) := by unfold mM2; rw [if_pos c2]
          rw [e]
          refine w_ld h rfl ?_
          refine w_call (cruise_tri b n1 n2 n3 n4 n5 n6 u (sNow s)) h fun _ w h => ?_
          exact h.fin
        · have c2 : ¬ (u.mode = 1 ∧ u.b.best > 0 ∧ sFli s ≤ mBdp u 256) := by simpa using c2
          have e : mM2 u s = u := by unfold mM2; rw [if_neg c2]
          rw [e]
          exact h.fin
      · repeat' (first
          | (refine w_drw h fun w h => ?_)
          | (refine w_deref ?_)
          | (refine w_ldAll h rfl ?_)
          | (refine w_ld h rfl ?_)
          | (refine w_chkAll h ?_)
          | (refine w_chk h rfl ?_)
          | (refine w_setAll h (by rfl) fun w h => ?_)
          | (refine w_new h fun n w h => ?_)
          | (refine w_leave h fun w h => ?_)
          | (refine w_set h rfl fun w h => ?_; dsimp only [upd, over] at h))
        refine w_ite (fun c2 => ?_) fun c2 => ?_
        · have c2 : u.mode = 1 := by simpa using c2
          repeat' (first
            | (refine w_drw h fun w h => ?_)
            | (refine w_deref ?_)
            | (refine w_ldAll h rfl ?_)
            | (refine w_ld h rfl ?_)
            | (refine w_chkAll h ?_)
            | (refine w_chk h rfl ?_)
            | (refine w_setAll h (by rfl) fun w h => ?_)
            | (refine w_new h fun n w h => ?_)
            | (refine w_leave h fun w h => ?_)
            | (refine w_set h rfl fun w h => ?_; dsimp only [upd, over] at h)
            | (refine w_call (bbest_tri n5 u.b) h fun r w h => ?_; obtain ⟨hr, h⟩ := h.purP; (try dsimp only at hr h); try rw [hr]))
          refine w_ite (fun c3 => ?_) fun c3 => ?_
          · have c3 : u.b.best > 0 := by simpa using c3
            repeat' (first
              | (refine w_drw h fun w h => ?_)
              | (refine w_deref ?_)
              | (refine w_ldAll h rfl ?_)
              | (refine w_ld h rfl ?_)
              | (refine w_chkAll h ?_)
              | (refine w_chk h rfl ?_)
              | (refine w_setAll h (by rfl) fun w h => ?_)
              | (refine w_new h fun n w h => ?_)
              | (refine w_leave h fun w h => ?_)
              | (refine w_set h rfl fun w h => ?_; dsimp only [upd, over] at h)
              | (refine w_call (bdpm_tri b n1 n2 n3 n4 n5 n6 u hu 256 (U_lit _)) h fun r w h => ?_; obtain ⟨hr, h⟩ := h.purP; (try dsimp only at hr h); try rw [hr]))
            exact ⟨by rw [Bool.eq_iff_iff]; simp [c2, c3], h.fin⟩
          · have c3 : ¬ u.b.best > 0 := by simpa using c3
            exact ⟨by simp [c3], h.fin⟩
        · have c2 : ¬ u.mode = 1 := by simpa using c2
          exact ⟨by simp [c2], h.fin⟩
    · repeat' (first
        | (refine w_drw h fun w h => ?_)
        | (refine w_deref ?_)
        | (refine w_ldAll h rfl ?_)
        | (refine w_ld h rfl ?_)
        | (refine w_chkAll h ?_)
        | (refine w_chk h rfl ?_)
        | (refine w_setAll h (by rfl) fun w h => ?_)
        | (refine w_new h fun n w h => ?_)
        | (refine w_leave h fun w h => ?_)
        | (refine w_set h rfl fun w h => ?_; dsimp only [upd, over] at h))
      refine w_ite (fun c => ?_) fun c => ?_
      · have c : u.mode = 0 := by simpa using c
        repeat' (first
          | (refine w_drw h fun w h => ?_)
          | (refine w_deref ?_)
          | (refine w_ldAll h rfl ?_)
          | (refine w_ld h rfl ?_)
          | (refine w_chkAll h ?_)
          | (refine w_chk h rfl ?_)
          | (refine w_setAll h (by rfl) fun w h => ?_)
          | (refine w_new h fun n w h => ?_)
          | (refine w_leave h fun w h => ?_)
          | (refine w_set h rfl fun w h => ?_; dsimp only [upd, over] at h)
          | (refine w_call (full_tri n3 u.p) h fun r w h => ?_; obtain ⟨hr, h⟩ := h.purP; (try dsimp only at hr h); try rw [hr]))
        exact ⟨by rw [Bool.eq_iff_iff]; simp [c], h.fin⟩
      · have c : ¬ u.mode = 0 := by simpa using c
        exact ⟨by simp [c], h.fin⟩
theorem look_tri : Tri Tryz.prog N_bbr_Model_look [.lf (.ptr (some ⟨b, 0⟩)), .agg (Ks.mk K_u8b s), .lf (.bool o)] [] (blk b [.ptr (some ⟨n1, 0⟩), .ptr (some ⟨n2, 0⟩), .ptr (some ⟨n3, 0⟩), .ptr (some ⟨n4, 0⟩), .ptr (some ⟨n5, 0⟩), .ptr (some ⟨n6, 0⟩), .int .u64 m.mss, .int .i64 m.mode, .int .u64 m.rate, .int .u64 m.win, .int .u64 m.sav, .bool m.rec', .bool m.first, .int .u64 m.til] ^ blk n1 [.int .u64 m.w.w, .int .u64 m.w.t0, .int .u64 m.w.v0, .int .u64 m.w.t1, .int .u64 m.w.v1, .int .u64 m.w.t2, .int .u64 m.w.v2, .int .u64 m.w.la] ^ blk n2 [.int .u64 m.r.n, .int .u64 m.r.nx] ^ blk n3 [.int .u64 m.p.best, .int .i64 m.p.n, .bool m.p.full] ^ blk n4 [.int .i64 m.c.ph, .int .u64 m.c.at'] ^ blk n5 [.int .u64 m.b.best, .int .u64 m.b.at', .bool m.b.on, .int .u64 m.b.til, .bool m.b.rd] ^ blk n6 [.bool m.q.use, .bool m.q.mea, .int .u64 m.q.bw, .int .i64 m.q.n, .int .u64 m.q.lost, .int .u64 m.q.t0, .int .u64 m.q.d0, .int .u64 m.q.l0]) (fun _ => blk b [.ptr (some ⟨n1, 0⟩), .ptr (some ⟨n2, 0⟩), .ptr (some ⟨n3, 0⟩), .ptr (some ⟨n4, 0⟩), .ptr (some ⟨n5, 0⟩), .ptr (some ⟨n6, 0⟩), .int .u64 (mLook m s o).mss, .int .i64 (mLook m s o).mode, .int .u64 (mLook m s o).rate, .int .u64 (mLook m s o).win, .int .u64 (mLook m s o).sav, .bool (mLook m s o).rec', .bool (mLook m s o).first, .int .u64 (mLook m s o).til] ^ blk n1 [.int .u64 (mLook m s o).w.w, .int .u64 (mLook m s o).w.t0, .int .u64 (mLook m s o).w.v0, .int .u64 (mLook m s o).w.t1, .int .u64 (mLook m s o).w.v1, .int .u64 (mLook m s o).w.t2, .int .u64 (mLook m s o).w.v2, .int .u64 (mLook m s o).w.la] ^ blk n2 [.int .u64 (mLook m s o).r.n, .int .u64 (mLook m s o).r.nx] ^ blk n3 [.int .u64 (mLook m s o).p.best, .int .i64 (mLook m s o).p.n, .bool (mLook m s o).p.full] ^ blk n4 [.int .i64 (mLook m s o).c.ph, .int .u64 (mLook m s o).c.at'] ^ blk n5 [.int .u64 (mLook m s o).b.best, .int .u64 (mLook m s o).b.at', .bool (mLook m s o).b.on, .int .u64 (mLook m s o).b.til, .bool (mLook m s o).b.rd] ^ blk n6 [.bool (mLook m s o).q.use, .bool (mLook m s o).q.mea, .int .u64 (mLook m s o).q.bw, .int .i64 (mLook m s o).q.n, .int .u64 (mLook m s o).q.lost, .int .u64 (mLook m s o).q.t0, .int .u64 (mLook m s o).q.d0, .int .u64 (mLook m s o).q.l0]) :=
  tri_0 (call_bbr_Model_look _ _ _) fun w0 S R h => by
    unfold W_bbr_Model_look
    refine w_new h fun x w h => ?_
    have h : Own w0 S R w ((blk b [.ptr (some ⟨n1, 0⟩), .ptr (some ⟨n2, 0⟩), .ptr (some ⟨n3, 0⟩), .ptr (some ⟨n4, 0⟩), .ptr (some ⟨n5, 0⟩), .ptr (some ⟨n6, 0⟩), .int .u64 m.mss, .int .i64 m.mode, .int .u64 m.rate, .int .u64 m.win, .int .u64 m.sav, .bool m.rec', .bool m.first, .int .u64 m.til] ^ blk n1 [.int .u64 m.w.w, .int .u64 m.w.t0, .int .u64 m.w.v0, .int .u64 m.w.t1, .int .u64 m.w.v1, .int .u64 m.w.t2, .int .u64 m.w.v2, .int .u64 m.w.la] ^ blk n2 [.int .u64 m.r.n, .int .u64 m.r.nx] ^ blk n3 [.int .u64 m.p.best, .int .i64 m.p.n, .bool m.p.full] ^ blk n4 [.int .i64 m.c.ph, .int .u64 m.c.at'] ^ blk n5 [.int .u64 m.b.best, .int .u64 m.b.at', .bool m.b.on, .int .u64 m.b.til, .bool m.b.rd] ^ blk n6 [.bool m.q.use, .bool m.q.mea, .int .u64 m.q.bw, .int .i64 m.q.n, .int .u64 m.q.lost, .int .u64 m.q.t0, .int .u64 m.q.d0, .int .u64 m.q.l0]) ^ blk x (Ks.mk K_u8b s)) := h.fin
    repeat' (first
      | (refine w_drw h fun w h => ?_)
      | (refine w_deref ?_)
      | (refine w_ldAll h rfl ?_)
      | (refine w_ld h rfl ?_)
      | (refine w_chkAll h ?_)
      | (refine w_chk h rfl ?_)
      | (refine w_setAll h (by rfl) fun w h => ?_)
      | (refine w_new h fun n w h => ?_)
      | (refine w_leave h fun w h => ?_)
      | (refine w_set h rfl fun w h => ?_; dsimp only [upd, over] at h)
      | (refine w_call (floor_tri b n1 n2 n3 n4 n5 n6 m hm) h fun r w h => ?_; obtain ⟨hr, h⟩ := h.purP; (try dsimp only at hr h); try rw [hr])
      | (refine w_call (bupd_tri n5 m.b hm.b (sNow s) (sRtt s) (sFli s) (mFloor m) o hs.now hs.rtt) h fun r w h => ?_; obtain ⟨hr, h⟩ := h.purP; (try dsimp only at hr h); try rw [hr]))
    have e : mLook m s o = mProbed { m with b := (mPr m s o).2 } (mPr m s o).1 (sNow s) := rfl
    rw [e]
    have h : Own w0 S R w ((blk b [.ptr (some ⟨n1, 0⟩), .ptr (some ⟨n2, 0⟩), .ptr (some ⟨n3, 0⟩), .ptr (some ⟨n4, 0⟩), .ptr (some ⟨n5, 0⟩), .ptr (some ⟨n6, 0⟩), .int .u64 ({ m with b := (mPr m s o).2 }).mss, .int .i64 ({ m with b := (mPr m s o).2 }).mode, .int .u64 ({ m with b := (mPr m s o).2 }).rate, .int .u64 ({ m with b := (mPr m s o).2 }).win, .int .u64 ({ m with b := (mPr m s o).2 }).sav, .bool ({ m with b := (mPr m s o).2 }).rec', .bool ({ m with b := (mPr m s o).2 }).first, .int .u64 ({ m with b := (mPr m s o).2 }).til] ^ blk n1 [.int .u64 ({ m with b := (mPr m s o).2 }).w.w, .int .u64 ({ m with b := (mPr m s o).2 }).w.t0, .int .u64 ({ m with b := (mPr m s o).2 }).w.v0, .int .u64 ({ m with b := (mPr m s o).2 }).w.t1, .int .u64 ({ m with b := (mPr m s o).2 }).w.v1, .int .u64 ({ m with b := (mPr m s o).2 }).w.t2, .int .u64 ({ m with b := (mPr m s o).2 }).w.v2, .int .u64 ({ m with b := (mPr m s o).2 }).w.la] ^ blk n2 [.int .u64 ({ m with b := (mPr m s o).2 }).r.n, .int .u64 ({ m with b := (mPr m s o).2 }).r.nx] ^ blk n3 [.int .u64 ({ m with b := (mPr m s o).2 }).p.best, .int .i64 ({ m with b := (mPr m s o).2 }).p.n, .bool ({ m with b := (mPr m s o).2 }).p.full] ^ blk n4 [.int .i64 ({ m with b := (mPr m s o).2 }).c.ph, .int .u64 ({ m with b := (mPr m s o).2 }).c.at'] ^ blk n5 [.int .u64 ({ m with b := (mPr m s o).2 }).b.best, .int .u64 ({ m with b := (mPr m s o).2 }).b.at', .bool ({ m with b := (mPr m s o).2 }).b.on, .int .u64 ({ m with b := (mPr m s o).2 }).b.til, .bool ({ m with b := (mPr m s o).2 }).b.rd] ^ blk n6 [.bool ({ m with b := (mPr m s o).2 }).q.use, .bool ({ m with b := (mPr m s o).2 }).q.mea, .int .u64 ({ m with b := (mPr m s o).2 }).q.bw, .int .i64 ({ m with b := (mPr m s o).2 }).q.n, .int .u64 ({ m with b := (mPr m s o).2 }).q.lost, .int .u64 ({ m with b := (mPr m s o).2 }).q.t0, .int .u64 ({ m with b := (mPr m s o).2 }).q.d0, .int .u64 ({ m with b := (mPr m s o).2 }).q.l0]) ^ blk x (Ks.mk K_u8b s)) := h.fin
    change ite' (mPr m s o).1.1 _ (ite' (mPr m s o).1.2 _ _) w
    generalize (mPr m s o).1 = r at *
    generalize { m with b := (mPr m s o).2 } = u at *
    refine w_ite (fun c => ?_) fun c => ?_
    · have c : r.1 = true := c
      have e : mProbed u r (sNow s) = { u with sav := if u.win > u.sav then u.win else u.sav, mode := 3 } := by unfold mProbed; rw [if_pos c]
      rw [e]
      refine w_drw h fun w h => w_deref (w_deref (w_ld h rfl (w_ld h rfl (w_deref ?_))))
      refine w_setTo h b [.ptr (some ⟨n1, 0⟩), .ptr (some ⟨n2, 0⟩), .ptr (some ⟨n3, 0⟩), .ptr (some ⟨n4, 0⟩), .ptr (some ⟨n5, 0⟩), .ptr (some ⟨n6, 0⟩), .int .u64 ({ u with sav := if u.win > u.sav then u.win else u.sav }).mss, .int .i64 ({ u with sav := if u.win > u.sav then u.win else u.sav }).mode, .int .u64 ({ u with sav := if u.win > u.sav then u.win else u.sav }).rate, .int .u64 ({ u with sav := if u.win > u.sav then u.win else u.sav }).win, .int .u64 ({ u with sav := if u.win > u.sav then u.win else u.sav }).sav, .bool ({ u with sav := if u.win > u.sav then u.win else u.sav }).rec', .bool ({ u with sav := if u.win > u.sav then u.win else u.sav }).first, .int .u64 ({ u with sav := if u.win > u.sav then u.win else u.sav }).til] rfl rfl rfl fun w h => ?_
      refine w_deref (w_setTo h b [.ptr (some ⟨n1, 0⟩), .ptr (some ⟨n2, 0⟩), .ptr (some ⟨n3, 0⟩), .ptr (some ⟨n4, 0⟩), .ptr (some ⟨n5, 0⟩), .ptr (some ⟨n6, 0⟩), .int .u64 ({ u with sav := if u.win > u.sav then u.win else u.sav, mode := 3 }).mss, .int .i64 ({ u with sav := if u.win > u.sav then u.win else u.sav, mode := 3 }).mode, .int .u64 ({ u with sav := if u.win > u.sav then u.win else u.sav, mode := 3 }).rate, .int .u64 ({ u with sav := if u.win > u.sav then u.win else u.sav, mode := 3 }).win, .int .u64 ({ u with sav := if u.win > u.sav then u.win else u.sav, mode := 3 }).sav, .bool ({ u with sav := if u.win > u.sav then u.win else u.sav, mode := 3 }).rec', .bool ({ u with sav := if u.win > u.sav then u.win else u.sav, mode := 3 }).first, .int .u64 ({ u with sav := if u.win > u.sav then u.win else u.sav, mode := 3 }).til] rfl rfl rfl fun w h => ?_)
      exact h.fin
    have c : r.1 = false := c
    refine w_ite (fun c2 => ?_) fun c2 => ?_
    · have c2 : r.2 = true := c2
      have e : mProbed u r (sNow s) = if u.p.full then mCruise { mBack u with mode := 0 } (sNow s) else { mBack u with mode := 0 } := by unfold mProbed; rw [if_neg (by rw [c]; simp), if_pos c2]
      rw [e]
      refine w_call (back_tri b n1 n2 n3 n4 n5 n6 u) h fun _ w h => ?_
      refine w_deref (w_setTo h b [.ptr (some ⟨n1, 0⟩), .ptr (some ⟨n2, 0⟩), .ptr (some ⟨n3, 0⟩), .ptr (some ⟨n4, 0⟩), .ptr (some ⟨n5, 0⟩), .ptr (some ⟨n6, 0⟩), .int .u64 ({ mBack u with mode := 0 }).mss, .int .i64 ({ mBack u with mode := 0 }).mode, .int .u64 ({ mBack u with mode := 0 }).rate, .int .u64 ({ mBack u with mode := 0 }).win, .int .u64 ({ mBack u with mode := 0 }).sav, .bool ({ mBack u with mode := 0 }).rec', .bool ({ mBack u with mode := 0 }).first, .int .u64 ({ mBack u with mode := 0 }).til] rfl rfl rfl fun w h => ?_)
      refine w_deref (w_ld h rfl ?_)
      refine w_call (full_tri n3 u.p) h fun r w h => ?_
      obtain ⟨hr, h⟩ := h.purP; rw [hr]
      refine w_ite (fun c3 => ?_) fun c3 => ?_
      · have c3 : u.p.full = true := c3
        rw [if_pos c3]
        refine w_ld h rfl ?_
        refine w_call (cruise_tri b n1 n2 n3 n4 n5 n6 { mBack u with mode := 0 } (sNow s)) h fun _ w h => ?_
        exact h.fin
      · have c3 : u.p.full = false := c3
        rw [if_neg (by rw [c3]; simp)]
        exact h.fin
    · have c2 : r.2 = false := c2
      have e : mProbed u r (sNow s) = u := by unfold mProbed; rw [if_neg (by rw [c]; simp), if_neg (by rw [c2]; simp)]
      rw [e]
      exact h.fin
theorem rec_tri : Tri Tryz.prog N_bbr_Model_recover [.lf (.ptr (some ⟨b, 0⟩)), .agg (Ks.mk K_u8b s), .lf (.bool o)] [] (blk b [.ptr (some ⟨n1, 0⟩), .ptr (some ⟨n2, 0⟩), .ptr (some ⟨n3, 0⟩), .ptr (some ⟨n4, 0⟩), .ptr (some ⟨n5, 0⟩), .ptr (some ⟨n6, 0⟩), .int .u64 m.mss, .int .i64 m.mode, .int .u64 m.rate, .int .u64 m.win, .int .u64 m.sav, .bool m.rec', .bool m.first, .int .u64 m.til] ^ blk n1 [.int .u64 m.w.w, .int .u64 m.w.t0, .int .u64 m.w.v0, .int .u64 m.w.t1, .int .u64 m.w.v1, .int .u64 m.w.t2, .int .u64 m.w.v2, .int .u64 m.w.la] ^ blk n2 [.int .u64 m.r.n, .int .u64 m.r.nx] ^ blk n3 [.int .u64 m.p.best, .int .i64 m.p.n, .bool m.p.full] ^ blk n4 [.int .i64 m.c.ph, .int .u64 m.c.at'] ^ blk n5 [.int .u64 m.b.best, .int .u64 m.b.at', .bool m.b.on, .int .u64 m.b.til, .bool m.b.rd] ^ blk n6 [.bool m.q.use, .bool m.q.mea, .int .u64 m.q.bw, .int .i64 m.q.n, .int .u64 m.q.lost, .int .u64 m.q.t0, .int .u64 m.q.d0, .int .u64 m.q.l0]) (fun _ => blk b [.ptr (some ⟨n1, 0⟩), .ptr (some ⟨n2, 0⟩), .ptr (some ⟨n3, 0⟩), .ptr (some ⟨n4, 0⟩), .ptr (some ⟨n5, 0⟩), .ptr (some ⟨n6, 0⟩), .int .u64 (mRecover m s o).mss, .int .i64 (mRecover m s o).mode, .int .u64 (mRecover m s o).rate, .int .u64 (mRecover m s o).win, .int .u64 (mRecover m s o).sav, .bool (mRecover m s o).rec', .bool (mRecover m s o).first, .int .u64 (mRecover m s o).til] ^ blk n1 [.int .u64 (mRecover m s o).w.w, .int .u64 (mRecover m s o).w.t0, .int .u64 (mRecover m s o).w.v0, .int .u64 (mRecover m s o).w.t1, .int .u64 (mRecover m s o).w.v1, .int .u64 (mRecover m s o).w.t2, .int .u64 (mRecover m s o).w.v2, .int .u64 (mRecover m s o).w.la] ^ blk n2 [.int .u64 (mRecover m s o).r.n, .int .u64 (mRecover m s o).r.nx] ^ blk n3 [.int .u64 (mRecover m s o).p.best, .int .i64 (mRecover m s o).p.n, .bool (mRecover m s o).p.full] ^ blk n4 [.int .i64 (mRecover m s o).c.ph, .int .u64 (mRecover m s o).c.at'] ^ blk n5 [.int .u64 (mRecover m s o).b.best, .int .u64 (mRecover m s o).b.at', .bool (mRecover m s o).b.on, .int .u64 (mRecover m s o).b.til, .bool (mRecover m s o).b.rd] ^ blk n6 [.bool (mRecover m s o).q.use, .bool (mRecover m s o).q.mea, .int .u64 (mRecover m s o).q.bw, .int .i64 (mRecover m s o).q.n, .int .u64 (mRecover m s o).q.lost, .int .u64 (mRecover m s o).q.t0, .int .u64 (mRecover m s o).q.d0, .int .u64 (mRecover m s o).q.l0]) :=
  tri_0 (call_bbr_Model_recover _ _ _) fun w0 S R h => by
    unfold W_bbr_Model_recover
    refine w_new h fun x w h => ?_
    have h : Own w0 S R w ((blk b [.ptr (some ⟨n1, 0⟩), .ptr (some ⟨n2, 0⟩), .ptr (some ⟨n3, 0⟩), .ptr (some ⟨n4, 0⟩), .ptr (some ⟨n5, 0⟩), .ptr (some ⟨n6, 0⟩), .int .u64 m.mss, .int .i64 m.mode, .int .u64 m.rate, .int .u64 m.win, .int .u64 m.sav, .bool m.rec', .bool m.first, .int .u64 m.til] ^ blk n1 [.int .u64 m.w.w, .int .u64 m.w.t0, .int .u64 m.w.v0, .int .u64 m.w.t1, .int .u64 m.w.v1, .int .u64 m.w.t2, .int .u64 m.w.v2, .int .u64 m.w.la] ^ blk n2 [.int .u64 m.r.n, .int .u64 m.r.nx] ^ blk n3 [.int .u64 m.p.best, .int .i64 m.p.n, .bool m.p.full] ^ blk n4 [.int .i64 m.c.ph, .int .u64 m.c.at'] ^ blk n5 [.int .u64 m.b.best, .int .u64 m.b.at', .bool m.b.on, .int .u64 m.b.til, .bool m.b.rd] ^ blk n6 [.bool m.q.use, .bool m.q.mea, .int .u64 m.q.bw, .int .i64 m.q.n, .int .u64 m.q.lost, .int .u64 m.q.t0, .int .u64 m.q.d0, .int .u64 m.q.l0]) ^ blk x (Ks.mk K_u8b s)) := h.fin
    refine w_join h (fun _ => (blk b [.ptr (some ⟨n1, 0⟩), .ptr (some ⟨n2, 0⟩), .ptr (some ⟨n3, 0⟩), .ptr (some ⟨n4, 0⟩), .ptr (some ⟨n5, 0⟩), .ptr (some ⟨n6, 0⟩), .int .u64 m.mss, .int .i64 m.mode, .int .u64 m.rate, .int .u64 m.win, .int .u64 m.sav, .bool m.rec', .bool m.first, .int .u64 m.til] ^ blk n1 [.int .u64 m.w.w, .int .u64 m.w.t0, .int .u64 m.w.v0, .int .u64 m.w.t1, .int .u64 m.w.v1, .int .u64 m.w.t2, .int .u64 m.w.v2, .int .u64 m.w.la] ^ blk n2 [.int .u64 m.r.n, .int .u64 m.r.nx] ^ blk n3 [.int .u64 m.p.best, .int .i64 m.p.n, .bool m.p.full] ^ blk n4 [.int .i64 m.c.ph, .int .u64 m.c.at'] ^ blk n5 [.int .u64 m.b.best, .int .u64 m.b.at', .bool m.b.on, .int .u64 m.b.til, .bool m.b.rd] ^ blk n6 [.bool m.q.use, .bool m.q.mea, .int .u64 m.q.bw, .int .i64 m.q.n, .int .u64 m.q.lost, .int .u64 m.q.t0, .int .u64 m.q.d0, .int .u64 m.q.l0]) ^ blk x (Ks.mk K_u8b s)) (fun y : Bool => y = decide (sLost s > 0 ∧ m.rec' = false)) (fun (y : Bool) w hy h => ?_) ?_
    · rw [hy]
      refine w_ite (fun c => ?_) fun c => ?_
      · have c : sLost s > 0 ∧ m.rec' = false := by simpa using c
        have e : mRecover m s o = { m with rec' := true, first := true, til := addI (sDel s) (sFli s), sav := if m.win > m.sav then m.win else m.sav } := by unfold mRecover; rw [if_pos c]
        rw [e]
        refine w_ld h rfl (w_ld h rfl ?_)
        refine w_call (satadd_tri (sDel s) (sFli s) hs.del hs.fli) (h.le ((star_comm _ _).trans (star_mono Le.rfl (star_emp _)))) fun r w h => ?_
        obtain ⟨hr, h⟩ := h.purP; rw [hr]
        refine w_deref (w_setTo h b [.ptr (some ⟨n1, 0⟩), .ptr (some ⟨n2, 0⟩), .ptr (some ⟨n3, 0⟩), .ptr (some ⟨n4, 0⟩), .ptr (some ⟨n5, 0⟩), .ptr (some ⟨n6, 0⟩), .int .u64 ({ m with rec' := true }).mss, .int .i64 ({ m with rec' := true }).mode, .int .u64 ({ m with rec' := true }).rate, .int .u64 ({ m with rec' := true }).win, .int .u64 ({ m with rec' := true }).sav, .bool ({ m with rec' := true }).rec', .bool ({ m with rec' := true }).first, .int .u64 ({ m with rec' := true }).til] rfl rfl rfl fun w h => ?_)
        refine w_deref (w_setTo h b [.ptr (some ⟨n1, 0⟩), .ptr (some ⟨n2, 0⟩), .ptr (some ⟨n3, 0⟩), .ptr (some ⟨n4, 0⟩), .ptr (some ⟨n5, 0⟩), .ptr (some ⟨n6, 0⟩), .int .u64 ({ m with rec' := true, first := true }).mss, .int .i64 ({ m with rec' := true, first := true }).mode, .int .u64 ({ m with rec' := true, first := true }).rate, .int .u64 ({ m with rec' := true, first := true }).win, .int .u64 ({ m with rec' := true, first := true }).sav, .bool ({ m with rec' := true, first := true }).rec', .bool ({ m with rec' := true, first := true }).first, .int .u64 ({ m with rec' := true, first := true }).til] rfl rfl rfl fun w h => ?_)
        refine w_deref (w_setTo h b [.ptr (some ⟨n1, 0⟩), .ptr (some ⟨n2, 0⟩), .ptr (some ⟨n3, 0⟩), .ptr (some ⟨n4, 0⟩), .ptr (some ⟨n5, 0⟩), .ptr (some ⟨n6, 0⟩), .int .u64 ({ m with rec' := true, first := true, til := addI (sDel s) (sFli s) }).mss, .int .i64 ({ m with rec' := true, first := true, til := addI (sDel s) (sFli s) }).mode, .int .u64 ({ m with rec' := true, first := true, til := addI (sDel s) (sFli s) }).rate, .int .u64 ({ m with rec' := true, first := true, til := addI (sDel s) (sFli s) }).win, .int .u64 ({ m with rec' := true, first := true, til := addI (sDel s) (sFli s) }).sav, .bool ({ m with rec' := true, first := true, til := addI (sDel s) (sFli s) }).rec', .bool ({ m with rec' := true, first := true, til := addI (sDel s) (sFli s) }).first, .int .u64 ({ m with rec' := true, first := true, til := addI (sDel s) (sFli s) }).til] rfl rfl rfl fun w h => ?_)
        refine w_drw h fun w h => w_deref (w_deref (w_ld h rfl (w_ld h rfl (w_deref ?_))))
        refine w_setTo h b [.ptr (some ⟨n1, 0⟩), .ptr (some ⟨n2, 0⟩), .ptr (some ⟨n3, 0⟩), .ptr (some ⟨n4, 0⟩), .ptr (some ⟨n5, 0⟩), .ptr (some ⟨n6, 0⟩), .int .u64 ({ m with rec' := true, first := true, til := addI (sDel s) (sFli s), sav := if m.win > m.sav then m.win else m.sav }).mss, .int .i64 ({ m with rec' := true, first := true, til := addI (sDel s) (sFli s), sav := if m.win > m.sav then m.win else m.sav }).mode, .int .u64 ({ m with rec' := true, first := true, til := addI (sDel s) (sFli s), sav := if m.win > m.sav then m.win else m.sav }).rate, .int .u64 ({ m with rec' := true, first := true, til := addI (sDel s) (sFli s), sav := if m.win > m.sav then m.win else m.sav }).win, .int .u64 ({ m with rec' := true, first := true, til := addI (sDel s) (sFli s), sav := if m.win > m.sav then m.win else m.sav }).sav, .bool ({ m with rec' := true, first := true, til := addI (sDel s) (sFli s), sav := if m.win > m.sav then m.win else m.sav }).rec', .bool ({ m with rec' := true, first := true, til := addI (sDel s) (sFli s), sav := if m.win > m.sav then m.win else m.sav }).first, .int .u64 ({ m with rec' := true, first := true, til := addI (sDel s) (sFli s), sav := if m.win > m.sav then m.win else m.sav }).til] rfl rfl rfl fun w h => ?_
        exact h.fin
      have c : ¬ (sLost s > 0 ∧ m.rec' = false) := by simpa using c
      refine w_deref (w_ld h rfl ?_)
      refine w_ite (fun c2 => ?_) fun c2 => ?_
      · have c2 : m.rec' = true := c2
        have e : mRecover m s o = if sDel s < m.til then { m with first := m.first && !o } else mOver { m with first := m.first && !o } := by unfold mRecover; rw [if_neg c, if_pos c2]
        rw [e]
        refine w_deref (w_ld h rfl (w_deref ?_))
        refine w_setTo h b [.ptr (some ⟨n1, 0⟩), .ptr (some ⟨n2, 0⟩), .ptr (some ⟨n3, 0⟩), .ptr (some ⟨n4, 0⟩), .ptr (some ⟨n5, 0⟩), .ptr (some ⟨n6, 0⟩), .int .u64 ({ m with first := m.first && !o }).mss, .int .i64 ({ m with first := m.first && !o }).mode, .int .u64 ({ m with first := m.first && !o }).rate, .int .u64 ({ m with first := m.first && !o }).win, .int .u64 ({ m with first := m.first && !o }).sav, .bool ({ m with first := m.first && !o }).rec', .bool ({ m with first := m.first && !o }).first, .int .u64 ({ m with first := m.first && !o }).til] rfl rfl rfl fun w h => ?_
        refine w_drw h fun w h => w_ld h rfl (w_deref (w_ld h rfl ?_))
        refine w_ite (fun c3 => ?_) fun c3 => ?_
        · have c3 : sDel s < m.til := by simpa using c3
          rw [if_pos c3]
          exact h.fin
        have c3 : ¬ sDel s < m.til := by simpa using c3
        rw [if_neg c3]
        have h : Own w0 S R w ((blk b [.ptr (some ⟨n1, 0⟩), .ptr (some ⟨n2, 0⟩), .ptr (some ⟨n3, 0⟩), .ptr (some ⟨n4, 0⟩), .ptr (some ⟨n5, 0⟩), .ptr (some ⟨n6, 0⟩), .int .u64 ({ m with first := m.first && !o }).mss, .int .i64 ({ m with first := m.first && !o }).mode, .int .u64 ({ m with first := m.first && !o }).rate, .int .u64 ({ m with first := m.first && !o }).win, .int .u64 ({ m with first := m.first && !o }).sav, .bool ({ m with first := m.first && !o }).rec', .bool ({ m with first := m.first && !o }).first, .int .u64 ({ m with first := m.first && !o }).til] ^ blk n1 [.int .u64 ({ m with first := m.first && !o }).w.w, .int .u64 ({ m with first := m.first && !o }).w.t0, .int .u64 ({ m with first := m.first && !o }).w.v0, .int .u64 ({ m with first := m.first && !o }).w.t1, .int .u64 ({ m with first := m.first && !o }).w.v1, .int .u64 ({ m with first := m.first && !o }).w.t2, .int .u64 ({ m with first := m.first && !o }).w.v2, .int .u64 ({ m with first := m.first && !o }).w.la] ^ blk n2 [.int .u64 ({ m with first := m.first && !o }).r.n, .int .u64 ({ m with first := m.first && !o }).r.nx] ^ blk n3 [.int .u64 ({ m with first := m.first && !o }).p.best, .int .i64 ({ m with first := m.first && !o }).p.n, .bool ({ m with first := m.first && !o }).p.full] ^ blk n4 [.int .i64 ({ m with first := m.first && !o }).c.ph, .int .u64 ({ m with first := m.first && !o }).c.at'] ^ blk n5 [.int .u64 ({ m with first := m.first && !o }).b.best, .int .u64 ({ m with first := m.first && !o }).b.at', .bool ({ m with first := m.first && !o }).b.on, .int .u64 ({ m with first := m.first && !o }).b.til, .bool ({ m with first := m.first && !o }).b.rd] ^ blk n6 [.bool ({ m with first := m.first && !o }).q.use, .bool ({ m with first := m.first && !o }).q.mea, .int .u64 ({ m with first := m.first && !o }).q.bw, .int .i64 ({ m with first := m.first && !o }).q.n, .int .u64 ({ m with first := m.first && !o }).q.lost, .int .u64 ({ m with first := m.first && !o }).q.t0, .int .u64 ({ m with first := m.first && !o }).q.d0, .int .u64 ({ m with first := m.first && !o }).q.l0]) ^ blk x (Ks.mk K_u8b s)) := h.fin
        generalize { m with first := m.first && !o } = u at *
        refine w_deref (w_setTo h b [.ptr (some ⟨n1, 0⟩), .ptr (some ⟨n2, 0⟩), .ptr (some ⟨n3, 0⟩), .ptr (some ⟨n4, 0⟩), .ptr (some ⟨n5, 0⟩), .ptr (some ⟨n6, 0⟩), .int .u64 ({ u with rec' := false }).mss, .int .i64 ({ u with rec' := false }).mode, .int .u64 ({ u with rec' := false }).rate, .int .u64 ({ u with rec' := false }).win, .int .u64 ({ u with rec' := false }).sav, .bool ({ u with rec' := false }).rec', .bool ({ u with rec' := false }).first, .int .u64 ({ u with rec' := false }).til] rfl rfl rfl fun w h => ?_)
        refine w_deref (w_setTo h b [.ptr (some ⟨n1, 0⟩), .ptr (some ⟨n2, 0⟩), .ptr (some ⟨n3, 0⟩), .ptr (some ⟨n4, 0⟩), .ptr (some ⟨n5, 0⟩), .ptr (some ⟨n6, 0⟩), .int .u64 ({ u with rec' := false, first := false }).mss, .int .i64 ({ u with rec' := false, first := false }).mode, .int .u64 ({ u with rec' := false, first := false }).rate, .int .u64 ({ u with rec' := false, first := false }).win, .int .u64 ({ u with rec' := false, first := false }).sav, .bool ({ u with rec' := false, first := false }).rec', .bool ({ u with rec' := false, first := false }).first, .int .u64 ({ u with rec' := false, first := false }).til] rfl rfl rfl fun w h => ?_)
        refine w_deref (w_ld h rfl ?_)
        refine w_ite (fun c4 => ?_) fun c4 => ?_
        · have c4 : u.mode ≠ 3 := by simpa using c4
          have e : mOver u = mBack { u with rec' := false, first := false } := by unfold mOver; rw [if_pos c4]
          rw [e]
          refine w_call (back_tri b n1 n2 n3 n4 n5 n6 { u with rec' := false, first := false }) h fun _ w h => ?_
          exact h.fin
        · have c4 : ¬ u.mode ≠ 3 := by simpa using c4
          have e : mOver u = { u with rec' := false, first := false } := by unfold mOver; rw [if_neg c4]
          rw [e]
          exact h.fin
      · have c2 : m.rec' = false := c2
        have e : mRecover m s o = m := by unfold mRecover; rw [if_neg c, if_neg (by rw [c2]; simp)]
        rw [e]
        exact h.fin
    · refine w_ld h rfl ?_
      refine w_ite (fun c => ?_) fun c => ?_
      · have c : sLost s > 0 := by simpa using c
        refine w_deref (w_ld h rfl ?_)
        exact ⟨by rw [Bool.eq_iff_iff]; simp [c], h⟩
      · have c : ¬ sLost s > 0 := by simpa using c
        exact ⟨by simp [c], h⟩
omit hs in
theorem pace_tri : Tri Tryz.prog N_bbr_Model_pace [.lf (.ptr (some ⟨b, 0⟩))] [] (blk b [.ptr (some ⟨n1, 0⟩), .ptr (some ⟨n2, 0⟩), .ptr (some ⟨n3, 0⟩), .ptr (some ⟨n4, 0⟩), .ptr (some ⟨n5, 0⟩), .ptr (some ⟨n6, 0⟩), .int .u64 m.mss, .int .i64 m.mode, .int .u64 m.rate, .int .u64 m.win, .int .u64 m.sav, .bool m.rec', .bool m.first, .int .u64 m.til] ^ blk n1 [.int .u64 m.w.w, .int .u64 m.w.t0, .int .u64 m.w.v0, .int .u64 m.w.t1, .int .u64 m.w.v1, .int .u64 m.w.t2, .int .u64 m.w.v2, .int .u64 m.w.la] ^ blk n2 [.int .u64 m.r.n, .int .u64 m.r.nx] ^ blk n3 [.int .u64 m.p.best, .int .i64 m.p.n, .bool m.p.full] ^ blk n4 [.int .i64 m.c.ph, .int .u64 m.c.at'] ^ blk n5 [.int .u64 m.b.best, .int .u64 m.b.at', .bool m.b.on, .int .u64 m.b.til, .bool m.b.rd] ^ blk n6 [.bool m.q.use, .bool m.q.mea, .int .u64 m.q.bw, .int .i64 m.q.n, .int .u64 m.q.lost, .int .u64 m.q.t0, .int .u64 m.q.d0, .int .u64 m.q.l0]) (fun _ => blk b [.ptr (some ⟨n1, 0⟩), .ptr (some ⟨n2, 0⟩), .ptr (some ⟨n3, 0⟩), .ptr (some ⟨n4, 0⟩), .ptr (some ⟨n5, 0⟩), .ptr (some ⟨n6, 0⟩), .int .u64 (mPace m).mss, .int .i64 (mPace m).mode, .int .u64 (mPace m).rate, .int .u64 (mPace m).win, .int .u64 (mPace m).sav, .bool (mPace m).rec', .bool (mPace m).first, .int .u64 (mPace m).til] ^ blk n1 [.int .u64 (mPace m).w.w, .int .u64 (mPace m).w.t0, .int .u64 (mPace m).w.v0, .int .u64 (mPace m).w.t1, .int .u64 (mPace m).w.v1, .int .u64 (mPace m).w.t2, .int .u64 (mPace m).w.v2, .int .u64 (mPace m).w.la] ^ blk n2 [.int .u64 (mPace m).r.n, .int .u64 (mPace m).r.nx] ^ blk n3 [.int .u64 (mPace m).p.best, .int .i64 (mPace m).p.n, .bool (mPace m).p.full] ^ blk n4 [.int .i64 (mPace m).c.ph, .int .u64 (mPace m).c.at'] ^ blk n5 [.int .u64 (mPace m).b.best, .int .u64 (mPace m).b.at', .bool (mPace m).b.on, .int .u64 (mPace m).b.til, .bool (mPace m).b.rd] ^ blk n6 [.bool (mPace m).q.use, .bool (mPace m).q.mea, .int .u64 (mPace m).q.bw, .int .i64 (mPace m).q.n, .int .u64 (mPace m).q.lost, .int .u64 (mPace m).q.t0, .int .u64 (mPace m).q.d0, .int .u64 (mPace m).q.l0]) :=
  tri_0 (call_bbr_Model_pace _) fun w0 S R h => by
    unfold W_bbr_Model_pace
    have h : Own w0 S R w0 ((blk b [.ptr (some ⟨n1, 0⟩), .ptr (some ⟨n2, 0⟩), .ptr (some ⟨n3, 0⟩), .ptr (some ⟨n4, 0⟩), .ptr (some ⟨n5, 0⟩), .ptr (some ⟨n6, 0⟩), .int .u64 m.mss, .int .i64 m.mode, .int .u64 m.rate, .int .u64 m.win, .int .u64 m.sav, .bool m.rec', .bool m.first, .int .u64 m.til] ^ blk n1 [.int .u64 m.w.w, .int .u64 m.w.t0, .int .u64 m.w.v0, .int .u64 m.w.t1, .int .u64 m.w.v1, .int .u64 m.w.t2, .int .u64 m.w.v2, .int .u64 m.w.la] ^ blk n2 [.int .u64 m.r.n, .int .u64 m.r.nx] ^ blk n3 [.int .u64 m.p.best, .int .i64 m.p.n, .bool m.p.full] ^ blk n4 [.int .i64 m.c.ph, .int .u64 m.c.at'] ^ blk n5 [.int .u64 m.b.best, .int .u64 m.b.at', .bool m.b.on, .int .u64 m.b.til, .bool m.b.rd] ^ blk n6 [.bool m.q.use, .bool m.q.mea, .int .u64 m.q.bw, .int .i64 m.q.n, .int .u64 m.q.lost, .int .u64 m.q.t0, .int .u64 m.q.d0, .int .u64 m.q.l0]) ^ emp) := h.le (star_emp _)
    repeat' (first
      | (refine w_drw h fun w h => ?_)
      | (refine w_deref ?_)
      | (refine w_ldAll h rfl ?_)
      | (refine w_ld h rfl ?_)
      | (refine w_chkAll h ?_)
      | (refine w_chk h rfl ?_)
      | (refine w_setAll h (by rfl) fun w h => ?_)
      | (refine w_new h fun n w h => ?_)
      | (refine w_leave h fun w h => ?_)
      | (refine w_set h rfl fun w h => ?_; dsimp only [upd, over] at h)
      | (refine w_call (bw_tri b n1 n2 n3 n4 n5 n6 m) h fun r w h => ?_; obtain ⟨hr, h⟩ := h.purP; (try dsimp only at hr h); try rw [hr]))
    refine w_ite (fun c => ?_) fun c => ?_
    · have c : mBw m = 0 := by simpa using c
      have e : mPace m = m := by unfold mPace; rw [if_pos c]
      rw [e]
      exact h.fin
    have c : ¬ mBw m = 0 := by simpa using c
    repeat' (first
      | (refine w_drw h fun w h => ?_)
      | (refine w_deref ?_)
      | (refine w_ldAll h rfl ?_)
      | (refine w_ld h rfl ?_)
      | (refine w_chkAll h ?_)
      | (refine w_chk h rfl ?_)
      | (refine w_setAll h (by rfl) fun w h => ?_)
      | (refine w_new h fun n w h => ?_)
      | (refine w_leave h fun w h => ?_)
      | (refine w_set h rfl fun w h => ?_; dsimp only [upd, over] at h)
      | (refine w_call (bw_tri b n1 n2 n3 n4 n5 n6 m) h fun r w h => ?_; obtain ⟨hr, h⟩ := h.purP; (try dsimp only at hr h); try rw [hr])
      | (refine w_call (gainm_tri b n1 n2 n3 n4 n5 n6 m) h fun r w h => ?_; obtain ⟨hr, h⟩ := h.purP; (try dsimp only at hr h); try rw [hr])
      | (refine w_call (rate_tri (mBw m) (mGain m) hm.bw (U_gain m)) h fun r w h => ?_; obtain ⟨hr, h⟩ := h.purP; (try dsimp only at hr h); try rw [hr]))
    have e : mPace m = if m.p.full = true ∨ mRt m > m.rate then { m with rate := mRt m } else m := by unfold mPace; rw [if_neg c]
    rw [e]
    have h : Own w0 S R _ (blk b [.ptr (some ⟨n1, 0⟩), .ptr (some ⟨n2, 0⟩), .ptr (some ⟨n3, 0⟩), .ptr (some ⟨n4, 0⟩), .ptr (some ⟨n5, 0⟩), .ptr (some ⟨n6, 0⟩), .int .u64 m.mss, .int .i64 m.mode, .int .u64 m.rate, .int .u64 m.win, .int .u64 m.sav, .bool m.rec', .bool m.first, .int .u64 m.til] ^ blk n1 [.int .u64 m.w.w, .int .u64 m.w.t0, .int .u64 m.w.v0, .int .u64 m.w.t1, .int .u64 m.w.v1, .int .u64 m.w.t2, .int .u64 m.w.v2, .int .u64 m.w.la] ^ blk n2 [.int .u64 m.r.n, .int .u64 m.r.nx] ^ blk n3 [.int .u64 m.p.best, .int .i64 m.p.n, .bool m.p.full] ^ blk n4 [.int .i64 m.c.ph, .int .u64 m.c.at'] ^ blk n5 [.int .u64 m.b.best, .int .u64 m.b.at', .bool m.b.on, .int .u64 m.b.til, .bool m.b.rd] ^ blk n6 [.bool m.q.use, .bool m.q.mea, .int .u64 m.q.bw, .int .i64 m.q.n, .int .u64 m.q.lost, .int .u64 m.q.t0, .int .u64 m.q.d0, .int .u64 m.q.l0]) := h.fin
    refine w_join h (fun _ => blk b [.ptr (some ⟨n1, 0⟩), .ptr (some ⟨n2, 0⟩), .ptr (some ⟨n3, 0⟩), .ptr (some ⟨n4, 0⟩), .ptr (some ⟨n5, 0⟩), .ptr (some ⟨n6, 0⟩), .int .u64 m.mss, .int .i64 m.mode, .int .u64 m.rate, .int .u64 m.win, .int .u64 m.sav, .bool m.rec', .bool m.first, .int .u64 m.til] ^ blk n1 [.int .u64 m.w.w, .int .u64 m.w.t0, .int .u64 m.w.v0, .int .u64 m.w.t1, .int .u64 m.w.v1, .int .u64 m.w.t2, .int .u64 m.w.v2, .int .u64 m.w.la] ^ blk n2 [.int .u64 m.r.n, .int .u64 m.r.nx] ^ blk n3 [.int .u64 m.p.best, .int .i64 m.p.n, .bool m.p.full] ^ blk n4 [.int .i64 m.c.ph, .int .u64 m.c.at'] ^ blk n5 [.int .u64 m.b.best, .int .u64 m.b.at', .bool m.b.on, .int .u64 m.b.til, .bool m.b.rd] ^ blk n6 [.bool m.q.use, .bool m.q.mea, .int .u64 m.q.bw, .int .i64 m.q.n, .int .u64 m.q.lost, .int .u64 m.q.t0, .int .u64 m.q.d0, .int .u64 m.q.l0]) (fun y : Bool => y = decide (m.p.full = true ∨ mRt m > m.rate)) (fun (y : Bool) w hy h => ?_) ?_
    · rw [hy]
      refine w_ite (fun c2 => ?_) fun c2 => ?_
      · have c2 : m.p.full = true ∨ mRt m > m.rate := by simpa using c2
        rw [if_pos c2]
        refine w_deref (w_setTo h b [.ptr (some ⟨n1, 0⟩), .ptr (some ⟨n2, 0⟩), .ptr (some ⟨n3, 0⟩), .ptr (some ⟨n4, 0⟩), .ptr (some ⟨n5, 0⟩), .ptr (some ⟨n6, 0⟩), .int .u64 ({ m with rate := mRt m }).mss, .int .i64 ({ m with rate := mRt m }).mode, .int .u64 ({ m with rate := mRt m }).rate, .int .u64 ({ m with rate := mRt m }).win, .int .u64 ({ m with rate := mRt m }).sav, .bool ({ m with rate := mRt m }).rec', .bool ({ m with rate := mRt m }).first, .int .u64 ({ m with rate := mRt m }).til] rfl rfl rfl fun w h => ?_)
        exact h.fin
      · have c2 : ¬ (m.p.full = true ∨ mRt m > m.rate) := by simpa using c2
        rw [if_neg c2]
        exact h.fin
    · repeat' (first
        | (refine w_drw h fun w h => ?_)
        | (refine w_deref ?_)
        | (refine w_ldAll h rfl ?_)
        | (refine w_ld h rfl ?_)
        | (refine w_chkAll h ?_)
        | (refine w_chk h rfl ?_)
        | (refine w_setAll h (by rfl) fun w h => ?_)
        | (refine w_new h fun n w h => ?_)
        | (refine w_leave h fun w h => ?_)
        | (refine w_set h rfl fun w h => ?_; dsimp only [upd, over] at h)
        | (refine w_call (full_tri n3 m.p) h fun r w h => ?_; obtain ⟨hr, h⟩ := h.purP; (try dsimp only at hr h); try rw [hr]))
      refine w_ite (fun c2 => ?_) fun c2 => ?_
      · have c2 : m.p.full = true := c2
        exact ⟨by simp [c2], h.fin⟩
      · have c2 : m.p.full = false := c2
        repeat' (first
          | (refine w_drw h fun w h => ?_)
          | (refine w_deref ?_)
          | (refine w_ldAll h rfl ?_)
          | (refine w_ld h rfl ?_)
          | (refine w_chkAll h ?_)
          | (refine w_chk h rfl ?_)
          | (refine w_setAll h (by rfl) fun w h => ?_)
          | (refine w_new h fun n w h => ?_)
          | (refine w_leave h fun w h => ?_)
          | (refine w_set h rfl fun w h => ?_; dsimp only [upd, over] at h))
        exact ⟨by rw [Bool.eq_iff_iff]; simp [c2, mRt], h.fin⟩
end
end BbrO

namespace BbrU
open Arith ArithC _root_.Go.X.Target BbrM BbrMm BbrP BbrW BbrQ BbrL BbrN BbrO
section
variable (b n1 n2 n3 n4 n5 n6 : Nat) (m : Md) (hm : OkM m) (s : Sm) (hs : OkS s) (tso : Int) (ht : U tso)
include hm hs ht
theorem window_tri : Tri Tryz.prog N_bbr_Model_window [.lf (.ptr (some ⟨b, 0⟩)), .agg (Ks.mk K_u8b s), .lf (.int .u64 tso)] [] (blk b [.ptr (some ⟨n1, 0⟩), .ptr (some ⟨n2, 0⟩), .ptr (some ⟨n3, 0⟩), .ptr (some ⟨n4, 0⟩), .ptr (some ⟨n5, 0⟩), .ptr (some ⟨n6, 0⟩), .int .u64 m.mss, .int .i64 m.mode, .int .u64 m.rate, .int .u64 m.win, .int .u64 m.sav, .bool m.rec', .bool m.first, .int .u64 m.til] ^ blk n1 [.int .u64 m.w.w, .int .u64 m.w.t0, .int .u64 m.w.v0, .int .u64 m.w.t1, .int .u64 m.w.v1, .int .u64 m.w.t2, .int .u64 m.w.v2, .int .u64 m.w.la] ^ blk n2 [.int .u64 m.r.n, .int .u64 m.r.nx] ^ blk n3 [.int .u64 m.p.best, .int .i64 m.p.n, .bool m.p.full] ^ blk n4 [.int .i64 m.c.ph, .int .u64 m.c.at'] ^ blk n5 [.int .u64 m.b.best, .int .u64 m.b.at', .bool m.b.on, .int .u64 m.b.til, .bool m.b.rd] ^ blk n6 [.bool m.q.use, .bool m.q.mea, .int .u64 m.q.bw, .int .i64 m.q.n, .int .u64 m.q.lost, .int .u64 m.q.t0, .int .u64 m.q.d0, .int .u64 m.q.l0]) (fun _ => blk b [.ptr (some ⟨n1, 0⟩), .ptr (some ⟨n2, 0⟩), .ptr (some ⟨n3, 0⟩), .ptr (some ⟨n4, 0⟩), .ptr (some ⟨n5, 0⟩), .ptr (some ⟨n6, 0⟩), .int .u64 (mWindow m s tso).mss, .int .i64 (mWindow m s tso).mode, .int .u64 (mWindow m s tso).rate, .int .u64 (mWindow m s tso).win, .int .u64 (mWindow m s tso).sav, .bool (mWindow m s tso).rec', .bool (mWindow m s tso).first, .int .u64 (mWindow m s tso).til] ^ blk n1 [.int .u64 (mWindow m s tso).w.w, .int .u64 (mWindow m s tso).w.t0, .int .u64 (mWindow m s tso).w.v0, .int .u64 (mWindow m s tso).w.t1, .int .u64 (mWindow m s tso).w.v1, .int .u64 (mWindow m s tso).w.t2, .int .u64 (mWindow m s tso).w.v2, .int .u64 (mWindow m s tso).w.la] ^ blk n2 [.int .u64 (mWindow m s tso).r.n, .int .u64 (mWindow m s tso).r.nx] ^ blk n3 [.int .u64 (mWindow m s tso).p.best, .int .i64 (mWindow m s tso).p.n, .bool (mWindow m s tso).p.full] ^ blk n4 [.int .i64 (mWindow m s tso).c.ph, .int .u64 (mWindow m s tso).c.at'] ^ blk n5 [.int .u64 (mWindow m s tso).b.best, .int .u64 (mWindow m s tso).b.at', .bool (mWindow m s tso).b.on, .int .u64 (mWindow m s tso).b.til, .bool (mWindow m s tso).b.rd] ^ blk n6 [.bool (mWindow m s tso).q.use, .bool (mWindow m s tso).q.mea, .int .u64 (mWindow m s tso).q.bw, .int .i64 (mWindow m s tso).q.n, .int .u64 (mWindow m s tso).q.lost, .int .u64 (mWindow m s tso).q.t0, .int .u64 (mWindow m s tso).q.d0, .int .u64 (mWindow m s tso).q.l0]) :=
  tri_0 (call_bbr_Model_window _ _ _) fun w0 S R h => by
    unfold W_bbr_Model_window
    refine w_new h fun x w h => ?_
    have h : Own w0 S R w ((blk b [.ptr (some ⟨n1, 0⟩), .ptr (some ⟨n2, 0⟩), .ptr (some ⟨n3, 0⟩), .ptr (some ⟨n4, 0⟩), .ptr (some ⟨n5, 0⟩), .ptr (some ⟨n6, 0⟩), .int .u64 m.mss, .int .i64 m.mode, .int .u64 m.rate, .int .u64 m.win, .int .u64 m.sav, .bool m.rec', .bool m.first, .int .u64 m.til] ^ blk n1 [.int .u64 m.w.w, .int .u64 m.w.t0, .int .u64 m.w.v0, .int .u64 m.w.t1, .int .u64 m.w.v1, .int .u64 m.w.t2, .int .u64 m.w.v2, .int .u64 m.w.la] ^ blk n2 [.int .u64 m.r.n, .int .u64 m.r.nx] ^ blk n3 [.int .u64 m.p.best, .int .i64 m.p.n, .bool m.p.full] ^ blk n4 [.int .i64 m.c.ph, .int .u64 m.c.at'] ^ blk n5 [.int .u64 m.b.best, .int .u64 m.b.at', .bool m.b.on, .int .u64 m.b.til, .bool m.b.rd] ^ blk n6 [.bool m.q.use, .bool m.q.mea, .int .u64 m.q.bw, .int .i64 m.q.n, .int .u64 m.q.lost, .int .u64 m.q.t0, .int .u64 m.q.d0, .int .u64 m.q.l0]) ^ blk x (Ks.mk K_u8b s) ^ emp) := h.fin
    refine w_drw h fun w h => w_deref (w_ld h rfl (w_deref (w_ld h rfl (w_ld h rfl ?_))))
    refine w_call (satsub_tri m.win (sLost s) hm.win hs.lost) h fun r w h => ?_
    obtain ⟨hr, h⟩ := h.purP; rw [hr]
    refine w_chk h rfl ?_
    refine w_deref (w_setTo h b [.ptr (some ⟨n1, 0⟩), .ptr (some ⟨n2, 0⟩), .ptr (some ⟨n3, 0⟩), .ptr (some ⟨n4, 0⟩), .ptr (some ⟨n5, 0⟩), .ptr (some ⟨n6, 0⟩), .int .u64 (mW1 m s).mss, .int .i64 (mW1 m s).mode, .int .u64 (mW1 m s).rate, .int .u64 (mW1 m s).win, .int .u64 (mW1 m s).sav, .bool (mW1 m s).rec', .bool (mW1 m s).first, .int .u64 (mW1 m s).til] rfl rfl rfl fun w h => ?_)
    have e : mWindow m s tso = mW4 (mW3 (mW2 (mW1 m s) s tso)) := rfl
    rw [e]
    have h : Own w0 S R w ((blk b [.ptr (some ⟨n1, 0⟩), .ptr (some ⟨n2, 0⟩), .ptr (some ⟨n3, 0⟩), .ptr (some ⟨n4, 0⟩), .ptr (some ⟨n5, 0⟩), .ptr (some ⟨n6, 0⟩), .int .u64 (mW1 m s).mss, .int .i64 (mW1 m s).mode, .int .u64 (mW1 m s).rate, .int .u64 (mW1 m s).win, .int .u64 (mW1 m s).sav, .bool (mW1 m s).rec', .bool (mW1 m s).first, .int .u64 (mW1 m s).til] ^ blk n1 [.int .u64 (mW1 m s).w.w, .int .u64 (mW1 m s).w.t0, .int .u64 (mW1 m s).w.v0, .int .u64 (mW1 m s).w.t1, .int .u64 (mW1 m s).w.v1, .int .u64 (mW1 m s).w.t2, .int .u64 (mW1 m s).w.v2, .int .u64 (mW1 m s).w.la] ^ blk n2 [.int .u64 (mW1 m s).r.n, .int .u64 (mW1 m s).r.nx] ^ blk n3 [.int .u64 (mW1 m s).p.best, .int .i64 (mW1 m s).p.n, .bool (mW1 m s).p.full] ^ blk n4 [.int .i64 (mW1 m s).c.ph, .int .u64 (mW1 m s).c.at'] ^ blk n5 [.int .u64 (mW1 m s).b.best, .int .u64 (mW1 m s).b.at', .bool (mW1 m s).b.on, .int .u64 (mW1 m s).b.til, .bool (mW1 m s).b.rd] ^ blk n6 [.bool (mW1 m s).q.use, .bool (mW1 m s).q.mea, .int .u64 (mW1 m s).q.bw, .int .i64 (mW1 m s).q.n, .int .u64 (mW1 m s).q.lost, .int .u64 (mW1 m s).q.t0, .int .u64 (mW1 m s).q.d0, .int .u64 (mW1 m s).q.l0]) ^ blk x (Ks.mk K_u8b s)) := h.fin
    have hu := hm.w1 hs
    generalize mW1 m s = u at *
    refine w_join h (fun _ => (blk b [.ptr (some ⟨n1, 0⟩), .ptr (some ⟨n2, 0⟩), .ptr (some ⟨n3, 0⟩), .ptr (some ⟨n4, 0⟩), .ptr (some ⟨n5, 0⟩), .ptr (some ⟨n6, 0⟩), .int .u64 (mW2 u s tso).mss, .int .i64 (mW2 u s tso).mode, .int .u64 (mW2 u s tso).rate, .int .u64 (mW2 u s tso).win, .int .u64 (mW2 u s tso).sav, .bool (mW2 u s tso).rec', .bool (mW2 u s tso).first, .int .u64 (mW2 u s tso).til] ^ blk n1 [.int .u64 (mW2 u s tso).w.w, .int .u64 (mW2 u s tso).w.t0, .int .u64 (mW2 u s tso).w.v0, .int .u64 (mW2 u s tso).w.t1, .int .u64 (mW2 u s tso).w.v1, .int .u64 (mW2 u s tso).w.t2, .int .u64 (mW2 u s tso).w.v2, .int .u64 (mW2 u s tso).w.la] ^ blk n2 [.int .u64 (mW2 u s tso).r.n, .int .u64 (mW2 u s tso).r.nx] ^ blk n3 [.int .u64 (mW2 u s tso).p.best, .int .i64 (mW2 u s tso).p.n, .bool (mW2 u s tso).p.full] ^ blk n4 [.int .i64 (mW2 u s tso).c.ph, .int .u64 (mW2 u s tso).c.at'] ^ blk n5 [.int .u64 (mW2 u s tso).b.best, .int .u64 (mW2 u s tso).b.at', .bool (mW2 u s tso).b.on, .int .u64 (mW2 u s tso).b.til, .bool (mW2 u s tso).b.rd] ^ blk n6 [.bool (mW2 u s tso).q.use, .bool (mW2 u s tso).q.mea, .int .u64 (mW2 u s tso).q.bw, .int .i64 (mW2 u s tso).q.n, .int .u64 (mW2 u s tso).q.lost, .int .u64 (mW2 u s tso).q.t0, .int .u64 (mW2 u s tso).q.d0, .int .u64 (mW2 u s tso).q.l0]) ^ blk x (Ks.mk K_u8b s)) (fun _ => True) (fun _ w _ h => ?_) ?_
    · have hv := hu.w2 hs ht
      generalize mW2 u s tso = v at *
      refine w_drw h fun w h => w_deref (w_ld h rfl ?_)
      refine w_call (floor_tri b n1 n2 n3 n4 n5 n6 v hv) h fun r w h => ?_
      obtain ⟨hr, h⟩ := h.purP; rw [hr]
      refine w_chk h rfl ?_
      refine w_deref (w_setTo h b [.ptr (some ⟨n1, 0⟩), .ptr (some ⟨n2, 0⟩), .ptr (some ⟨n3, 0⟩), .ptr (some ⟨n4, 0⟩), .ptr (some ⟨n5, 0⟩), .ptr (some ⟨n6, 0⟩), .int .u64 (mW3 v).mss, .int .i64 (mW3 v).mode, .int .u64 (mW3 v).rate, .int .u64 (mW3 v).win, .int .u64 (mW3 v).sav, .bool (mW3 v).rec', .bool (mW3 v).first, .int .u64 (mW3 v).til] rfl rfl rfl fun w h => ?_)
      refine w_deref (w_ld h rfl ?_)
      have h : Own w0 S R w ((blk b [.ptr (some ⟨n1, 0⟩), .ptr (some ⟨n2, 0⟩), .ptr (some ⟨n3, 0⟩), .ptr (some ⟨n4, 0⟩), .ptr (some ⟨n5, 0⟩), .ptr (some ⟨n6, 0⟩), .int .u64 (mW3 v).mss, .int .i64 (mW3 v).mode, .int .u64 (mW3 v).rate, .int .u64 (mW3 v).win, .int .u64 (mW3 v).sav, .bool (mW3 v).rec', .bool (mW3 v).first, .int .u64 (mW3 v).til] ^ blk n1 [.int .u64 (mW3 v).w.w, .int .u64 (mW3 v).w.t0, .int .u64 (mW3 v).w.v0, .int .u64 (mW3 v).w.t1, .int .u64 (mW3 v).w.v1, .int .u64 (mW3 v).w.t2, .int .u64 (mW3 v).w.v2, .int .u64 (mW3 v).w.la] ^ blk n2 [.int .u64 (mW3 v).r.n, .int .u64 (mW3 v).r.nx] ^ blk n3 [.int .u64 (mW3 v).p.best, .int .i64 (mW3 v).p.n, .bool (mW3 v).p.full] ^ blk n4 [.int .i64 (mW3 v).c.ph, .int .u64 (mW3 v).c.at'] ^ blk n5 [.int .u64 (mW3 v).b.best, .int .u64 (mW3 v).b.at', .bool (mW3 v).b.on, .int .u64 (mW3 v).b.til, .bool (mW3 v).b.rd] ^ blk n6 [.bool (mW3 v).q.use, .bool (mW3 v).q.mea, .int .u64 (mW3 v).q.bw, .int .i64 (mW3 v).q.n, .int .u64 (mW3 v).q.lost, .int .u64 (mW3 v).q.t0, .int .u64 (mW3 v).q.d0, .int .u64 (mW3 v).q.l0]) ^ blk x (Ks.mk K_u8b s)) := h.fin
      have hy := hv.w3
      generalize mW3 v = y at *
      refine w_ite (fun c => ?_) fun c => ?_
      · have c : y.mode = 3 := by simpa using c
        have e : mW4 y = { y with win := mFloor y } := by unfold mW4; rw [if_pos c]
        rw [e]
        refine w_call (floor_tri b n1 n2 n3 n4 n5 n6 y hy) h fun r w h => ?_
        obtain ⟨hr, h⟩ := h.purP; rw [hr]
        refine w_deref (w_setTo h b [.ptr (some ⟨n1, 0⟩), .ptr (some ⟨n2, 0⟩), .ptr (some ⟨n3, 0⟩), .ptr (some ⟨n4, 0⟩), .ptr (some ⟨n5, 0⟩), .ptr (some ⟨n6, 0⟩), .int .u64 ({ y with win := mFloor y }).mss, .int .i64 ({ y with win := mFloor y }).mode, .int .u64 ({ y with win := mFloor y }).rate, .int .u64 ({ y with win := mFloor y }).win, .int .u64 ({ y with win := mFloor y }).sav, .bool ({ y with win := mFloor y }).rec', .bool ({ y with win := mFloor y }).first, .int .u64 ({ y with win := mFloor y }).til] rfl rfl rfl fun w h => ?_)
        exact h.fin
      · have c : ¬ y.mode = 3 := by simpa using c
        have e : mW4 y = y := by unfold mW4; rw [if_neg c]
        rw [e]
        exact h.fin
    · refine w_deref (w_ld h rfl ?_)
      refine w_ite (fun c => ?_) fun c => ?_
      · have c : u.first = true := c
        have e : mW2 u s tso = { u with win := if addI (sFli s) (sAck s) > u.win then addI (sFli s) (sAck s) else u.win } := by unfold mW2; rw [if_pos c]
        rw [e]
        refine w_drw h fun w h => w_deref (w_ld h rfl (w_ld h rfl (w_ld h rfl ?_)))
        refine w_call (satadd_tri (sFli s) (sAck s) hs.fli hs.ack) (h.le (star_mono Le.rfl (star_emp _))) fun r w h => ?_
        obtain ⟨hr, h⟩ := h.purP; rw [hr]
        refine w_chk h rfl (w_deref ?_)
        refine w_setTo h b [.ptr (some ⟨n1, 0⟩), .ptr (some ⟨n2, 0⟩), .ptr (some ⟨n3, 0⟩), .ptr (some ⟨n4, 0⟩), .ptr (some ⟨n5, 0⟩), .ptr (some ⟨n6, 0⟩), .int .u64 ({ u with win := if addI (sFli s) (sAck s) > u.win then addI (sFli s) (sAck s) else u.win }).mss, .int .i64 ({ u with win := if addI (sFli s) (sAck s) > u.win then addI (sFli s) (sAck s) else u.win }).mode, .int .u64 ({ u with win := if addI (sFli s) (sAck s) > u.win then addI (sFli s) (sAck s) else u.win }).rate, .int .u64 ({ u with win := if addI (sFli s) (sAck s) > u.win then addI (sFli s) (sAck s) else u.win }).win, .int .u64 ({ u with win := if addI (sFli s) (sAck s) > u.win then addI (sFli s) (sAck s) else u.win }).sav, .bool ({ u with win := if addI (sFli s) (sAck s) > u.win then addI (sFli s) (sAck s) else u.win }).rec', .bool ({ u with win := if addI (sFli s) (sAck s) > u.win then addI (sFli s) (sAck s) else u.win }).first, .int .u64 ({ u with win := if addI (sFli s) (sAck s) > u.win then addI (sFli s) (sAck s) else u.win }).til] rfl rfl rfl fun w h => ?_
        exact ⟨trivial, h.fin⟩
      have c : ¬ u.first = true := by rw [show u.first = false from c]; simp
      refine w_ld h rfl ?_
      refine w_ite (fun c2 => ?_) fun c2 => ?_
      · have c2 : sAck s > 0 := by simpa using c2
        have e : mW2 u s tso = if u.p.full then { u with win := if mTar u tso < addI u.win (sAck s) then mTar u tso else addI u.win (sAck s) }
            else if u.win < mTar u tso ∨ sDel s < 10 * u.mss then { u with win := addI u.win (sAck s) } else u := by unfold mW2; rw [if_neg c, if_pos c2]
        rw [e]
        have h : Own w0 S R w ((blk b [.ptr (some ⟨n1, 0⟩), .ptr (some ⟨n2, 0⟩), .ptr (some ⟨n3, 0⟩), .ptr (some ⟨n4, 0⟩), .ptr (some ⟨n5, 0⟩), .ptr (some ⟨n6, 0⟩), .int .u64 u.mss, .int .i64 u.mode, .int .u64 u.rate, .int .u64 u.win, .int .u64 u.sav, .bool u.rec', .bool u.first, .int .u64 u.til] ^ blk n1 [.int .u64 u.w.w, .int .u64 u.w.t0, .int .u64 u.w.v0, .int .u64 u.w.t1, .int .u64 u.w.v1, .int .u64 u.w.t2, .int .u64 u.w.v2, .int .u64 u.w.la] ^ blk n2 [.int .u64 u.r.n, .int .u64 u.r.nx] ^ blk n3 [.int .u64 u.p.best, .int .i64 u.p.n, .bool u.p.full] ^ blk n4 [.int .i64 u.c.ph, .int .u64 u.c.at'] ^ blk n5 [.int .u64 u.b.best, .int .u64 u.b.at', .bool u.b.on, .int .u64 u.b.til, .bool u.b.rd] ^ blk n6 [.bool u.q.use, .bool u.q.mea, .int .u64 u.q.bw, .int .i64 u.q.n, .int .u64 u.q.lost, .int .u64 u.q.t0, .int .u64 u.q.d0, .int .u64 u.q.l0]) ^ blk x (Ks.mk K_u8b s) ^ emp) := h.le (star_mono Le.rfl (star_emp _))
        repeat' (first
          | (refine w_drw h fun w h => ?_)
          | (refine w_deref ?_)
          | (refine w_ldAll h rfl ?_)
          | (refine w_ld h rfl ?_)
          | (refine w_chkAll h ?_)
          | (refine w_chk h rfl ?_)
          | (refine w_setAll h (by rfl) fun w h => ?_)
          | (refine w_new h fun n w h => ?_)
          | (refine w_leave h fun w h => ?_)
          | (refine w_set h rfl fun w h => ?_; dsimp only [upd, over] at h)
          | (refine w_call (bw_tri b n1 n2 n3 n4 n5 n6 u) h fun r w h => ?_; obtain ⟨hr, h⟩ := h.purP; (try dsimp only at hr h); try rw [hr])
          | (refine w_call (bbest_tri n5 u.b) h fun r w h => ?_; obtain ⟨hr, h⟩ := h.purP; (try dsimp only at hr h); try rw [hr])
          | (refine w_call (wide_tri' b n1 n2 n3 n4 n5 n6 u) h fun r w h => ?_; obtain ⟨hr, h⟩ := h.purP; (try dsimp only at hr h); try rw [hr])
          | (refine w_call (Target.win_tri (mBw u) u.b.best (mWide u) tso u.mss hu.bw hu.b.best (U_wide u) ht hu.mssU) h fun r w h => ?_; obtain ⟨hr, h⟩ := h.purP; (try dsimp only at hr h); try rw [hr])
          | (refine w_call (full_tri n3 u.p) h fun r w h => ?_; obtain ⟨hr, h⟩ := h.purP; (try dsimp only at hr h); try rw [hr]))
        refine w_ite (fun c3 => ?_) fun c3 => ?_
        · have c3 : u.p.full = true := c3
          rw [if_pos c3]
          refine w_drw h fun w h => w_deref (w_ld h rfl (w_ld h rfl ?_))
          refine w_call (satadd_tri u.win (sAck s) hu.win hs.ack) h fun r w h => ?_
          obtain ⟨hr, h⟩ := h.purP; rw [hr]
          refine w_deref ?_
          refine w_setTo h b [.ptr (some ⟨n1, 0⟩), .ptr (some ⟨n2, 0⟩), .ptr (some ⟨n3, 0⟩), .ptr (some ⟨n4, 0⟩), .ptr (some ⟨n5, 0⟩), .ptr (some ⟨n6, 0⟩), .int .u64 ({ u with win := if mTar u tso < addI u.win (sAck s) then mTar u tso else addI u.win (sAck s) }).mss, .int .i64 ({ u with win := if mTar u tso < addI u.win (sAck s) then mTar u tso else addI u.win (sAck s) }).mode, .int .u64 ({ u with win := if mTar u tso < addI u.win (sAck s) then mTar u tso else addI u.win (sAck s) }).rate, .int .u64 ({ u with win := if mTar u tso < addI u.win (sAck s) then mTar u tso else addI u.win (sAck s) }).win, .int .u64 ({ u with win := if mTar u tso < addI u.win (sAck s) then mTar u tso else addI u.win (sAck s) }).sav, .bool ({ u with win := if mTar u tso < addI u.win (sAck s) then mTar u tso else addI u.win (sAck s) }).rec', .bool ({ u with win := if mTar u tso < addI u.win (sAck s) then mTar u tso else addI u.win (sAck s) }).first, .int .u64 ({ u with win := if mTar u tso < addI u.win (sAck s) then mTar u tso else addI u.win (sAck s) }).til] rfl rfl rfl fun w h => ?_
          exact ⟨trivial, h.fin⟩
        have c3 : ¬ u.p.full = true := by rw [show u.p.full = false from c3]; simp
        rw [if_neg c3]
        have hms := hu.mss
        have h : Own w0 S R _ ((blk b [.ptr (some ⟨n1, 0⟩), .ptr (some ⟨n2, 0⟩), .ptr (some ⟨n3, 0⟩), .ptr (some ⟨n4, 0⟩), .ptr (some ⟨n5, 0⟩), .ptr (some ⟨n6, 0⟩), .int .u64 u.mss, .int .i64 u.mode, .int .u64 u.rate, .int .u64 u.win, .int .u64 u.sav, .bool u.rec', .bool u.first, .int .u64 u.til] ^ blk n1 [.int .u64 u.w.w, .int .u64 u.w.t0, .int .u64 u.w.v0, .int .u64 u.w.t1, .int .u64 u.w.v1, .int .u64 u.w.t2, .int .u64 u.w.v2, .int .u64 u.w.la] ^ blk n2 [.int .u64 u.r.n, .int .u64 u.r.nx] ^ blk n3 [.int .u64 u.p.best, .int .i64 u.p.n, .bool u.p.full] ^ blk n4 [.int .i64 u.c.ph, .int .u64 u.c.at'] ^ blk n5 [.int .u64 u.b.best, .int .u64 u.b.at', .bool u.b.on, .int .u64 u.b.til, .bool u.b.rd] ^ blk n6 [.bool u.q.use, .bool u.q.mea, .int .u64 u.q.bw, .int .i64 u.q.n, .int .u64 u.q.lost, .int .u64 u.q.t0, .int .u64 u.q.d0, .int .u64 u.q.l0]) ^ blk x (Ks.mk K_u8b s) ^ emp) := h.fin
        refine w_join h (fun _ => (blk b [.ptr (some ⟨n1, 0⟩), .ptr (some ⟨n2, 0⟩), .ptr (some ⟨n3, 0⟩), .ptr (some ⟨n4, 0⟩), .ptr (some ⟨n5, 0⟩), .ptr (some ⟨n6, 0⟩), .int .u64 u.mss, .int .i64 u.mode, .int .u64 u.rate, .int .u64 u.win, .int .u64 u.sav, .bool u.rec', .bool u.first, .int .u64 u.til] ^ blk n1 [.int .u64 u.w.w, .int .u64 u.w.t0, .int .u64 u.w.v0, .int .u64 u.w.t1, .int .u64 u.w.v1, .int .u64 u.w.t2, .int .u64 u.w.v2, .int .u64 u.w.la] ^ blk n2 [.int .u64 u.r.n, .int .u64 u.r.nx] ^ blk n3 [.int .u64 u.p.best, .int .i64 u.p.n, .bool u.p.full] ^ blk n4 [.int .i64 u.c.ph, .int .u64 u.c.at'] ^ blk n5 [.int .u64 u.b.best, .int .u64 u.b.at', .bool u.b.on, .int .u64 u.b.til, .bool u.b.rd] ^ blk n6 [.bool u.q.use, .bool u.q.mea, .int .u64 u.q.bw, .int .i64 u.q.n, .int .u64 u.q.lost, .int .u64 u.q.t0, .int .u64 u.q.d0, .int .u64 u.q.l0]) ^ blk x (Ks.mk K_u8b s) ^ emp) (fun y : Bool => y = decide (u.win < mTar u tso ∨ sDel s < 10 * u.mss)) (fun (y : Bool) w hy h => ?_) ?_
        · rw [hy]
          refine w_ite (fun c4 => ?_) fun c4 => ?_
          · have c4 : u.win < mTar u tso ∨ sDel s < 10 * u.mss := by simpa using c4
            rw [if_pos c4]
            refine w_drw h fun w h => w_deref (w_ld h rfl (w_ld h rfl ?_))
            refine w_call (satadd_tri u.win (sAck s) hu.win hs.ack) h fun r w h => ?_
            obtain ⟨hr, h⟩ := h.purP; rw [hr]
            refine w_deref ?_
            refine w_setTo h b [.ptr (some ⟨n1, 0⟩), .ptr (some ⟨n2, 0⟩), .ptr (some ⟨n3, 0⟩), .ptr (some ⟨n4, 0⟩), .ptr (some ⟨n5, 0⟩), .ptr (some ⟨n6, 0⟩), .int .u64 ({ u with win := addI u.win (sAck s) }).mss, .int .i64 ({ u with win := addI u.win (sAck s) }).mode, .int .u64 ({ u with win := addI u.win (sAck s) }).rate, .int .u64 ({ u with win := addI u.win (sAck s) }).win, .int .u64 ({ u with win := addI u.win (sAck s) }).sav, .bool ({ u with win := addI u.win (sAck s) }).rec', .bool ({ u with win := addI u.win (sAck s) }).first, .int .u64 ({ u with win := addI u.win (sAck s) }).til] rfl rfl rfl fun w h => ?_
            exact ⟨trivial, h.fin⟩
          · have c4 : ¬ (u.win < mTar u tso ∨ sDel s < 10 * u.mss) := by simpa using c4
            rw [if_neg c4]
            exact ⟨trivial, h.fin⟩
        · refine w_drw h fun w h => w_deref (w_ld h rfl ?_)
          refine w_ite (fun c4 => ?_) fun c4 => ?_
          · have c4 : u.win < mTar u tso := of_decide_eq_true c4
            exact ⟨by simp [c4], h⟩
          · have c4 : ¬ u.win < mTar u tso := of_decide_eq_false c4
            refine w_ld h rfl (w_deref (w_ld h rfl ?_))
            rw [wu (n := 10 * u.mss) (by omega) (by omega)]
            exact ⟨by rw [Bool.eq_iff_iff]; simp [c4], h⟩
      · have c2 : ¬ sAck s > 0 := by simpa using c2
        have e : mW2 u s tso = u := by unfold mW2; rw [if_neg c, if_neg c2]
        rw [e]
        exact ⟨trivial, h⟩
theorem upd_tri : Tri Tryz.prog N_bbr_Model_Update [.lf (.ptr (some ⟨b, 0⟩)), .agg (Ks.mk K_u8b s), .lf (.int .u64 tso)] [.agg K_i2u6b2] (blk b [.ptr (some ⟨n1, 0⟩), .ptr (some ⟨n2, 0⟩), .ptr (some ⟨n3, 0⟩), .ptr (some ⟨n4, 0⟩), .ptr (some ⟨n5, 0⟩), .ptr (some ⟨n6, 0⟩), .int .u64 m.mss, .int .i64 m.mode, .int .u64 m.rate, .int .u64 m.win, .int .u64 m.sav, .bool m.rec', .bool m.first, .int .u64 m.til] ^ blk n1 [.int .u64 m.w.w, .int .u64 m.w.t0, .int .u64 m.w.v0, .int .u64 m.w.t1, .int .u64 m.w.v1, .int .u64 m.w.t2, .int .u64 m.w.v2, .int .u64 m.w.la] ^ blk n2 [.int .u64 m.r.n, .int .u64 m.r.nx] ^ blk n3 [.int .u64 m.p.best, .int .i64 m.p.n, .bool m.p.full] ^ blk n4 [.int .i64 m.c.ph, .int .u64 m.c.at'] ^ blk n5 [.int .u64 m.b.best, .int .u64 m.b.at', .bool m.b.on, .int .u64 m.b.til, .bool m.b.rd] ^ blk n6 [.bool m.q.use, .bool m.q.mea, .int .u64 m.q.bw, .int .i64 m.q.n, .int .u64 m.q.lost, .int .u64 m.q.t0, .int .u64 m.q.d0, .int .u64 m.q.l0]) (fun r => pur (r = mSt (mUpd m s tso)) (blk b [.ptr (some ⟨n1, 0⟩), .ptr (some ⟨n2, 0⟩), .ptr (some ⟨n3, 0⟩), .ptr (some ⟨n4, 0⟩), .ptr (some ⟨n5, 0⟩), .ptr (some ⟨n6, 0⟩), .int .u64 (mUpd m s tso).mss, .int .i64 (mUpd m s tso).mode, .int .u64 (mUpd m s tso).rate, .int .u64 (mUpd m s tso).win, .int .u64 (mUpd m s tso).sav, .bool (mUpd m s tso).rec', .bool (mUpd m s tso).first, .int .u64 (mUpd m s tso).til] ^ blk n1 [.int .u64 (mUpd m s tso).w.w, .int .u64 (mUpd m s tso).w.t0, .int .u64 (mUpd m s tso).w.v0, .int .u64 (mUpd m s tso).w.t1, .int .u64 (mUpd m s tso).w.v1, .int .u64 (mUpd m s tso).w.t2, .int .u64 (mUpd m s tso).w.v2, .int .u64 (mUpd m s tso).w.la] ^ blk n2 [.int .u64 (mUpd m s tso).r.n, .int .u64 (mUpd m s tso).r.nx] ^ blk n3 [.int .u64 (mUpd m s tso).p.best, .int .i64 (mUpd m s tso).p.n, .bool (mUpd m s tso).p.full] ^ blk n4 [.int .i64 (mUpd m s tso).c.ph, .int .u64 (mUpd m s tso).c.at'] ^ blk n5 [.int .u64 (mUpd m s tso).b.best, .int .u64 (mUpd m s tso).b.at', .bool (mUpd m s tso).b.on, .int .u64 (mUpd m s tso).b.til, .bool (mUpd m s tso).b.rd] ^ blk n6 [.bool (mUpd m s tso).q.use, .bool (mUpd m s tso).q.mea, .int .u64 (mUpd m s tso).q.bw, .int .i64 (mUpd m s tso).q.n, .int .u64 (mUpd m s tso).q.lost, .int .u64 (mUpd m s tso).q.t0, .int .u64 (mUpd m s tso).q.d0, .int .u64 (mUpd m s tso).q.l0])) :=
  tri_0 (call_bbr_Model_Update _ _ _) fun w0 S R h => by
    unfold W_bbr_Model_Update
    refine w_new h fun x w h => ?_
    refine w_new h fun y w h => ?_
    refine w_ite (fun c => (by cases c)) fun _ => ?_
    have h : Own w0 S R w ((blk b [.ptr (some ⟨n1, 0⟩), .ptr (some ⟨n2, 0⟩), .ptr (some ⟨n3, 0⟩), .ptr (some ⟨n4, 0⟩), .ptr (some ⟨n5, 0⟩), .ptr (some ⟨n6, 0⟩), .int .u64 m.mss, .int .i64 m.mode, .int .u64 m.rate, .int .u64 m.win, .int .u64 m.sav, .bool m.rec', .bool m.first, .int .u64 m.til] ^ blk n1 [.int .u64 m.w.w, .int .u64 m.w.t0, .int .u64 m.w.v0, .int .u64 m.w.t1, .int .u64 m.w.v1, .int .u64 m.w.t2, .int .u64 m.w.v2, .int .u64 m.w.la] ^ blk n2 [.int .u64 m.r.n, .int .u64 m.r.nx] ^ blk n3 [.int .u64 m.p.best, .int .i64 m.p.n, .bool m.p.full] ^ blk n4 [.int .i64 m.c.ph, .int .u64 m.c.at'] ^ blk n5 [.int .u64 m.b.best, .int .u64 m.b.at', .bool m.b.on, .int .u64 m.b.til, .bool m.b.rd] ^ blk n6 [.bool m.q.use, .bool m.q.mea, .int .u64 m.q.bw, .int .i64 m.q.n, .int .u64 m.q.lost, .int .u64 m.q.t0, .int .u64 m.q.d0, .int .u64 m.q.l0]) ^ blk x (Ks.mk K_u8b s) ^ blk y [.int .i64 0, .int .i64 0, .int .u64 0, .int .u64 0, .int .u64 0, .int .u64 0, .int .u64 0, .int .u64 0, .bool false, .bool false]) := h.fin
    refine w_drw h fun w h => w_ldAll (x := s) h rfl (w_deref (w_ld h rfl ?_))
    refine w_call (rupd_tri n2 m.r s) h fun r w h => ?_
    obtain ⟨hr, h⟩ := h.purP; rw [hr]
    refine w_drw h fun w h => w_ldAll (x := s) h rfl (w_deref (w_ld h rfl ?_))
    refine w_call (lupd_tri n6 m.q hm.q (rB m.r s) s hs) h fun _ w h => ?_
    refine w_ldAll (x := s) h rfl ?_
    have e : mUpd m s tso = mU3 (mU2 (mU1 m s) (rB m.r s) s) (rB m.r s) s tso := rfl
    rw [e]
    have h : Own w0 S R w ((blk b [.ptr (some ⟨n1, 0⟩), .ptr (some ⟨n2, 0⟩), .ptr (some ⟨n3, 0⟩), .ptr (some ⟨n4, 0⟩), .ptr (some ⟨n5, 0⟩), .ptr (some ⟨n6, 0⟩), .int .u64 (mU1 m s).mss, .int .i64 (mU1 m s).mode, .int .u64 (mU1 m s).rate, .int .u64 (mU1 m s).win, .int .u64 (mU1 m s).sav, .bool (mU1 m s).rec', .bool (mU1 m s).first, .int .u64 (mU1 m s).til] ^ blk n1 [.int .u64 (mU1 m s).w.w, .int .u64 (mU1 m s).w.t0, .int .u64 (mU1 m s).w.v0, .int .u64 (mU1 m s).w.t1, .int .u64 (mU1 m s).w.v1, .int .u64 (mU1 m s).w.t2, .int .u64 (mU1 m s).w.v2, .int .u64 (mU1 m s).w.la] ^ blk n2 [.int .u64 (mU1 m s).r.n, .int .u64 (mU1 m s).r.nx] ^ blk n3 [.int .u64 (mU1 m s).p.best, .int .i64 (mU1 m s).p.n, .bool (mU1 m s).p.full] ^ blk n4 [.int .i64 (mU1 m s).c.ph, .int .u64 (mU1 m s).c.at'] ^ blk n5 [.int .u64 (mU1 m s).b.best, .int .u64 (mU1 m s).b.at', .bool (mU1 m s).b.on, .int .u64 (mU1 m s).b.til, .bool (mU1 m s).b.rd] ^ blk n6 [.bool (mU1 m s).q.use, .bool (mU1 m s).q.mea, .int .u64 (mU1 m s).q.bw, .int .i64 (mU1 m s).q.n, .int .u64 (mU1 m s).q.lost, .int .u64 (mU1 m s).q.t0, .int .u64 (mU1 m s).q.d0, .int .u64 (mU1 m s).q.l0]) ^ blk x (Ks.mk K_u8b s) ^ blk y [.int .i64 0, .int .i64 0, .int .u64 0, .int .u64 0, .int .u64 0, .int .u64 0, .int .u64 0, .int .u64 0, .bool false, .bool false]) := h.fin
    have h1 := hm.u1 hs
    generalize rB m.r s = o at *
    generalize mU1 m s = u at *
    refine w_call (meas_tri b n1 n2 n3 n4 n5 n6 u h1 s hs) h fun _ w h => ?_
    have h2 := h1.meas hs
    have e : mU2 u o s = mLook (mM2 (mM1 (mPipe (mCyc (mMeas u s) s) o s)) s) s o := rfl
    rw [e]
    generalize mMeas u s = v at *
    have h : Own w0 S R w ((blk b [.ptr (some ⟨n1, 0⟩), .ptr (some ⟨n2, 0⟩), .ptr (some ⟨n3, 0⟩), .ptr (some ⟨n4, 0⟩), .ptr (some ⟨n5, 0⟩), .ptr (some ⟨n6, 0⟩), .int .u64 v.mss, .int .i64 v.mode, .int .u64 v.rate, .int .u64 v.win, .int .u64 v.sav, .bool v.rec', .bool v.first, .int .u64 v.til] ^ blk n1 [.int .u64 v.w.w, .int .u64 v.w.t0, .int .u64 v.w.v0, .int .u64 v.w.t1, .int .u64 v.w.v1, .int .u64 v.w.t2, .int .u64 v.w.v2, .int .u64 v.w.la] ^ blk n2 [.int .u64 v.r.n, .int .u64 v.r.nx] ^ blk n3 [.int .u64 v.p.best, .int .i64 v.p.n, .bool v.p.full] ^ blk n4 [.int .i64 v.c.ph, .int .u64 v.c.at'] ^ blk n5 [.int .u64 v.b.best, .int .u64 v.b.at', .bool v.b.on, .int .u64 v.b.til, .bool v.b.rd] ^ blk n6 [.bool v.q.use, .bool v.q.mea, .int .u64 v.q.bw, .int .i64 v.q.n, .int .u64 v.q.lost, .int .u64 v.q.t0, .int .u64 v.q.d0, .int .u64 v.q.l0]) ^ blk x (Ks.mk K_u8b s) ^ blk y [.int .i64 0, .int .i64 0, .int .u64 0, .int .u64 0, .int .u64 0, .int .u64 0, .int .u64 0, .int .u64 0, .bool false, .bool false]) := h.fin
    refine w_join h (fun _ => (blk b [.ptr (some ⟨n1, 0⟩), .ptr (some ⟨n2, 0⟩), .ptr (some ⟨n3, 0⟩), .ptr (some ⟨n4, 0⟩), .ptr (some ⟨n5, 0⟩), .ptr (some ⟨n6, 0⟩), .int .u64 (mCyc v s).mss, .int .i64 (mCyc v s).mode, .int .u64 (mCyc v s).rate, .int .u64 (mCyc v s).win, .int .u64 (mCyc v s).sav, .bool (mCyc v s).rec', .bool (mCyc v s).first, .int .u64 (mCyc v s).til] ^ blk n1 [.int .u64 (mCyc v s).w.w, .int .u64 (mCyc v s).w.t0, .int .u64 (mCyc v s).w.v0, .int .u64 (mCyc v s).w.t1, .int .u64 (mCyc v s).w.v1, .int .u64 (mCyc v s).w.t2, .int .u64 (mCyc v s).w.v2, .int .u64 (mCyc v s).w.la] ^ blk n2 [.int .u64 (mCyc v s).r.n, .int .u64 (mCyc v s).r.nx] ^ blk n3 [.int .u64 (mCyc v s).p.best, .int .i64 (mCyc v s).p.n, .bool (mCyc v s).p.full] ^ blk n4 [.int .i64 (mCyc v s).c.ph, .int .u64 (mCyc v s).c.at'] ^ blk n5 [.int .u64 (mCyc v s).b.best, .int .u64 (mCyc v s).b.at', .bool (mCyc v s).b.on, .int .u64 (mCyc v s).b.til, .bool (mCyc v s).b.rd] ^ blk n6 [.bool (mCyc v s).q.use, .bool (mCyc v s).q.mea, .int .u64 (mCyc v s).q.bw, .int .i64 (mCyc v s).q.n, .int .u64 (mCyc v s).q.lost, .int .u64 (mCyc v s).q.t0, .int .u64 (mCyc v s).q.d0, .int .u64 (mCyc v s).q.l0]) ^ blk x (Ks.mk K_u8b s) ^ blk y [.int .i64 0, .int .i64 0, .int .u64 0, .int .u64 0, .int .u64 0, .int .u64 0, .int .u64 0, .int .u64 0, .bool false, .bool false]) (fun _ => True) (fun _ w _ h => ?_) ?_
    · have h3 := h2.cyc hs
      generalize mCyc v s = z at *
      repeat' (first
        | (refine w_drw h fun w h => ?_)
        | (refine w_deref ?_)
        | (refine w_ldAll h rfl ?_)
        | (refine w_ld h rfl ?_)
        | (refine w_chkAll h ?_)
        | (refine w_chk h rfl ?_)
        | (refine w_setAll h (by rfl) fun w h => ?_)
        | (refine w_new h fun n w h => ?_)
        | (refine w_leave h fun w h => ?_)
        | (refine w_set h rfl fun w h => ?_; dsimp only [upd, over] at h)
        | (refine w_call (best_tri n1 z.w) h fun r w h => ?_; obtain ⟨hr, h⟩ := h.purP; (try dsimp only at hr h); try rw [hr])
        | (refine w_call (pupd_tri n3 z.p h3.p o (sLim s) z.w.v0 h3.w.v0) h fun r w h => ?_; obtain ⟨hr, h⟩ := h.purP; (try dsimp only at hr h); try rw [hr]))
      have h4 : OkM (mPipe z o s) := h3.pipe
      have h : Own w0 S R _ ((blk b [.ptr (some ⟨n1, 0⟩), .ptr (some ⟨n2, 0⟩), .ptr (some ⟨n3, 0⟩), .ptr (some ⟨n4, 0⟩), .ptr (some ⟨n5, 0⟩), .ptr (some ⟨n6, 0⟩), .int .u64 (mPipe z o s).mss, .int .i64 (mPipe z o s).mode, .int .u64 (mPipe z o s).rate, .int .u64 (mPipe z o s).win, .int .u64 (mPipe z o s).sav, .bool (mPipe z o s).rec', .bool (mPipe z o s).first, .int .u64 (mPipe z o s).til] ^ blk n1 [.int .u64 (mPipe z o s).w.w, .int .u64 (mPipe z o s).w.t0, .int .u64 (mPipe z o s).w.v0, .int .u64 (mPipe z o s).w.t1, .int .u64 (mPipe z o s).w.v1, .int .u64 (mPipe z o s).w.t2, .int .u64 (mPipe z o s).w.v2, .int .u64 (mPipe z o s).w.la] ^ blk n2 [.int .u64 (mPipe z o s).r.n, .int .u64 (mPipe z o s).r.nx] ^ blk n3 [.int .u64 (mPipe z o s).p.best, .int .i64 (mPipe z o s).p.n, .bool (mPipe z o s).p.full] ^ blk n4 [.int .i64 (mPipe z o s).c.ph, .int .u64 (mPipe z o s).c.at'] ^ blk n5 [.int .u64 (mPipe z o s).b.best, .int .u64 (mPipe z o s).b.at', .bool (mPipe z o s).b.on, .int .u64 (mPipe z o s).b.til, .bool (mPipe z o s).b.rd] ^ blk n6 [.bool (mPipe z o s).q.use, .bool (mPipe z o s).q.mea, .int .u64 (mPipe z o s).q.bw, .int .i64 (mPipe z o s).q.n, .int .u64 (mPipe z o s).q.lost, .int .u64 (mPipe z o s).q.t0, .int .u64 (mPipe z o s).q.d0, .int .u64 (mPipe z o s).q.l0]) ^ blk x (Ks.mk K_u8b s) ^ blk y [.int .i64 0, .int .i64 0, .int .u64 0, .int .u64 0, .int .u64 0, .int .u64 0, .int .u64 0, .int .u64 0, .bool false, .bool false]) := h.fin
      generalize mPipe z o s = a at *
      refine w_call (modes_tri b n1 n2 n3 n4 n5 n6 a h4 s hs) h fun _ w h => ?_
      have h5 := h4.m1.m2 hs
      generalize mM2 (mM1 a) s = a at *
      refine w_ldAll (x := s) h rfl ?_
      refine w_call (look_tri b n1 n2 n3 n4 n5 n6 a h5 s hs o) h fun _ w h => ?_
      have h6 : OkM (mLook a s o) := h5.look hs
      generalize mLook a s o = a at *
      refine w_call (pace_tri b n1 n2 n3 n4 n5 n6 a h6) h fun _ w h => ?_
      have e : mU3 a o s tso = mWindow (mRecover (mPace a) s o) s tso := rfl
      rw [e]
      have h7 := h6.pace
      generalize mPace a = a at *
      refine w_ldAll (x := s) h rfl ?_
      refine w_call (rec_tri b n1 n2 n3 n4 n5 n6 a h7 s hs o) h fun _ w h => ?_
      have h8 : OkM (mRecover a s o) := h7.recover hs
      generalize mRecover a s o = a at *
      refine w_ldAll (x := s) h rfl ?_
      refine w_call (window_tri b n1 n2 n3 n4 n5 n6 a h8 s hs tso ht) h fun _ w h => ?_
      generalize mWindow a s tso = a at *
      refine w_call (state_tri b n1 n2 n3 n4 n5 n6 a) h fun r w h => ?_
      obtain ⟨hr, h⟩ := h.purP; rw [hr]
      refine w_setAll h (by rfl) fun w h => ?_
      refine w_ldAll (x := mSt a) h rfl ?_
      exact Own.retP rfl h.fin
    · refine w_join h (fun _ => (blk b [.ptr (some ⟨n1, 0⟩), .ptr (some ⟨n2, 0⟩), .ptr (some ⟨n3, 0⟩), .ptr (some ⟨n4, 0⟩), .ptr (some ⟨n5, 0⟩), .ptr (some ⟨n6, 0⟩), .int .u64 v.mss, .int .i64 v.mode, .int .u64 v.rate, .int .u64 v.win, .int .u64 v.sav, .bool v.rec', .bool v.first, .int .u64 v.til] ^ blk n1 [.int .u64 v.w.w, .int .u64 v.w.t0, .int .u64 v.w.v0, .int .u64 v.w.t1, .int .u64 v.w.v1, .int .u64 v.w.t2, .int .u64 v.w.v2, .int .u64 v.w.la] ^ blk n2 [.int .u64 v.r.n, .int .u64 v.r.nx] ^ blk n3 [.int .u64 v.p.best, .int .i64 v.p.n, .bool v.p.full] ^ blk n4 [.int .i64 v.c.ph, .int .u64 v.c.at'] ^ blk n5 [.int .u64 v.b.best, .int .u64 v.b.at', .bool v.b.on, .int .u64 v.b.til, .bool v.b.rd] ^ blk n6 [.bool v.q.use, .bool v.q.mea, .int .u64 v.q.bw, .int .i64 v.q.n, .int .u64 v.q.lost, .int .u64 v.q.t0, .int .u64 v.q.d0, .int .u64 v.q.l0]) ^ blk x (Ks.mk K_u8b s) ^ blk y [.int .i64 0, .int .i64 0, .int .u64 0, .int .u64 0, .int .u64 0, .int .u64 0, .int .u64 0, .int .u64 0, .bool false, .bool false]) (fun y : Bool => y = decide (v.mode = 2 ∧ v.q.use = false)) (fun (y : Bool) w hy h => ?_) ?_
      · rw [hy]
        refine w_ite (fun c => ?_) fun c => ?_
        · have c : v.mode = 2 ∧ v.q.use = false := by simpa using c
          have e : mCyc v s = { v with c := cU v.c (sNow s) v.b.best (sLost s) (sFli s) (mBdp v 320) (mBdp v 256) } := by unfold mCyc; rw [if_pos c]
          rw [e]
          repeat' (first
            | (refine w_drw h fun w h => ?_)
            | (refine w_deref ?_)
            | (refine w_ldAll h rfl ?_)
            | (refine w_ld h rfl ?_)
            | (refine w_chkAll h ?_)
            | (refine w_chk h rfl ?_)
            | (refine w_setAll h (by rfl) fun w h => ?_)
            | (refine w_new h fun n w h => ?_)
            | (refine w_leave h fun w h => ?_)
            | (refine w_set h rfl fun w h => ?_; dsimp only [upd, over] at h)
            | (refine w_call (bbest_tri n5 v.b) h fun r w h => ?_; obtain ⟨hr, h⟩ := h.purP; (try dsimp only at hr h); try rw [hr])
            | (refine w_call (bdpm_tri b n1 n2 n3 n4 n5 n6 v h2 320 (U_lit _)) h fun r w h => ?_; obtain ⟨hr, h⟩ := h.purP; (try dsimp only at hr h); try rw [hr])
            | (refine w_call (bdpm_tri b n1 n2 n3 n4 n5 n6 v h2 256 (U_lit _)) h fun r w h => ?_; obtain ⟨hr, h⟩ := h.purP; (try dsimp only at hr h); try rw [hr]))
          refine w_call (cupd_tri n4 v.c h2.c (sNow s) v.b.best (sLost s) (sFli s) (mBdp v 320) (mBdp v 256) hs.now) h fun _ w h => ?_
          exact ⟨trivial, h.fin⟩
        · have c : ¬ (v.mode = 2 ∧ v.q.use = false) := by simpa using c
          have e : mCyc v s = v := by unfold mCyc; rw [if_neg c]
          rw [e]
          exact ⟨trivial, h.fin⟩
      · repeat' (first
          | (refine w_drw h fun w h => ?_)
          | (refine w_deref ?_)
          | (refine w_ldAll h rfl ?_)
          | (refine w_ld h rfl ?_)
          | (refine w_chkAll h ?_)
          | (refine w_chk h rfl ?_)
          | (refine w_setAll h (by rfl) fun w h => ?_)
          | (refine w_new h fun n w h => ?_)
          | (refine w_leave h fun w h => ?_)
          | (refine w_set h rfl fun w h => ?_; dsimp only [upd, over] at h))
        refine w_ite (fun c => ?_) fun c => ?_
        · have c : v.mode = 2 := by simpa using c
          repeat' (first
            | (refine w_drw h fun w h => ?_)
            | (refine w_deref ?_)
            | (refine w_ldAll h rfl ?_)
            | (refine w_ld h rfl ?_)
            | (refine w_chkAll h ?_)
            | (refine w_chk h rfl ?_)
            | (refine w_setAll h (by rfl) fun w h => ?_)
            | (refine w_new h fun n w h => ?_)
            | (refine w_leave h fun w h => ?_)
            | (refine w_set h rfl fun w h => ?_; dsimp only [upd, over] at h)
            | (refine w_call (pol_tri b n1 n2 n3 n4 n5 n6 v) h fun r w h => ?_; obtain ⟨hr, h⟩ := h.purP; (try dsimp only at hr h); try rw [hr]))
          exact ⟨by rw [Bool.eq_iff_iff]; simp [c], h.fin⟩
        · have c : ¬ v.mode = 2 := by simpa using c
          exact ⟨by simp [c], h.fin⟩
end
end BbrU


end Go.X
