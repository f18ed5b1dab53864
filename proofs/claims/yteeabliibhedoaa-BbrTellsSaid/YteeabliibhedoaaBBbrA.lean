/- Contracts and plain facts: BbrA. -/
import Derived.Test.YteeabliibhedoaaBPlain
import Derived.Test.YteeabliibhedoaaBArith
import Derived.Test.YteeabliibhedoaaBArithC
import Derived.Test.YteeabliibhedoaaBTarget
import Derived.Test.YteeabliibhedoaaBBbrM
import Derived.Test.YteeabliibhedoaaBBbrMm
import Derived.Test.YteeabliibhedoaaBBbrP
import Derived.Test.YteeabliibhedoaaBBbrW
import Derived.Test.YteeabliibhedoaaBBbrQ
import Derived.Test.YteeabliibhedoaaBBbrL
import Derived.Test.YteeabliibhedoaaBBbrN
import Derived.Test.YteeabliibhedoaaBBbrO
import Derived.Test.YteeabliibhedoaaBBbrU
import Derived.Test.YteeabliibhedoaaXw
import Derived.Test.YteeabliibhedoaaK
import Derived.Test.YteeabliibhedoaaF0
import Derived.Test.YteeabliibhedoaaF1
set_option linter.unusedVariables false
set_option linter.unusedSimpArgs false
set_option linter.unusedSectionVars false
namespace Go.X
open Go.Proofs
namespace BbrA
open Arith ArithC _root_.Go.X.Target BbrM BbrMm BbrP BbrW BbrQ BbrL BbrN BbrO BbrU
abbrev sA : Sm := (1000, 1000, 0, 1000, 1000, 1000, 0, 0, false)
theorem sA_ok : OkS sA := ⟨U_lit 1000, U_lit 1000, U_lit 0, U_lit 1000, U_lit 1000, U_lit 1000, U_lit 0, U_lit 0⟩
theorem awake_eq : (mSt (mUpd (mNew 1000) sA 2000)).2.2.2.2.1 = 1000000000 ∧ (mSt (mUpd (mNew 1000) sA 2000)).2.2.2.2.2.1 = 1000 ∧ (mSt (mUpd (mNew 1000) sA 2000)).2.2.2.2.2.2.2.1 = 1 := by decide +kernel
theorem awake_tri : Tri Try.prog N_canterlaw17_awake [] [.lf .bool] emp (fun r => pur (r = true) emp) :=
  tri_0 call_canterlaw17_awake fun w0 S R h => by
    unfold W_canterlaw17_awake
    refine w_call (new_tri 1000) h fun r w h => ?_
    obtain ⟨⟨b, n1, n2, n3, n4, n5, n6⟩, h⟩ := h.exP
    dsimp only at h
    obtain ⟨hr, h⟩ := h.purP; rw [hr]
    have h : Own w0 S R w (blk b [.ptr (some ⟨n1, 0⟩), .ptr (some ⟨n2, 0⟩), .ptr (some ⟨n3, 0⟩), .ptr (some ⟨n4, 0⟩), .ptr (some ⟨n5, 0⟩), .ptr (some ⟨n6, 0⟩), .int .u64 (mNew 1000).mss, .int .i64 (mNew 1000).mode, .int .u64 (mNew 1000).rate, .int .u64 (mNew 1000).win, .int .u64 (mNew 1000).sav, .bool (mNew 1000).rec', .bool (mNew 1000).first, .int .u64 (mNew 1000).til] ^ blk n1 [.int .u64 (mNew 1000).w.w, .int .u64 (mNew 1000).w.t0, .int .u64 (mNew 1000).w.v0, .int .u64 (mNew 1000).w.t1, .int .u64 (mNew 1000).w.v1, .int .u64 (mNew 1000).w.t2, .int .u64 (mNew 1000).w.v2, .int .u64 (mNew 1000).w.la] ^ blk n2 [.int .u64 (mNew 1000).r.n, .int .u64 (mNew 1000).r.nx] ^ blk n3 [.int .u64 (mNew 1000).p.best, .int .i64 (mNew 1000).p.n, .bool (mNew 1000).p.full] ^ blk n4 [.int .i64 (mNew 1000).c.ph, .int .u64 (mNew 1000).c.at'] ^ blk n5 [.int .u64 (mNew 1000).b.best, .int .u64 (mNew 1000).b.at', .bool (mNew 1000).b.on, .int .u64 (mNew 1000).b.til, .bool (mNew 1000).b.rd] ^ blk n6 [.bool (mNew 1000).q.use, .bool (mNew 1000).q.mea, .int .u64 (mNew 1000).q.bw, .int .i64 (mNew 1000).q.n, .int .u64 (mNew 1000).q.lost, .int .u64 (mNew 1000).q.t0, .int .u64 (mNew 1000).q.d0, .int .u64 (mNew 1000).q.l0]) := h.fin
    refine w_join h (fun _ => blk b [.ptr (some ⟨n1, 0⟩), .ptr (some ⟨n2, 0⟩), .ptr (some ⟨n3, 0⟩), .ptr (some ⟨n4, 0⟩), .ptr (some ⟨n5, 0⟩), .ptr (some ⟨n6, 0⟩), .int .u64 (mNew 1000).mss, .int .i64 (mNew 1000).mode, .int .u64 (mNew 1000).rate, .int .u64 (mNew 1000).win, .int .u64 (mNew 1000).sav, .bool (mNew 1000).rec', .bool (mNew 1000).first, .int .u64 (mNew 1000).til] ^ blk n1 [.int .u64 (mNew 1000).w.w, .int .u64 (mNew 1000).w.t0, .int .u64 (mNew 1000).w.v0, .int .u64 (mNew 1000).w.t1, .int .u64 (mNew 1000).w.v1, .int .u64 (mNew 1000).w.t2, .int .u64 (mNew 1000).w.v2, .int .u64 (mNew 1000).w.la] ^ blk n2 [.int .u64 (mNew 1000).r.n, .int .u64 (mNew 1000).r.nx] ^ blk n3 [.int .u64 (mNew 1000).p.best, .int .i64 (mNew 1000).p.n, .bool (mNew 1000).p.full] ^ blk n4 [.int .i64 (mNew 1000).c.ph, .int .u64 (mNew 1000).c.at'] ^ blk n5 [.int .u64 (mNew 1000).b.best, .int .u64 (mNew 1000).b.at', .bool (mNew 1000).b.on, .int .u64 (mNew 1000).b.til, .bool (mNew 1000).b.rd] ^ blk n6 [.bool (mNew 1000).q.use, .bool (mNew 1000).q.mea, .int .u64 (mNew 1000).q.bw, .int .i64 (mNew 1000).q.n, .int .u64 (mNew 1000).q.lost, .int .u64 (mNew 1000).q.t0, .int .u64 (mNew 1000).q.d0, .int .u64 (mNew 1000).q.l0]) (fun y : Bool => y = false) (fun (y : Bool) w hy h => ?_) ?_
    · rw [hy]
      refine w_ite (fun c => (by cases c)) fun _ => ?_
      refine w_call (upd_tri b n1 n2 n3 n4 n5 n6 (mNew 1000) (OkM.new _) sA sA_ok 2000 (U_lit _)) h fun r w h => ?_
      obtain ⟨hr, h⟩ := h.purP; rw [hr]
      refine w_new h fun x w h => ?_
      refine w_setAll h (by rfl) fun w h => ?_
      obtain ⟨e1, e2, e3⟩ := awake_eq
      generalize mUpd (mNew 1000) sA 2000 = a at *
      generalize mSt a = st at *
      refine w_ld h rfl (w_ite (fun _ => ?_) fun c => ?_)
      · refine w_ld h rfl (w_ite (fun _ => ?_) fun c => ?_)
        · refine w_ld h rfl ?_
          exact Own.retP (by simpa using e3) h.emp'
        · rw [show (st.2.2.2.2.2.1 == 1000) = true by simpa using e2] at c; cases c
      · rw [show (st.2.2.2.2.1 == 1000000000) = true by simpa using e1] at c; cases c
    · refine w_ite (fun c => (by cases c)) fun _ => ?_
      refine w_call (state_tri b n1 n2 n3 n4 n5 n6 (mNew 1000)) h fun r w h => ?_
      obtain ⟨hr, h⟩ := h.purP; rw [hr]
      refine w_ite (fun c => (by exfalso; revert c; decide +kernel)) fun _ => ?_
      refine w_call (state_tri b n1 n2 n3 n4 n5 n6 (mNew 1000)) h fun r w h => ?_
      obtain ⟨hr, h⟩ := h.purP; rw [hr]
      exact ⟨by decide +kernel, h.fin⟩
end BbrA

end Go.X
