/- Contracts and plain facts: BbrB. -/
import Derived.Test.YteeabliibhedoaaBPlain
import Derived.Test.YteeabliibhedoaaBArith
import Derived.Test.YteeabliibhedoaaBArithC
import Derived.Test.YteeabliibhedoaaBTarget
import Derived.Test.YteeabliibhedoaaBBbrM
import Derived.Test.YteeabliibhedoaaBBbrMm
import Derived.Test.YteeabliibhedoaaBBbrP
import Derived.Test.YteeabliibhedoaaBBbrW
import Derived.Test.YteeabliibhedoaaBBbrQ
import Derived.Test.YteeabliibhedoaaBBbrL
import Derived.Test.YteeabliibhedoaaBBbrN
import Derived.Test.YteeabliibhedoaaBBbrO
import Derived.Test.YteeabliibhedoaaBBbrU
import Derived.Test.YteeabliibhedoaaBBbrA
import Derived.Test.YteeabliibhedoaaBBbrF
import Derived.Test.YteeabliibhedoaaXw
import Derived.Test.YteeabliibhedoaaK
import Derived.Test.YteeabliibhedoaaF0
set_option linter.unusedVariables false
set_option linter.unusedSimpArgs false
set_option linter.unusedSectionVars false
namespace Go.X
open Go.Proofs
namespace BbrB
open Arith ArithC _root_.Go.X.Target BbrM BbrMm BbrP BbrW BbrQ BbrL BbrN BbrO BbrU BbrA BbrF
theorem floor_tri (d : Int) (s : Sl) (zs : List Sm) (hz : ∀ z ∈ zs, OkS z) : Tri Try.prog N_canterlaw17_BbrFloor [.lf (.int .u64 d), .lf (.sl s)] [.lf .bool] (rarr s K_u8b zs) (fun r => pur (r = true) emp) :=
  tri_0 (call_canterlaw17_BbrFloor _ _) fun w0 S R h => by
    unfold W_canterlaw17_BbrFloor
    simp only [clamp]
    have hd := mss_r d
    simp only [wu (n := 4 * mMss d) (by omega) (by omega), wu (n := 2 * mMss d) (by omega) (by omega)]
    have h : Own w0 S R w0 (rarr s K_u8b zs ^ emp) := h.le (star_emp _)
    have hlen := (h.rd (s := s)).2
    refine w_call (new_tri d) h fun r w h => ?_
    obtain ⟨⟨b, n1, n2, n3, n4, n5, n6⟩, h⟩ := h.exP
    dsimp only at h
    obtain ⟨hr, h⟩ := h.purP; rw [hr]
    refine w_call awake_tri h fun r w h => ?_
    obtain ⟨hr, h⟩ := h.purP; rw [hr]
    refine w_ite (fun c => (by cases c)) fun _ => ?_
    have h : Own w0 S R w ((blk b [.ptr (some ⟨n1, 0⟩), .ptr (some ⟨n2, 0⟩), .ptr (some ⟨n3, 0⟩), .ptr (some ⟨n4, 0⟩), .ptr (some ⟨n5, 0⟩), .ptr (some ⟨n6, 0⟩), .int .u64 (mNew d).mss, .int .i64 (mNew d).mode, .int .u64 (mNew d).rate, .int .u64 (mNew d).win, .int .u64 (mNew d).sav, .bool (mNew d).rec', .bool (mNew d).first, .int .u64 (mNew d).til] ^ blk n1 [.int .u64 (mNew d).w.w, .int .u64 (mNew d).w.t0, .int .u64 (mNew d).w.v0, .int .u64 (mNew d).w.t1, .int .u64 (mNew d).w.v1, .int .u64 (mNew d).w.t2, .int .u64 (mNew d).w.v2, .int .u64 (mNew d).w.la] ^ blk n2 [.int .u64 (mNew d).r.n, .int .u64 (mNew d).r.nx] ^ blk n3 [.int .u64 (mNew d).p.best, .int .i64 (mNew d).p.n, .bool (mNew d).p.full] ^ blk n4 [.int .i64 (mNew d).c.ph, .int .u64 (mNew d).c.at'] ^ blk n5 [.int .u64 (mNew d).b.best, .int .u64 (mNew d).b.at', .bool (mNew d).b.on, .int .u64 (mNew d).b.til, .bool (mNew d).b.rd] ^ blk n6 [.bool (mNew d).q.use, .bool (mNew d).q.mea, .int .u64 (mNew d).q.bw, .int .i64 (mNew d).q.n, .int .u64 (mNew d).q.lost, .int .u64 (mNew d).q.t0, .int .u64 (mNew d).q.d0, .int .u64 (mNew d).q.l0]) ^ rarr s K_u8b zs ^ emp) := h.fin
    refine w_loopE (fun (_ : Int) (m : Md) => (blk b [.ptr (some ⟨n1, 0⟩), .ptr (some ⟨n2, 0⟩), .ptr (some ⟨n3, 0⟩), .ptr (some ⟨n4, 0⟩), .ptr (some ⟨n5, 0⟩), .ptr (some ⟨n6, 0⟩), .int .u64 m.mss, .int .i64 m.mode, .int .u64 m.rate, .int .u64 m.win, .int .u64 m.sav, .bool m.rec', .bool m.first, .int .u64 m.til] ^ blk n1 [.int .u64 m.w.w, .int .u64 m.w.t0, .int .u64 m.w.v0, .int .u64 m.w.t1, .int .u64 m.w.v1, .int .u64 m.w.t2, .int .u64 m.w.v2, .int .u64 m.w.la] ^ blk n2 [.int .u64 m.r.n, .int .u64 m.r.nx] ^ blk n3 [.int .u64 m.p.best, .int .i64 m.p.n, .bool m.p.full] ^ blk n4 [.int .i64 m.c.ph, .int .u64 m.c.at'] ^ blk n5 [.int .u64 m.b.best, .int .u64 m.b.at', .bool m.b.on, .int .u64 m.b.til, .bool m.b.rd] ^ blk n6 [.bool m.q.use, .bool m.q.mea, .int .u64 m.q.bw, .int .i64 m.q.n, .int .u64 m.q.lost, .int .u64 m.q.t0, .int .u64 m.q.d0, .int .u64 m.q.l0]) ^ rarr s K_u8b zs ^ emp) (fun (i : Int) (m : Md) => (0 ≤ i ∧ i ≤ 100) ∧ OkM m ∧ m.mss = mMss d ∧ 1 ≤ m.rate) (fun (i : Int) _ => 100 - i.toNat) (mNew d) h ⟨⟨by simp, by simp⟩, OkM.new d, rfl, new_rate d⟩ ?_
    rintro K (i : Int) m w ⟨⟨i0, i1⟩, hm, hms, hr⟩ h hK
    refine w_ite (fun c => ?_) fun c => ?_
    · have c : i < (s.len : Nat) ∧ i < 100 := by simpa using c
      have hi : i.toNat < zs.length := by omega
      obtain ⟨z, hzz⟩ : ∃ p, zs[i.toNat]? = some p := ⟨_, at_some hi⟩
      have hok := hz z (List.mem_of_getElem? hzz)
      refine w_idx h i0 hi (w_ldE h s i.toNat hzz rfl ?_)
      have ht : U (2 * mMss d) := by unfold U; omega
      refine w_call (upd_tri b n1 n2 n3 n4 n5 n6 m hm z hok (2 * mMss d) ht) h fun r w h => ?_
      obtain ⟨hr', h⟩ := h.purP; rw [hr']
      have h1 : OkM (mUpd m z (2 * mMss d)) := hm.upd hok ht
      have h2 := upd_mss m z (2 * mMss d)
      have h3 := upd_rate m z (2 * mMss d) hr
      have h4 := upd_floor m z (2 * mMss d)
      rw [hms] at h2 h4
      generalize mUpd m z (2 * mMss d) = u at *
      refine w_new h fun x w h => ?_
      refine w_setTo h x [.int .i64 u.mode, .int .i64 u.c.ph, .int .u64 u.rate, .int .u64 u.win, .int .u64 (mBw u), .int .u64 u.b.best, .int .u64 (mGain u), .int .u64 u.r.n, .bool u.p.full, .bool u.q.use] rfl rfl rfl fun w h => ?_
      have hp := h1.c.ph
      have hmo := h1.mode
      refine w_join h (fun _ => blk x [.int .i64 u.mode, .int .i64 u.c.ph, .int .u64 u.rate, .int .u64 u.win, .int .u64 (mBw u), .int .u64 u.b.best, .int .u64 (mGain u), .int .u64 u.r.n, .bool u.p.full, .bool u.q.use] ^ (blk b [.ptr (some ⟨n1, 0⟩), .ptr (some ⟨n2, 0⟩), .ptr (some ⟨n3, 0⟩), .ptr (some ⟨n4, 0⟩), .ptr (some ⟨n5, 0⟩), .ptr (some ⟨n6, 0⟩), .int .u64 u.mss, .int .i64 u.mode, .int .u64 u.rate, .int .u64 u.win, .int .u64 u.sav, .bool u.rec', .bool u.first, .int .u64 u.til] ^ blk n1 [.int .u64 u.w.w, .int .u64 u.w.t0, .int .u64 u.w.v0, .int .u64 u.w.t1, .int .u64 u.w.v1, .int .u64 u.w.t2, .int .u64 u.w.v2, .int .u64 u.w.la] ^ blk n2 [.int .u64 u.r.n, .int .u64 u.r.nx] ^ blk n3 [.int .u64 u.p.best, .int .i64 u.p.n, .bool u.p.full] ^ blk n4 [.int .i64 u.c.ph, .int .u64 u.c.at'] ^ blk n5 [.int .u64 u.b.best, .int .u64 u.b.at', .bool u.b.on, .int .u64 u.b.til, .bool u.b.rd] ^ blk n6 [.bool u.q.use, .bool u.q.mea, .int .u64 u.q.bw, .int .i64 u.q.n, .int .u64 u.q.lost, .int .u64 u.q.t0, .int .u64 u.q.d0, .int .u64 u.q.l0]) ^ rarr s K_u8b zs ^ emp) (fun y : Bool => y = false) (fun (y : Bool) w hy h => ?_) ?_
      · rw [hy]
        refine w_ite (fun c => (by cases c)) fun _ => ?_
        rw [wi (n := i + 1) (by omega) (by omega)]
        exact hK (i + 1) u w ⟨⟨by omega, by omega⟩, h1, h2, h3⟩ h.fin (by omega)
      · have h : Own w0 S R w (blk x [.int .i64 u.mode, .int .i64 u.c.ph, .int .u64 u.rate, .int .u64 u.win, .int .u64 (mBw u), .int .u64 u.b.best, .int .u64 (mGain u), .int .u64 u.r.n, .bool u.p.full, .bool u.q.use] ^ (blk b [.ptr (some ⟨n1, 0⟩), .ptr (some ⟨n2, 0⟩), .ptr (some ⟨n3, 0⟩), .ptr (some ⟨n4, 0⟩), .ptr (some ⟨n5, 0⟩), .ptr (some ⟨n6, 0⟩), .int .u64 u.mss, .int .i64 u.mode, .int .u64 u.rate, .int .u64 u.win, .int .u64 u.sav, .bool u.rec', .bool u.first, .int .u64 u.til] ^ blk n1 [.int .u64 u.w.w, .int .u64 u.w.t0, .int .u64 u.w.v0, .int .u64 u.w.t1, .int .u64 u.w.v1, .int .u64 u.w.t2, .int .u64 u.w.v2, .int .u64 u.w.la] ^ blk n2 [.int .u64 u.r.n, .int .u64 u.r.nx] ^ blk n3 [.int .u64 u.p.best, .int .i64 u.p.n, .bool u.p.full] ^ blk n4 [.int .i64 u.c.ph, .int .u64 u.c.at'] ^ blk n5 [.int .u64 u.b.best, .int .u64 u.b.at', .bool u.b.on, .int .u64 u.b.til, .bool u.b.rd] ^ blk n6 [.bool u.q.use, .bool u.q.mea, .int .u64 u.q.bw, .int .i64 u.q.n, .int .u64 u.q.lost, .int .u64 u.q.t0, .int .u64 u.q.d0, .int .u64 u.q.l0]) ^ rarr s K_u8b zs ^ emp) := h.fin
        refine w_ld h rfl (w_ite (fun c => ?_) fun _ => ?_)
        · have c : u.rate = 0 := by simpa using c
          omega
        refine w_ld h rfl (w_ite (fun c => ?_) fun _ => ?_)
        · have c : u.win < 4 * mMss d := by simpa using c
          omega
        have q1 : ∀ (A B : WP), B w → ite' (decide (u.mode < 0)) A B w := fun A B hB => w_ite (fun c => absurd (of_decide_eq_true c) (by omega)) fun _ => hB
        have q2 : ∀ (A B : WP), B w → ite' (decide (u.mode > 3)) A B w := fun A B hB => w_ite (fun c => absurd (of_decide_eq_true c) (by omega)) fun _ => hB
        have q3 : ∀ (A B : WP), B w → ite' (decide (u.c.ph < 0)) A B w := fun A B hB => w_ite (fun c => absurd (of_decide_eq_true c) (by omega)) fun _ => hB
        have fin : decide (u.c.ph ≥ 8) = false := decide_eq_false (by omega)
        refine w_ld h rfl (w_ite (fun c => ?_) fun _ => ?_)
        · have c : u.mode = 3 := by simpa using c
          refine w_ld h rfl (w_ite (fun c2 => ?_) fun _ => ?_)
          · have c2 : u.win ≠ 4 * mMss d := by simpa using c2
            exact absurd (h4.2 c) c2
          exact w_ld h rfl (q1 _ _ (w_ld h rfl (q2 _ _ (w_ld h rfl (q3 _ _ (w_ld h rfl ⟨fin, h⟩))))))
        · exact w_ld h rfl (q1 _ _ (w_ld h rfl (q2 _ _ (w_ld h rfl (q3 _ _ (w_ld h rfl ⟨fin, h⟩))))))
    · exact Own.retP trivial h.emp'
end BbrB

end Go.X
