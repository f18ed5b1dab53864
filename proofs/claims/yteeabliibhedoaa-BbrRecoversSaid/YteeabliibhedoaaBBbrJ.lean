/- Contracts and plain facts: BbrJ. -/
import Derived.Test.YteeabliibhedoaaBPlain
import Derived.Test.YteeabliibhedoaaBArith
import Derived.Test.YteeabliibhedoaaBArithC
import Derived.Test.YteeabliibhedoaaBTarget
import Derived.Test.YteeabliibhedoaaBBbrM
import Derived.Test.YteeabliibhedoaaBBbrMm
import Derived.Test.YteeabliibhedoaaBBbrP
import Derived.Test.YteeabliibhedoaaBBbrW
import Derived.Test.YteeabliibhedoaaBBbrQ
import Derived.Test.YteeabliibhedoaaBBbrL
import Derived.Test.YteeabliibhedoaaBBbrN
import Derived.Test.YteeabliibhedoaaBBbrO
import Derived.Test.YteeabliibhedoaaBBbrU
import Derived.Test.YteeabliibhedoaaBBbrA
import Derived.Test.YteeabliibhedoaaBBbrF
import Derived.Test.YteeabliibhedoaaBBbrG
import Derived.Test.YteeabliibhedoaaBBbrD
import Derived.Test.YteeabliibhedoaaBBbrH
import Derived.Test.YteeabliibhedoaaBBbrI
import Derived.Test.YteeabliibhedoaaXw
import Derived.Test.YteeabliibhedoaaK
import Derived.Test.YteeabliibhedoaaF0
import Derived.Test.YteeabliibhedoaaF1
set_option linter.unusedVariables false
set_option linter.unusedSimpArgs false
set_option linter.unusedSectionVars false
namespace Go.X
open Go.Proofs
namespace BbrJ
open Arith ArithC _root_.Go.X.Target BbrM BbrMm BbrP BbrW BbrQ BbrL BbrN BbrO BbrU BbrA BbrF BbrG BbrD BbrH BbrI
theorem recov_tri (d o : Int) (ho : 0 ≤ o) : Tri Try.prog N_canterlaw17_BbrRecovers [.lf (.int .i64 d), .lf (.int .u64 o)] [.lf .bool] emp (fun r => pur (r = true) emp) :=
  tri_0 (call_canterlaw17_BbrRecovers _ _) fun w0 S R h => by
    unfold W_canterlaw17_BbrRecovers
    obtain ⟨k0, k5⟩ := modr d (m := 5) (by decide) (by decide)
    have hl : 0 ≤ o.tmod 20000 ∧ o.tmod 20000 < 20000 := ⟨Int.tmod_nonneg _ ho, Int.tmod_lt_of_pos _ (by decide)⟩
    generalize IntKind.i64.wrap ((IntKind.u64.wrap d).tmod 5) = k at *
    generalize o.tmod 20000 = l at *
    obtain ⟨n, hn⟩ : ∃ n : Int, 1 + k = n := ⟨_, rfl⟩
    simp only [hn]
    simp only [wi (n := n) (by omega) (by omega), wu (n := n) (by omega) (by omega), wu (n := 1 + l) (by omega) (by omega), wu (n := n * 1000000) (by omega) (by omega), wu (n := n * 10000) (by omega) (by omega),
      wu (n := n * 1000000 + 1) (by omega) (by omega), wu (n := n * 1000000 + 2) (by omega) (by omega), wu (n := n * 10000 + 10000) (by omega) (by omega)]
    have hn1 : 1 ≤ n ∧ n ≤ 5 := by omega
    have t2 : U 2000 := U_lit 2000
    refine w_call (BbrN.new_tri 1000) h fun r w h => ?_
    obtain ⟨⟨b, n1, n2, n3, n4, n5, n6⟩, h⟩ := h.exP
    dsimp only at h
    obtain ⟨hr, h⟩ := h.purP; rw [hr]
    refine w_call awake_tri h fun r w h => ?_
    obtain ⟨hr, h⟩ := h.purP; rw [hr]
    refine w_ite (fun c => (by cases c)) fun _ => ?_
    have h : Own w0 S R w ((blk b [.ptr (some ⟨n1, 0⟩), .ptr (some ⟨n2, 0⟩), .ptr (some ⟨n3, 0⟩), .ptr (some ⟨n4, 0⟩), .ptr (some ⟨n5, 0⟩), .ptr (some ⟨n6, 0⟩), .int .u64 (mNew 1000).mss, .int .i64 (mNew 1000).mode, .int .u64 (mNew 1000).rate, .int .u64 (mNew 1000).win, .int .u64 (mNew 1000).sav, .bool (mNew 1000).rec', .bool (mNew 1000).first, .int .u64 (mNew 1000).til] ^ blk n1 [.int .u64 (mNew 1000).w.w, .int .u64 (mNew 1000).w.t0, .int .u64 (mNew 1000).w.v0, .int .u64 (mNew 1000).w.t1, .int .u64 (mNew 1000).w.v1, .int .u64 (mNew 1000).w.t2, .int .u64 (mNew 1000).w.v2, .int .u64 (mNew 1000).w.la] ^ blk n2 [.int .u64 (mNew 1000).r.n, .int .u64 (mNew 1000).r.nx] ^ blk n3 [.int .u64 (mNew 1000).p.best, .int .i64 (mNew 1000).p.n, .bool (mNew 1000).p.full] ^ blk n4 [.int .i64 (mNew 1000).c.ph, .int .u64 (mNew 1000).c.at'] ^ blk n5 [.int .u64 (mNew 1000).b.best, .int .u64 (mNew 1000).b.at', .bool (mNew 1000).b.on, .int .u64 (mNew 1000).b.til, .bool (mNew 1000).b.rd] ^ blk n6 [.bool (mNew 1000).q.use, .bool (mNew 1000).q.mea, .int .u64 (mNew 1000).q.bw, .int .i64 (mNew 1000).q.n, .int .u64 (mNew 1000).q.lost, .int .u64 (mNew 1000).q.t0, .int .u64 (mNew 1000).q.d0, .int .u64 (mNew 1000).q.l0]) ^ emp) := h.fin
    refine w_loopE (fun (_ : Int) (m : Md) => (blk b [.ptr (some ⟨n1, 0⟩), .ptr (some ⟨n2, 0⟩), .ptr (some ⟨n3, 0⟩), .ptr (some ⟨n4, 0⟩), .ptr (some ⟨n5, 0⟩), .ptr (some ⟨n6, 0⟩), .int .u64 m.mss, .int .i64 m.mode, .int .u64 m.rate, .int .u64 m.win, .int .u64 m.sav, .bool m.rec', .bool m.first, .int .u64 m.til] ^ blk n1 [.int .u64 m.w.w, .int .u64 m.w.t0, .int .u64 m.w.v0, .int .u64 m.w.t1, .int .u64 m.w.v1, .int .u64 m.w.t2, .int .u64 m.w.v2, .int .u64 m.w.la] ^ blk n2 [.int .u64 m.r.n, .int .u64 m.r.nx] ^ blk n3 [.int .u64 m.p.best, .int .i64 m.p.n, .bool m.p.full] ^ blk n4 [.int .i64 m.c.ph, .int .u64 m.c.at'] ^ blk n5 [.int .u64 m.b.best, .int .u64 m.b.at', .bool m.b.on, .int .u64 m.b.til, .bool m.b.rd] ^ blk n6 [.bool m.q.use, .bool m.q.mea, .int .u64 m.q.bw, .int .i64 m.q.n, .int .u64 m.q.lost, .int .u64 m.q.t0, .int .u64 m.q.d0, .int .u64 m.q.l0]) ^ emp) (fun (y : Int) (m : Md) => (1 ≤ y ∧ y ≤ n + 1) ∧ Quiet m) (fun (y : Int) _ => 10 - y.toNat) (mNew 1000) h ⟨⟨by simp, by omega⟩, Quiet.new⟩ ?_
    rintro K (y : Int) m w ⟨⟨y0, y1⟩, hm⟩ h hK
    refine w_ite (fun c => ?_) fun c => ?_
    · have c : y ≤ n := by simpa using c
      rw [wu (n := y) (by omega) (by omega), wu (n := y * 1000000) (by omega) (by omega), wu (n := y * 10000) (by omega) (by omega), wi (n := y - 1) (by omega) (by omega), wu (n := y - 1) (by omega) (by omega), wu (n := (y - 1) * 10000) (by omega) (by omega)]
      have hs := rS_ok (y := y) y0 (by omega)
      refine w_call (upd_tri b n1 n2 n3 n4 n5 n6 m hm.ok (rS y) hs 2000 t2) h fun r w h => ?_
      obtain ⟨hr, h⟩ := h.purP
      rw [wi (n := y + 1) (by omega) (by omega)]
      exact hK (y + 1) (mUpd m (rS y) 2000) w ⟨⟨by omega, by omega⟩, hm.upd hs (by show y * 1000000 ≤ _; omega) rfl t2⟩ h (by omega)
    · refine w_call (state_tri b n1 n2 n3 n4 n5 n6 m) h fun r6 w h => ?_
      obtain ⟨hr6, h⟩ := h.purP
      have e6 : r6.2.2.2.1 = m.win := by rw [hr6]; rfl
      rw [e6]
      have hL := rL_ok (n := n) (l := 1 + l) hn1.1 hn1.2 ⟨by omega, by omega⟩
      have hE := rE_ok (n := n) hn1.1 hn1.2
      refine w_call (upd_tri b n1 n2 n3 n4 n5 n6 m hm.ok (rL n (1 + l)) hL 2000 t2) h fun r w h => ?_
      obtain ⟨hr, h⟩ := h.purP; rw [hr]
      obtain ⟨q1, q2, q3, q4, q5, q6⟩ := lossy hm hL (by show n * 1000000 + 1 ≤ _; omega) (by show 1 + l > 0; omega) rfl rfl t2
      have hu := hm.ok.upd hL t2
      have hui := (tr m (rL n (1 + l)) 2000 hm.inv).inv
      have hw := hm.ok.win
      generalize m.win = W at *
      generalize mUpd m (rL n (1 + l)) 2000 = u at *
      refine w_new h fun x1 w h => w_setTo h x1 (BbrD.mL u) rfl rfl rfl fun w h => ?_
      refine w_call (upd_tri b n1 n2 n3 n4 n5 n6 u hu (rE n) hE 2000 t2) h fun r w h => ?_
      obtain ⟨hr, h⟩ := h.purP; rw [hr]
      have hq : (mUpd u (rE n) 2000).p.full = false → W ≤ (mUpd u (rE n) 2000).win := fun hf =>
        after hu hui q6 q4 hE (by show n * 1000000 + 2 ≤ _; omega) rfl (by show (10000 : Int) > 0; omega) (by rw [q5]; show addI (n * 10000) 10000 ≤ n * 10000 + 10000; unfold addI; split <;> omega) t2 q3 hf
      have hz := hu.upd hE t2
      generalize mUpd u (rE n) 2000 = z at *
      refine w_new h fun x2 w h => w_setTo h x2 (BbrD.mL z) rfl rfl rfl fun w h => ?_
      have h : Own w0 S R w (blk x2 (BbrD.mL z) ^ blk x1 (BbrD.mL u) ^ (blk b [.ptr (some ⟨n1, 0⟩), .ptr (some ⟨n2, 0⟩), .ptr (some ⟨n3, 0⟩), .ptr (some ⟨n4, 0⟩), .ptr (some ⟨n5, 0⟩), .ptr (some ⟨n6, 0⟩), .int .u64 z.mss, .int .i64 z.mode, .int .u64 z.rate, .int .u64 z.win, .int .u64 z.sav, .bool z.rec', .bool z.first, .int .u64 z.til] ^ blk n1 [.int .u64 z.w.w, .int .u64 z.w.t0, .int .u64 z.w.v0, .int .u64 z.w.t1, .int .u64 z.w.v1, .int .u64 z.w.t2, .int .u64 z.w.v2, .int .u64 z.w.la] ^ blk n2 [.int .u64 z.r.n, .int .u64 z.r.nx] ^ blk n3 [.int .u64 z.p.best, .int .i64 z.p.n, .bool z.p.full] ^ blk n4 [.int .i64 z.c.ph, .int .u64 z.c.at'] ^ blk n5 [.int .u64 z.b.best, .int .u64 z.b.at', .bool z.b.on, .int .u64 z.b.til, .bool z.b.rd] ^ blk n6 [.bool z.q.use, .bool z.q.mea, .int .u64 z.q.bw, .int .i64 z.q.n, .int .u64 z.q.lost, .int .u64 z.q.t0, .int .u64 z.q.d0, .int .u64 z.q.l0]) ^ emp) := h.fin
      refine w_drw h fun w h => w_ld h rfl ?_
      refine w_ite (fun _ => ?_) fun c => (absurd (of_decide_eq_false c) (by (repeat' split) <;> omega))
      refine w_ld h rfl ?_
      refine w_ite (fun _ => ?_) fun c => (absurd (of_decide_eq_false c) (by revert q2; (repeat' split) <;> intros <;> omega))
      refine w_ld h rfl (w_ld h rfl (w_ld h rfl ?_))
      refine w_call (rwin_tri (mBw z) z.b.best 739 2000 1000 hz.bw hz.b.best (U_lit 739) t2 (U_lit 1000)) h fun r w h => ?_
      obtain ⟨hr, h⟩ := h.purP; rw [hr]
      refine w_chk h rfl ?_
      refine w_ite (fun _ => ?_) fun c => ?_
      · exact Own.retP trivial h.emp'
      · refine w_call (state_tri b n1 n2 n3 n4 n5 n6 z) h fun r w h => ?_
        obtain ⟨hr, h⟩ := h.purP; rw [hr]
        refine Own.retP ?_ h.emp'
        show z.p.full = true
        cases hf : z.p.full with
        | true => rfl
        | false =>
          have := hq hf
          have c := of_decide_eq_false c
          exact absurd (show z.win ≥ _ by split <;> omega) c
end BbrJ

end Go.X
