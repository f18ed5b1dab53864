/- Contracts and plain facts: BbrC. -/
import Derived.Test.YteeabliibhedoaaBPlain
import Derived.Test.YteeabliibhedoaaBArith
import Derived.Test.YteeabliibhedoaaBArithC
import Derived.Test.YteeabliibhedoaaBTarget
import Derived.Test.YteeabliibhedoaaBBbrM
import Derived.Test.YteeabliibhedoaaBBbrMm
import Derived.Test.YteeabliibhedoaaBBbrP
import Derived.Test.YteeabliibhedoaaBBbrW
import Derived.Test.YteeabliibhedoaaBBbrQ
import Derived.Test.YteeabliibhedoaaBBbrL
import Derived.Test.YteeabliibhedoaaBBbrN
import Derived.Test.YteeabliibhedoaaBBbrO
import Derived.Test.YteeabliibhedoaaBBbrU
import Derived.Test.YteeabliibhedoaaBBbrA
import Derived.Test.YteeabliibhedoaaBBbrF
import Derived.Test.YteeabliibhedoaaBBbrPr
import Derived.Test.YteeabliibhedoaaXw
import Derived.Test.YteeabliibhedoaaK
import Derived.Test.YteeabliibhedoaaF0
set_option linter.unusedVariables false
set_option linter.unusedSimpArgs false
set_option linter.unusedSectionVars false
namespace Go.X
open Go.Proofs
namespace BbrC
open Arith ArithC _root_.Go.X.Target BbrM BbrMm BbrP BbrW BbrQ BbrL BbrN BbrO BbrU BbrA BbrPr
abbrev mL (m : Md) : List Lf := [.int .i64 m.mode, .int .i64 m.c.ph, .int .u64 m.rate, .int .u64 m.win, .int .u64 (mBw m), .int .u64 m.b.best, .int .u64 (mGain m), .int .u64 m.r.n, .bool m.p.full, .bool m.q.use]
theorem probes_tri (d : Int) (hd : 0 ≤ d) : Tri Try.prog N_canterlaw17_BbrProbes [.lf (.int .u64 d)] [.lf .bool] emp (fun r => pur (r = true) emp) :=
  tri_0 (call_canterlaw17_BbrProbes _) fun w0 S R h => by
    unfold W_canterlaw17_BbrProbes
    obtain ⟨k, hk, hk2⟩ : ∃ k : Nat, d.tmod 1000 = (k : Int) ∧ k < 1000 := by
      refine ⟨(d % 1000).toNat, ?_, by omega⟩
      rw [Int.tmod_eq_emod_of_nonneg hd]; omega
    obtain ⟨f1, f2, f3, f4, f5, f6, f7, f8, f9⟩ := okP_at (okP_all k hk2)
    simp only [hk]
    simp only [wu (n := 10000001001 + (k : Int)) (by omega) (by omega), wu (n := 10000001001 + (k : Int) + 1) (by omega) (by omega), wu (n := 10000001001 + (k : Int) + 200000000) (by omega) (by omega), wu (n := 10000001001 + (k : Int) + 2) (by omega) (by omega), wu (n := 10000001001 + (k : Int) + 2 + 200000000) (by omega) (by omega)]
    have hA : OkS pA := ⟨U_lit 1000, U_lit 10000, U_lit 0, U_lit 1000, U_lit 1000, U_lit 10000, U_lit 0, U_lit 10000⟩
    have hB : OkS (pB k) := ⟨U_lit (10000001001 + k), U_lit 20000, U_lit 10000, U_lit 2000, U_lit 2000, U_lit 10000, U_lit 0, U_lit 3000⟩
    have hC : OkS (pC k) := ⟨U_lit (10000001001 + k + 1), U_lit 21000, U_lit 20000, U_lit 2000, U_lit 2000, U_lit 1000, U_lit 0, U_lit 3000⟩
    have hD : OkS (pD k) := ⟨U_lit (10000001001 + k + 200000000), U_lit 22000, U_lit 21000, U_lit 2000, U_lit 2000, U_lit 1000, U_lit 0, U_lit 3000⟩
    have hE : OkS (pE k) := ⟨U_lit (10000001001 + k + 2 + 200000000), U_lit 23000, U_lit 22000, U_lit 2000, U_lit 2000, U_lit 1000, U_lit 0, U_lit 3000⟩
    have t2 : U 2000 := U_lit 2000
    have o1 : OkM m1 := (OkM.new 1000).upd hA t2
    have o2 : OkM (m2 k) := o1.upd hB t2
    have o3 : OkM (m3 k) := o2.upd hC t2
    have o4 : OkM (m4 k) := o3.upd hD t2
    have g1 : mUpd (mNew 1000) pA 2000 = m1 := rfl
    have g2 : mUpd m1 (pB k) 2000 = m2 k := rfl
    have g3 : mUpd (m2 k) (pC k) 2000 = m3 k := rfl
    have g4 : mUpd (m3 k) (pD k) 2000 = m4 k := rfl
    have g5 : mUpd (m4 k) (pE k) 2000 = m5 k := rfl
    generalize m1 = a1 at *
    generalize m2 k = a2 at *
    generalize m3 k = a3 at *
    generalize m4 k = a4 at *
    generalize m5 k = a5 at *
    refine w_call (new_tri 1000) h fun r w h => ?_
    obtain ⟨⟨b, n1, n2, n3, n4, n5, n6⟩, h⟩ := h.exP
    dsimp only at h
    obtain ⟨hr, h⟩ := h.purP; rw [hr]
    refine w_call awake_tri h fun r w h => ?_
    obtain ⟨hr, h⟩ := h.purP; rw [hr]
    refine w_ite (fun c => (by cases c)) fun _ => ?_
    have h : Own w0 S R w ((blk b [.ptr (some ⟨n1, 0⟩), .ptr (some ⟨n2, 0⟩), .ptr (some ⟨n3, 0⟩), .ptr (some ⟨n4, 0⟩), .ptr (some ⟨n5, 0⟩), .ptr (some ⟨n6, 0⟩), .int .u64 (mNew 1000).mss, .int .i64 (mNew 1000).mode, .int .u64 (mNew 1000).rate, .int .u64 (mNew 1000).win, .int .u64 (mNew 1000).sav, .bool (mNew 1000).rec', .bool (mNew 1000).first, .int .u64 (mNew 1000).til] ^ blk n1 [.int .u64 (mNew 1000).w.w, .int .u64 (mNew 1000).w.t0, .int .u64 (mNew 1000).w.v0, .int .u64 (mNew 1000).w.t1, .int .u64 (mNew 1000).w.v1, .int .u64 (mNew 1000).w.t2, .int .u64 (mNew 1000).w.v2, .int .u64 (mNew 1000).w.la] ^ blk n2 [.int .u64 (mNew 1000).r.n, .int .u64 (mNew 1000).r.nx] ^ blk n3 [.int .u64 (mNew 1000).p.best, .int .i64 (mNew 1000).p.n, .bool (mNew 1000).p.full] ^ blk n4 [.int .i64 (mNew 1000).c.ph, .int .u64 (mNew 1000).c.at'] ^ blk n5 [.int .u64 (mNew 1000).b.best, .int .u64 (mNew 1000).b.at', .bool (mNew 1000).b.on, .int .u64 (mNew 1000).b.til, .bool (mNew 1000).b.rd] ^ blk n6 [.bool (mNew 1000).q.use, .bool (mNew 1000).q.mea, .int .u64 (mNew 1000).q.bw, .int .i64 (mNew 1000).q.n, .int .u64 (mNew 1000).q.lost, .int .u64 (mNew 1000).q.t0, .int .u64 (mNew 1000).q.d0, .int .u64 (mNew 1000).q.l0]) ^ emp) := h.fin
    refine w_call (upd_tri b n1 n2 n3 n4 n5 n6 (mNew 1000) (OkM.new _) pA hA 2000 t2) h fun r w h => ?_
    obtain ⟨_, h⟩ := h.purP
    rw [g1] at h
    refine w_call (state_tri b n1 n2 n3 n4 n5 n6 a1) h fun r4 w h => ?_
    obtain ⟨hr4, h⟩ := h.purP
    refine w_call (upd_tri b n1 n2 n3 n4 n5 n6 a1 o1 (pB k) hB 2000 t2) h fun r w h => ?_
    obtain ⟨hr, h⟩ := h.purP
    rw [g2] at h hr
    rw [hr]
    refine w_new h fun x2 w h => w_setTo h x2 (mL a2) rfl rfl rfl fun w h => ?_
    refine w_call (upd_tri b n1 n2 n3 n4 n5 n6 a2 o2 (pC k) hC 2000 t2) h fun r w h => ?_
    obtain ⟨hr, h⟩ := h.purP
    rw [g3] at h hr
    rw [hr]
    refine w_new h fun x3 w h => w_setTo h x3 (mL a3) rfl rfl rfl fun w h => ?_
    refine w_call (upd_tri b n1 n2 n3 n4 n5 n6 a3 o3 (pD k) hD 2000 t2) h fun r w h => ?_
    obtain ⟨hr, h⟩ := h.purP
    rw [g4] at h hr
    rw [hr]
    refine w_new h fun x4 w h => w_setTo h x4 (mL a4) rfl rfl rfl fun w h => ?_
    refine w_call (upd_tri b n1 n2 n3 n4 n5 n6 a4 o4 (pE k) hE 2000 t2) h fun r w h => ?_
    obtain ⟨hr, h⟩ := h.purP
    rw [g5] at h hr
    rw [hr]
    refine w_new h fun x5 w h => w_setTo h x5 (mL a5) rfl rfl rfl fun w h => ?_
    have e4 : r4.2.2.2.1 = a1.win := by rw [hr4]; rfl
    have no : ∀ {p q : Int} {A B : WP}, p = q → A w → ite' (p == q) A B w := fun {p q A B} e hA => w_ite (fun _ => hA) fun c => by rw [e] at c; simp at c
    refine w_ld h rfl (no f1 (w_ld h rfl (no f2 (w_ld h rfl (no f3 (w_ld h rfl (no f4 (w_ld h rfl (no f5 (w_ld h rfl ?_))))))))))
    refine w_ite (fun _ => ?_) fun c => (by rw [f6] at c; cases c)
    refine w_ld h rfl (no f7 (w_ld h rfl ?_))
    refine w_ite (fun _ => ?_) fun c => (absurd (of_decide_eq_false c) (by rw [e4]; exact fun hh => hh f8))
    refine w_ld h rfl ?_
    exact Own.retP (by rw [f9]; rfl) h.emp'
end BbrC

end Go.X
