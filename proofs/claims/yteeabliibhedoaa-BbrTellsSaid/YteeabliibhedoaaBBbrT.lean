/- Contracts and plain facts: BbrT. -/
import Derived.Test.YteeabliibhedoaaBPlain
import Derived.Test.YteeabliibhedoaaBArith
import Derived.Test.YteeabliibhedoaaBArithC
import Derived.Test.YteeabliibhedoaaBTarget
import Derived.Test.YteeabliibhedoaaBBbrM
import Derived.Test.YteeabliibhedoaaBBbrMm
import Derived.Test.YteeabliibhedoaaBBbrP
import Derived.Test.YteeabliibhedoaaBBbrW
import Derived.Test.YteeabliibhedoaaBBbrQ
import Derived.Test.YteeabliibhedoaaBBbrL
import Derived.Test.YteeabliibhedoaaBBbrN
import Derived.Test.YteeabliibhedoaaBBbrO
import Derived.Test.YteeabliibhedoaaBBbrU
import Derived.Test.YteeabliibhedoaaBBbrA
import Derived.Test.YteeabliibhedoaaBBbrF
import Derived.Test.YteeabliibhedoaaBBbrV
import Derived.Test.YteeabliibhedoaaBBbrX
import Derived.Test.YteeabliibhedoaaBBbrZ
import Derived.Test.YteeabliibhedoaaXw
import Derived.Test.YteeabliibhedoaaK
import Derived.Test.YteeabliibhedoaaF0
import Derived.Test.YteeabliibhedoaaF1
set_option linter.unusedVariables false
set_option linter.unusedSimpArgs false
set_option linter.unusedSectionVars false
namespace Go.X
open Go.Proofs
namespace BbrT
open Arith ArithC _root_.Go.X.Target BbrM BbrMm BbrP BbrW BbrQ BbrL BbrN BbrO BbrU BbrA BbrF BbrV BbrX BbrZ
theorem psam_tri (s : Sm) (hs : OkS s) : Tri Try.prog N_canterplay_Sample [.agg (Ks.mk K_u8b s)] [.agg K_u8b] emp (fun r => pur (OkS r) emp) :=
  tri_0 (call_canterplay_Sample _) fun w0 S R h => by
    unfold W_canterplay_Sample
    obtain ⟨a1, a2, a3, a4, a5, a6, a7, a8⟩ := hs
    obtain ⟨s1, s2, s3, s4, s5, s6, s7, s8, s9⟩ := s
    dsimp only [sNow, sDel, sPri, sTim, sRtt, sAck, sLost, sFli] at a1 a2 a3 a4 a5 a6 a7 a8
    have k : ∀ x : Int, U x → U (x.tmod 1099511627776) := fun x hx => by
      rw [Int.tmod_eq_emod_of_nonneg hx.1]; unfold U at *; omega
    refine w_new h fun n1 w h => ?_
    refine w_new h fun n2 w h => ?_
    refine w_ld h rfl (w_ld h rfl (w_ld h rfl ?_))
    refine w_set h rfl fun w h => ?_
    refine w_set h rfl fun w h => ?_
    refine w_set h rfl fun w h => ?_
    refine w_ldAll (x := ((s1, s2, s3, s4, s5, s6.tmod 1099511627776, s7.tmod 1099511627776, s8.tmod 1099511627776, s9) : Sm)) h rfl ?_
    refine w_setAll h (by rfl) fun w h => ?_
    refine w_ldAll (x := ((s1, s2, s3, s4, s5, s6.tmod 1099511627776, s7.tmod 1099511627776, s8.tmod 1099511627776, s9) : Sm)) h rfl ?_
    exact Own.retP ⟨a1, a2, a3, a4, a5, k _ a6, k _ a7, k _ a8⟩ h.emp'
theorem same_st (x : BbrMm.St) : (!((x.1 == x.1) && ((x.2.1 == x.2.1) && ((x.2.2.1 == x.2.2.1) && ((x.2.2.2.1 == x.2.2.2.1) && ((x.2.2.2.2.1 == x.2.2.2.2.1) && ((x.2.2.2.2.2.1 == x.2.2.2.2.2.1) && ((x.2.2.2.2.2.2.1 == x.2.2.2.2.2.2.1) && ((x.2.2.2.2.2.2.2.1 == x.2.2.2.2.2.2.2.1) && ((x.2.2.2.2.2.2.2.2.1 == x.2.2.2.2.2.2.2.2.1) && (x.2.2.2.2.2.2.2.2.2 == x.2.2.2.2.2.2.2.2.2))))))))))) = false := by simp
theorem okU_of {y : Int} (h : ∀ k n, Lf.int k n ∈ Ks.mk [.int .u64] y → (Lit.int k n).wf = true) : U y := wf_u (h .u64 _ (by simp [Ks.mk, CK.mk]))
theorem tells_tri (d : Int) (s a : Sl) (zs : List Sm) (ts : List Int) (raw : Bool) (hz : ∀ z ∈ zs, OkS z) (hts : ∀ t ∈ ts, U t) : Tri Try.prog N_canterlaw17_BbrTells [.lf (.int .u64 d), .lf (.sl s), .lf (.sl a), .lf (.bool raw)] [.lf .bool] (rarr s K_u8b zs ^ rarr a KU ts) (fun r => pur (r = true) emp) :=
  tri_0 (call_canterlaw17_BbrTells _ _ _ _) fun w0 S R h => by
    unfold W_canterlaw17_BbrTells
    have h : Own w0 S R w0 (rarr s K_u8b zs ^ rarr a KU ts ^ emp) := h.le (star_mono Le.rfl (star_emp _))
    have hlen := (h.rd (s := s)).2
    have hlen2 := (h.drop.rd (s := a)).2
    refine w_call (new_tri d) h fun r w h => ?_
    obtain ⟨⟨b, n1, n2, n3, n4, n5, n6⟩, h⟩ := h.exP
    dsimp only at h
    obtain ⟨hr, h⟩ := h.purP; rw [hr]
    refine w_call (rnew_tri d) h fun r w h => ?_
    obtain ⟨⟨rb, nw⟩, h⟩ := h.exP
    dsimp only at h
    obtain ⟨hr, h⟩ := h.purP; rw [hr]
    have h : Own w0 S R w ((blk b [.ptr (some ⟨n1, 0⟩), .ptr (some ⟨n2, 0⟩), .ptr (some ⟨n3, 0⟩), .ptr (some ⟨n4, 0⟩), .ptr (some ⟨n5, 0⟩), .ptr (some ⟨n6, 0⟩), .int .u64 (mNew d).mss, .int .i64 (mNew d).mode, .int .u64 (mNew d).rate, .int .u64 (mNew d).win, .int .u64 (mNew d).sav, .bool (mNew d).rec', .bool (mNew d).first, .int .u64 (mNew d).til] ^ blk n1 [.int .u64 (mNew d).w.w, .int .u64 (mNew d).w.t0, .int .u64 (mNew d).w.v0, .int .u64 (mNew d).w.t1, .int .u64 (mNew d).w.v1, .int .u64 (mNew d).w.t2, .int .u64 (mNew d).w.v2, .int .u64 (mNew d).w.la] ^ blk n2 [.int .u64 (mNew d).r.n, .int .u64 (mNew d).r.nx] ^ blk n3 [.int .u64 (mNew d).p.best, .int .i64 (mNew d).p.n, .bool (mNew d).p.full] ^ blk n4 [.int .i64 (mNew d).c.ph, .int .u64 (mNew d).c.at'] ^ blk n5 [.int .u64 (mNew d).b.best, .int .u64 (mNew d).b.at', .bool (mNew d).b.on, .int .u64 (mNew d).b.til, .bool (mNew d).b.rd] ^ blk n6 [.bool (mNew d).q.use, .bool (mNew d).q.mea, .int .u64 (mNew d).q.bw, .int .i64 (mNew d).q.n, .int .u64 (mNew d).q.lost, .int .u64 (mNew d).q.t0, .int .u64 (mNew d).q.d0, .int .u64 (mNew d).q.l0]) ^ (blk rb [.int .u64 (Rm.mk (mNew d) false 0 739).m.mss, .ptr (some ⟨nw, 0⟩), .int .u64 (Rm.mk (mNew d) false 0 739).m.r.n, .int .u64 (Rm.mk (mNew d) false 0 739).m.r.nx, .int .u64 (Rm.mk (mNew d) false 0 739).m.p.best, .int .i64 (Rm.mk (mNew d) false 0 739).m.p.n, .bool (Rm.mk (mNew d) false 0 739).m.p.full, .int .i64 (Rm.mk (mNew d) false 0 739).m.c.ph, .int .u64 (Rm.mk (mNew d) false 0 739).m.c.at', .int .u64 (Rm.mk (mNew d) false 0 739).m.b.best, .int .u64 (Rm.mk (mNew d) false 0 739).m.b.at', .bool (Rm.mk (mNew d) false 0 739).m.b.on, .bool (Rm.mk (mNew d) false 0 739).set, .bool (Rm.mk (mNew d) false 0 739).m.b.rd, .int .u64 (Rm.mk (mNew d) false 0 739).till, .bool (Rm.mk (mNew d) false 0 739).m.q.use, .bool (Rm.mk (mNew d) false 0 739).m.q.mea, .int .u64 (Rm.mk (mNew d) false 0 739).m.q.bw, .int .i64 (Rm.mk (mNew d) false 0 739).m.q.n, .int .u64 (Rm.mk (mNew d) false 0 739).m.q.lost, .int .u64 (Rm.mk (mNew d) false 0 739).m.q.t0, .int .u64 (Rm.mk (mNew d) false 0 739).m.q.d0, .int .u64 (Rm.mk (mNew d) false 0 739).m.q.l0, .int .i64 (Rm.mk (mNew d) false 0 739).m.mode, .int .u64 (Rm.mk (mNew d) false 0 739).m.rate, .int .u64 (Rm.mk (mNew d) false 0 739).m.win, .int .u64 (Rm.mk (mNew d) false 0 739).g, .bool (Rm.mk (mNew d) false 0 739).m.rec', .bool (Rm.mk (mNew d) false 0 739).m.first, .int .u64 (Rm.mk (mNew d) false 0 739).m.til, .int .u64 (Rm.mk (mNew d) false 0 739).m.sav] ^ blk nw [.int .u64 (Rm.mk (mNew d) false 0 739).m.w.w, .int .u64 (Rm.mk (mNew d) false 0 739).m.w.t0, .int .u64 (Rm.mk (mNew d) false 0 739).m.w.t1, .int .u64 (Rm.mk (mNew d) false 0 739).m.w.t2, .int .u64 (Rm.mk (mNew d) false 0 739).m.w.v0, .int .u64 (Rm.mk (mNew d) false 0 739).m.w.v1, .int .u64 (Rm.mk (mNew d) false 0 739).m.w.v2, .int .u64 (Rm.mk (mNew d) false 0 739).m.w.la, .bool false]) ^ rarr s K_u8b zs ^ rarr a KU ts ^ emp) := h.fin
    refine w_join h (fun _ => (blk b [.ptr (some ⟨n1, 0⟩), .ptr (some ⟨n2, 0⟩), .ptr (some ⟨n3, 0⟩), .ptr (some ⟨n4, 0⟩), .ptr (some ⟨n5, 0⟩), .ptr (some ⟨n6, 0⟩), .int .u64 (mNew d).mss, .int .i64 (mNew d).mode, .int .u64 (mNew d).rate, .int .u64 (mNew d).win, .int .u64 (mNew d).sav, .bool (mNew d).rec', .bool (mNew d).first, .int .u64 (mNew d).til] ^ blk n1 [.int .u64 (mNew d).w.w, .int .u64 (mNew d).w.t0, .int .u64 (mNew d).w.v0, .int .u64 (mNew d).w.t1, .int .u64 (mNew d).w.v1, .int .u64 (mNew d).w.t2, .int .u64 (mNew d).w.v2, .int .u64 (mNew d).w.la] ^ blk n2 [.int .u64 (mNew d).r.n, .int .u64 (mNew d).r.nx] ^ blk n3 [.int .u64 (mNew d).p.best, .int .i64 (mNew d).p.n, .bool (mNew d).p.full] ^ blk n4 [.int .i64 (mNew d).c.ph, .int .u64 (mNew d).c.at'] ^ blk n5 [.int .u64 (mNew d).b.best, .int .u64 (mNew d).b.at', .bool (mNew d).b.on, .int .u64 (mNew d).b.til, .bool (mNew d).b.rd] ^ blk n6 [.bool (mNew d).q.use, .bool (mNew d).q.mea, .int .u64 (mNew d).q.bw, .int .i64 (mNew d).q.n, .int .u64 (mNew d).q.lost, .int .u64 (mNew d).q.t0, .int .u64 (mNew d).q.d0, .int .u64 (mNew d).q.l0]) ^ (blk rb [.int .u64 (Rm.mk (mNew d) false 0 739).m.mss, .ptr (some ⟨nw, 0⟩), .int .u64 (Rm.mk (mNew d) false 0 739).m.r.n, .int .u64 (Rm.mk (mNew d) false 0 739).m.r.nx, .int .u64 (Rm.mk (mNew d) false 0 739).m.p.best, .int .i64 (Rm.mk (mNew d) false 0 739).m.p.n, .bool (Rm.mk (mNew d) false 0 739).m.p.full, .int .i64 (Rm.mk (mNew d) false 0 739).m.c.ph, .int .u64 (Rm.mk (mNew d) false 0 739).m.c.at', .int .u64 (Rm.mk (mNew d) false 0 739).m.b.best, .int .u64 (Rm.mk (mNew d) false 0 739).m.b.at', .bool (Rm.mk (mNew d) false 0 739).m.b.on, .bool (Rm.mk (mNew d) false 0 739).set, .bool (Rm.mk (mNew d) false 0 739).m.b.rd, .int .u64 (Rm.mk (mNew d) false 0 739).till, .bool (Rm.mk (mNew d) false 0 739).m.q.use, .bool (Rm.mk (mNew d) false 0 739).m.q.mea, .int .u64 (Rm.mk (mNew d) false 0 739).m.q.bw, .int .i64 (Rm.mk (mNew d) false 0 739).m.q.n, .int .u64 (Rm.mk (mNew d) false 0 739).m.q.lost, .int .u64 (Rm.mk (mNew d) false 0 739).m.q.t0, .int .u64 (Rm.mk (mNew d) false 0 739).m.q.d0, .int .u64 (Rm.mk (mNew d) false 0 739).m.q.l0, .int .i64 (Rm.mk (mNew d) false 0 739).m.mode, .int .u64 (Rm.mk (mNew d) false 0 739).m.rate, .int .u64 (Rm.mk (mNew d) false 0 739).m.win, .int .u64 (Rm.mk (mNew d) false 0 739).g, .bool (Rm.mk (mNew d) false 0 739).m.rec', .bool (Rm.mk (mNew d) false 0 739).m.first, .int .u64 (Rm.mk (mNew d) false 0 739).m.til, .int .u64 (Rm.mk (mNew d) false 0 739).m.sav] ^ blk nw [.int .u64 (Rm.mk (mNew d) false 0 739).m.w.w, .int .u64 (Rm.mk (mNew d) false 0 739).m.w.t0, .int .u64 (Rm.mk (mNew d) false 0 739).m.w.t1, .int .u64 (Rm.mk (mNew d) false 0 739).m.w.t2, .int .u64 (Rm.mk (mNew d) false 0 739).m.w.v0, .int .u64 (Rm.mk (mNew d) false 0 739).m.w.v1, .int .u64 (Rm.mk (mNew d) false 0 739).m.w.v2, .int .u64 (Rm.mk (mNew d) false 0 739).m.w.la, .bool false]) ^ rarr s K_u8b zs ^ rarr a KU ts ^ emp) (fun _ => True) (fun _ w _ h => ?_) ?_
    · refine w_loopE (fun (_ : Int) (v : Rm) => (blk b [.ptr (some ⟨n1, 0⟩), .ptr (some ⟨n2, 0⟩), .ptr (some ⟨n3, 0⟩), .ptr (some ⟨n4, 0⟩), .ptr (some ⟨n5, 0⟩), .ptr (some ⟨n6, 0⟩), .int .u64 v.m.mss, .int .i64 v.m.mode, .int .u64 v.m.rate, .int .u64 v.m.win, .int .u64 v.m.sav, .bool v.m.rec', .bool v.m.first, .int .u64 v.m.til] ^ blk n1 [.int .u64 v.m.w.w, .int .u64 v.m.w.t0, .int .u64 v.m.w.v0, .int .u64 v.m.w.t1, .int .u64 v.m.w.v1, .int .u64 v.m.w.t2, .int .u64 v.m.w.v2, .int .u64 v.m.w.la] ^ blk n2 [.int .u64 v.m.r.n, .int .u64 v.m.r.nx] ^ blk n3 [.int .u64 v.m.p.best, .int .i64 v.m.p.n, .bool v.m.p.full] ^ blk n4 [.int .i64 v.m.c.ph, .int .u64 v.m.c.at'] ^ blk n5 [.int .u64 v.m.b.best, .int .u64 v.m.b.at', .bool v.m.b.on, .int .u64 v.m.b.til, .bool v.m.b.rd] ^ blk n6 [.bool v.m.q.use, .bool v.m.q.mea, .int .u64 v.m.q.bw, .int .i64 v.m.q.n, .int .u64 v.m.q.lost, .int .u64 v.m.q.t0, .int .u64 v.m.q.d0, .int .u64 v.m.q.l0]) ^ (blk rb [.int .u64 v.m.mss, .ptr (some ⟨nw, 0⟩), .int .u64 v.m.r.n, .int .u64 v.m.r.nx, .int .u64 v.m.p.best, .int .i64 v.m.p.n, .bool v.m.p.full, .int .i64 v.m.c.ph, .int .u64 v.m.c.at', .int .u64 v.m.b.best, .int .u64 v.m.b.at', .bool v.m.b.on, .bool v.set, .bool v.m.b.rd, .int .u64 v.till, .bool v.m.q.use, .bool v.m.q.mea, .int .u64 v.m.q.bw, .int .i64 v.m.q.n, .int .u64 v.m.q.lost, .int .u64 v.m.q.t0, .int .u64 v.m.q.d0, .int .u64 v.m.q.l0, .int .i64 v.m.mode, .int .u64 v.m.rate, .int .u64 v.m.win, .int .u64 v.g, .bool v.m.rec', .bool v.m.first, .int .u64 v.m.til, .int .u64 v.m.sav] ^ blk nw [.int .u64 v.m.w.w, .int .u64 v.m.w.t0, .int .u64 v.m.w.t1, .int .u64 v.m.w.t2, .int .u64 v.m.w.v0, .int .u64 v.m.w.v1, .int .u64 v.m.w.v2, .int .u64 v.m.w.la, .bool false]) ^ rarr s K_u8b zs ^ rarr a KU ts ^ emp) (fun (i : Int) (v : Rm) => (0 ≤ i ∧ i ≤ 100) ∧ OkM v.m ∧ Rel v ∧ v.g = mGain v.m) (fun (i : Int) _ => 100 - i.toNat) (Rm.mk (mNew d) false 0 739) h ⟨⟨by simp, by simp⟩, OkM.new d, (fun hh => by cases hh), rfl⟩ ?_
      rintro K (i : Int) v w ⟨⟨i0, i1⟩, hm, hR, hg⟩ h hK
      refine w_ite (fun c => ?_) fun c => ?_
      · have c : i < (s.len : Nat) ∧ i < 100 := by simpa using c
        have hi : i.toNat < zs.length := by omega
        obtain ⟨z, hzz⟩ : ∃ p, zs[i.toNat]? = some p := ⟨_, at_some hi⟩
        have hok := hz z (List.mem_of_getElem? hzz)
        refine w_idx (s := s) h i0 hi (w_ldE h s i.toNat hzz rfl ?_)
        refine w_new h fun n12 w h => ?_
        refine w_setAll h (by rfl) fun w h => ?_
        have h : Own w0 S R w (blk n12 (Ks.mk K_u8b z) ^ (blk b [.ptr (some ⟨n1, 0⟩), .ptr (some ⟨n2, 0⟩), .ptr (some ⟨n3, 0⟩), .ptr (some ⟨n4, 0⟩), .ptr (some ⟨n5, 0⟩), .ptr (some ⟨n6, 0⟩), .int .u64 v.m.mss, .int .i64 v.m.mode, .int .u64 v.m.rate, .int .u64 v.m.win, .int .u64 v.m.sav, .bool v.m.rec', .bool v.m.first, .int .u64 v.m.til] ^ blk n1 [.int .u64 v.m.w.w, .int .u64 v.m.w.t0, .int .u64 v.m.w.v0, .int .u64 v.m.w.t1, .int .u64 v.m.w.v1, .int .u64 v.m.w.t2, .int .u64 v.m.w.v2, .int .u64 v.m.w.la] ^ blk n2 [.int .u64 v.m.r.n, .int .u64 v.m.r.nx] ^ blk n3 [.int .u64 v.m.p.best, .int .i64 v.m.p.n, .bool v.m.p.full] ^ blk n4 [.int .i64 v.m.c.ph, .int .u64 v.m.c.at'] ^ blk n5 [.int .u64 v.m.b.best, .int .u64 v.m.b.at', .bool v.m.b.on, .int .u64 v.m.b.til, .bool v.m.b.rd] ^ blk n6 [.bool v.m.q.use, .bool v.m.q.mea, .int .u64 v.m.q.bw, .int .i64 v.m.q.n, .int .u64 v.m.q.lost, .int .u64 v.m.q.t0, .int .u64 v.m.q.d0, .int .u64 v.m.q.l0]) ^ (blk rb [.int .u64 v.m.mss, .ptr (some ⟨nw, 0⟩), .int .u64 v.m.r.n, .int .u64 v.m.r.nx, .int .u64 v.m.p.best, .int .i64 v.m.p.n, .bool v.m.p.full, .int .i64 v.m.c.ph, .int .u64 v.m.c.at', .int .u64 v.m.b.best, .int .u64 v.m.b.at', .bool v.m.b.on, .bool v.set, .bool v.m.b.rd, .int .u64 v.till, .bool v.m.q.use, .bool v.m.q.mea, .int .u64 v.m.q.bw, .int .i64 v.m.q.n, .int .u64 v.m.q.lost, .int .u64 v.m.q.t0, .int .u64 v.m.q.d0, .int .u64 v.m.q.l0, .int .i64 v.m.mode, .int .u64 v.m.rate, .int .u64 v.m.win, .int .u64 v.g, .bool v.m.rec', .bool v.m.first, .int .u64 v.m.til, .int .u64 v.m.sav] ^ blk nw [.int .u64 v.m.w.w, .int .u64 v.m.w.t0, .int .u64 v.m.w.t1, .int .u64 v.m.w.t2, .int .u64 v.m.w.v0, .int .u64 v.m.w.v1, .int .u64 v.m.w.v2, .int .u64 v.m.w.la, .bool false]) ^ rarr s K_u8b zs ^ rarr a KU ts ^ emp) := h
        refine w_join h (fun _ => exq (fun x : Sm => OkS x) fun x => blk n12 (Ks.mk K_u8b x) ^ (blk b [.ptr (some ⟨n1, 0⟩), .ptr (some ⟨n2, 0⟩), .ptr (some ⟨n3, 0⟩), .ptr (some ⟨n4, 0⟩), .ptr (some ⟨n5, 0⟩), .ptr (some ⟨n6, 0⟩), .int .u64 v.m.mss, .int .i64 v.m.mode, .int .u64 v.m.rate, .int .u64 v.m.win, .int .u64 v.m.sav, .bool v.m.rec', .bool v.m.first, .int .u64 v.m.til] ^ blk n1 [.int .u64 v.m.w.w, .int .u64 v.m.w.t0, .int .u64 v.m.w.v0, .int .u64 v.m.w.t1, .int .u64 v.m.w.v1, .int .u64 v.m.w.t2, .int .u64 v.m.w.v2, .int .u64 v.m.w.la] ^ blk n2 [.int .u64 v.m.r.n, .int .u64 v.m.r.nx] ^ blk n3 [.int .u64 v.m.p.best, .int .i64 v.m.p.n, .bool v.m.p.full] ^ blk n4 [.int .i64 v.m.c.ph, .int .u64 v.m.c.at'] ^ blk n5 [.int .u64 v.m.b.best, .int .u64 v.m.b.at', .bool v.m.b.on, .int .u64 v.m.b.til, .bool v.m.b.rd] ^ blk n6 [.bool v.m.q.use, .bool v.m.q.mea, .int .u64 v.m.q.bw, .int .i64 v.m.q.n, .int .u64 v.m.q.lost, .int .u64 v.m.q.t0, .int .u64 v.m.q.d0, .int .u64 v.m.q.l0]) ^ (blk rb [.int .u64 v.m.mss, .ptr (some ⟨nw, 0⟩), .int .u64 v.m.r.n, .int .u64 v.m.r.nx, .int .u64 v.m.p.best, .int .i64 v.m.p.n, .bool v.m.p.full, .int .i64 v.m.c.ph, .int .u64 v.m.c.at', .int .u64 v.m.b.best, .int .u64 v.m.b.at', .bool v.m.b.on, .bool v.set, .bool v.m.b.rd, .int .u64 v.till, .bool v.m.q.use, .bool v.m.q.mea, .int .u64 v.m.q.bw, .int .i64 v.m.q.n, .int .u64 v.m.q.lost, .int .u64 v.m.q.t0, .int .u64 v.m.q.d0, .int .u64 v.m.q.l0, .int .i64 v.m.mode, .int .u64 v.m.rate, .int .u64 v.m.win, .int .u64 v.g, .bool v.m.rec', .bool v.m.first, .int .u64 v.m.til, .int .u64 v.m.sav] ^ blk nw [.int .u64 v.m.w.w, .int .u64 v.m.w.t0, .int .u64 v.m.w.t1, .int .u64 v.m.w.t2, .int .u64 v.m.w.v0, .int .u64 v.m.w.v1, .int .u64 v.m.w.v2, .int .u64 v.m.w.la, .bool false]) ^ rarr s K_u8b zs ^ rarr a KU ts ^ emp) (fun _ => True) (fun _ w _ h => ?_) ?_
        · obtain ⟨x, hx, h⟩ := h.outq1
          refine w_join h (fun _ => blk n12 (Ks.mk K_u8b x) ^ (blk b [.ptr (some ⟨n1, 0⟩), .ptr (some ⟨n2, 0⟩), .ptr (some ⟨n3, 0⟩), .ptr (some ⟨n4, 0⟩), .ptr (some ⟨n5, 0⟩), .ptr (some ⟨n6, 0⟩), .int .u64 v.m.mss, .int .i64 v.m.mode, .int .u64 v.m.rate, .int .u64 v.m.win, .int .u64 v.m.sav, .bool v.m.rec', .bool v.m.first, .int .u64 v.m.til] ^ blk n1 [.int .u64 v.m.w.w, .int .u64 v.m.w.t0, .int .u64 v.m.w.v0, .int .u64 v.m.w.t1, .int .u64 v.m.w.v1, .int .u64 v.m.w.t2, .int .u64 v.m.w.v2, .int .u64 v.m.w.la] ^ blk n2 [.int .u64 v.m.r.n, .int .u64 v.m.r.nx] ^ blk n3 [.int .u64 v.m.p.best, .int .i64 v.m.p.n, .bool v.m.p.full] ^ blk n4 [.int .i64 v.m.c.ph, .int .u64 v.m.c.at'] ^ blk n5 [.int .u64 v.m.b.best, .int .u64 v.m.b.at', .bool v.m.b.on, .int .u64 v.m.b.til, .bool v.m.b.rd] ^ blk n6 [.bool v.m.q.use, .bool v.m.q.mea, .int .u64 v.m.q.bw, .int .i64 v.m.q.n, .int .u64 v.m.q.lost, .int .u64 v.m.q.t0, .int .u64 v.m.q.d0, .int .u64 v.m.q.l0]) ^ (blk rb [.int .u64 v.m.mss, .ptr (some ⟨nw, 0⟩), .int .u64 v.m.r.n, .int .u64 v.m.r.nx, .int .u64 v.m.p.best, .int .i64 v.m.p.n, .bool v.m.p.full, .int .i64 v.m.c.ph, .int .u64 v.m.c.at', .int .u64 v.m.b.best, .int .u64 v.m.b.at', .bool v.m.b.on, .bool v.set, .bool v.m.b.rd, .int .u64 v.till, .bool v.m.q.use, .bool v.m.q.mea, .int .u64 v.m.q.bw, .int .i64 v.m.q.n, .int .u64 v.m.q.lost, .int .u64 v.m.q.t0, .int .u64 v.m.q.d0, .int .u64 v.m.q.l0, .int .i64 v.m.mode, .int .u64 v.m.rate, .int .u64 v.m.win, .int .u64 v.g, .bool v.m.rec', .bool v.m.first, .int .u64 v.m.til, .int .u64 v.m.sav] ^ blk nw [.int .u64 v.m.w.w, .int .u64 v.m.w.t0, .int .u64 v.m.w.t1, .int .u64 v.m.w.t2, .int .u64 v.m.w.v0, .int .u64 v.m.w.v1, .int .u64 v.m.w.v2, .int .u64 v.m.w.la, .bool false]) ^ rarr s K_u8b zs ^ rarr a KU ts ^ emp) (fun t : Int => U t) (fun (t : Int) w ht h => ?_) ?_
          · refine w_ldAll (x := x) h rfl ?_
            refine w_call (upd_tri b n1 n2 n3 n4 n5 n6 v.m hm x hx t ht) h fun r w h => ?_
            obtain ⟨hr, h⟩ := h.purP; rw [hr]
            have h1 : OkM (mUpd v.m x t) := hm.upd hx ht
            refine w_new h fun n23 w h => ?_
            refine w_setAll h (by rfl) fun w h => w_drw h fun w h => w_ldAll (x := mSt (mUpd v.m x t)) h rfl ?_
            refine w_ldAll (b := n12) (x := x) h rfl ?_
            refine w_call (rmupd_tri rb nw v hm hR x hx t ht) h fun r w h => ?_
            obtain ⟨u, ⟨hu, hRu, hgu, hr⟩, h⟩ := h.outq
            rw [hr]
            rw [← hu] at h1 h ⊢
            refine w_chkAll (b := n23) h ?_
            refine w_ite (fun c => ?_) fun _ => ?_
            · rw [same_st] at c; cases c
            refine w_ldAll (b := n23) (x := mSt u.m) h rfl ?_
            refine w_call (state_tri b n1 n2 n3 n4 n5 n6 u.m) h fun r w h => ?_
            obtain ⟨hr, h⟩ := h.purP; rw [hr]
            refine w_chkAll (b := n23) h ?_
            refine w_ite (fun c => ?_) fun _ => ?_
            · rw [same_st] at c; cases c
            rw [wi (n := i + 1) (by omega) (by omega)]
            exact hK (i + 1) u w ⟨⟨by omega, by omega⟩, h1, hRu, hgu⟩ h.fin (by omega)
          · refine w_ite (fun c => ?_) fun c => ?_
            · have c : i < (a.len : Nat) := of_decide_eq_true c
              have hi2 : i.toNat < ts.length := by omega
              obtain ⟨t, htt⟩ : ∃ p, ts[i.toNat]? = some p := ⟨_, at_some hi2⟩
              refine w_idx (s := a) h i0 hi2 (w_ldE h a i.toNat htt rfl ?_)
              exact ⟨hts t (List.mem_of_getElem? htt), h⟩
            · exact ⟨U_lit 2000, h⟩
        · refine w_ite (fun c => ?_) fun c => ?_
          · refine w_ldAll (x := z) h rfl ?_
            refine w_call (psam_tri z hok) h fun r w h => ?_
            obtain ⟨hr, h⟩ := h.purP
            refine w_setAll h (by rfl) fun w h => ?_
            exact ⟨trivial, (h.inq (φ := fun x : Sm => OkS x) (f := fun x => blk n12 (Ks.mk K_u8b x) ^ (blk b [.ptr (some ⟨n1, 0⟩), .ptr (some ⟨n2, 0⟩), .ptr (some ⟨n3, 0⟩), .ptr (some ⟨n4, 0⟩), .ptr (some ⟨n5, 0⟩), .ptr (some ⟨n6, 0⟩), .int .u64 v.m.mss, .int .i64 v.m.mode, .int .u64 v.m.rate, .int .u64 v.m.win, .int .u64 v.m.sav, .bool v.m.rec', .bool v.m.first, .int .u64 v.m.til] ^ blk n1 [.int .u64 v.m.w.w, .int .u64 v.m.w.t0, .int .u64 v.m.w.v0, .int .u64 v.m.w.t1, .int .u64 v.m.w.v1, .int .u64 v.m.w.t2, .int .u64 v.m.w.v2, .int .u64 v.m.w.la] ^ blk n2 [.int .u64 v.m.r.n, .int .u64 v.m.r.nx] ^ blk n3 [.int .u64 v.m.p.best, .int .i64 v.m.p.n, .bool v.m.p.full] ^ blk n4 [.int .i64 v.m.c.ph, .int .u64 v.m.c.at'] ^ blk n5 [.int .u64 v.m.b.best, .int .u64 v.m.b.at', .bool v.m.b.on, .int .u64 v.m.b.til, .bool v.m.b.rd] ^ blk n6 [.bool v.m.q.use, .bool v.m.q.mea, .int .u64 v.m.q.bw, .int .i64 v.m.q.n, .int .u64 v.m.q.lost, .int .u64 v.m.q.t0, .int .u64 v.m.q.d0, .int .u64 v.m.q.l0]) ^ (blk rb [.int .u64 v.m.mss, .ptr (some ⟨nw, 0⟩), .int .u64 v.m.r.n, .int .u64 v.m.r.nx, .int .u64 v.m.p.best, .int .i64 v.m.p.n, .bool v.m.p.full, .int .i64 v.m.c.ph, .int .u64 v.m.c.at', .int .u64 v.m.b.best, .int .u64 v.m.b.at', .bool v.m.b.on, .bool v.set, .bool v.m.b.rd, .int .u64 v.till, .bool v.m.q.use, .bool v.m.q.mea, .int .u64 v.m.q.bw, .int .i64 v.m.q.n, .int .u64 v.m.q.lost, .int .u64 v.m.q.t0, .int .u64 v.m.q.d0, .int .u64 v.m.q.l0, .int .i64 v.m.mode, .int .u64 v.m.rate, .int .u64 v.m.win, .int .u64 v.g, .bool v.m.rec', .bool v.m.first, .int .u64 v.m.til, .int .u64 v.m.sav] ^ blk nw [.int .u64 v.m.w.w, .int .u64 v.m.w.t0, .int .u64 v.m.w.t1, .int .u64 v.m.w.t2, .int .u64 v.m.w.v0, .int .u64 v.m.w.v1, .int .u64 v.m.w.v2, .int .u64 v.m.w.la, .bool false]) ^ rarr s K_u8b zs ^ rarr a KU ts ^ emp) r hr).keep⟩
          · exact ⟨trivial, (h.inq (φ := fun x : Sm => OkS x) (f := fun x => blk n12 (Ks.mk K_u8b x) ^ (blk b [.ptr (some ⟨n1, 0⟩), .ptr (some ⟨n2, 0⟩), .ptr (some ⟨n3, 0⟩), .ptr (some ⟨n4, 0⟩), .ptr (some ⟨n5, 0⟩), .ptr (some ⟨n6, 0⟩), .int .u64 v.m.mss, .int .i64 v.m.mode, .int .u64 v.m.rate, .int .u64 v.m.win, .int .u64 v.m.sav, .bool v.m.rec', .bool v.m.first, .int .u64 v.m.til] ^ blk n1 [.int .u64 v.m.w.w, .int .u64 v.m.w.t0, .int .u64 v.m.w.v0, .int .u64 v.m.w.t1, .int .u64 v.m.w.v1, .int .u64 v.m.w.t2, .int .u64 v.m.w.v2, .int .u64 v.m.w.la] ^ blk n2 [.int .u64 v.m.r.n, .int .u64 v.m.r.nx] ^ blk n3 [.int .u64 v.m.p.best, .int .i64 v.m.p.n, .bool v.m.p.full] ^ blk n4 [.int .i64 v.m.c.ph, .int .u64 v.m.c.at'] ^ blk n5 [.int .u64 v.m.b.best, .int .u64 v.m.b.at', .bool v.m.b.on, .int .u64 v.m.b.til, .bool v.m.b.rd] ^ blk n6 [.bool v.m.q.use, .bool v.m.q.mea, .int .u64 v.m.q.bw, .int .i64 v.m.q.n, .int .u64 v.m.q.lost, .int .u64 v.m.q.t0, .int .u64 v.m.q.d0, .int .u64 v.m.q.l0]) ^ (blk rb [.int .u64 v.m.mss, .ptr (some ⟨nw, 0⟩), .int .u64 v.m.r.n, .int .u64 v.m.r.nx, .int .u64 v.m.p.best, .int .i64 v.m.p.n, .bool v.m.p.full, .int .i64 v.m.c.ph, .int .u64 v.m.c.at', .int .u64 v.m.b.best, .int .u64 v.m.b.at', .bool v.m.b.on, .bool v.set, .bool v.m.b.rd, .int .u64 v.till, .bool v.m.q.use, .bool v.m.q.mea, .int .u64 v.m.q.bw, .int .i64 v.m.q.n, .int .u64 v.m.q.lost, .int .u64 v.m.q.t0, .int .u64 v.m.q.d0, .int .u64 v.m.q.l0, .int .i64 v.m.mode, .int .u64 v.m.rate, .int .u64 v.m.win, .int .u64 v.g, .bool v.m.rec', .bool v.m.first, .int .u64 v.m.til, .int .u64 v.m.sav] ^ blk nw [.int .u64 v.m.w.w, .int .u64 v.m.w.t0, .int .u64 v.m.w.t1, .int .u64 v.m.w.t2, .int .u64 v.m.w.v0, .int .u64 v.m.w.v1, .int .u64 v.m.w.v2, .int .u64 v.m.w.la, .bool false]) ^ rarr s K_u8b zs ^ rarr a KU ts ^ emp) z hok).keep⟩
      · exact Own.retP rfl h.emp'
    · refine w_call awake_tri h fun r w h => ?_
      obtain ⟨hr, h⟩ := h.purP; rw [hr]
      refine w_ite (fun c => (by cases c)) fun _ => ?_
      refine w_call (state_tri b n1 n2 n3 n4 n5 n6 (mNew d)) h fun r w h => ?_
      obtain ⟨hr, h⟩ := h.purP; rw [hr]
      refine w_call (rstate_tri rb nw (Rm.mk (mNew d) false 0 739)) h fun r w h => ?_
      obtain ⟨hr, h⟩ := h.purP
      have hr : r = mSt (mNew d) := hr.trans rfl
      rw [hr]
      refine w_ite (fun c => ?_) fun _ => ?_
      · rw [same_st] at c; cases c
      exact ⟨trivial, h.fin⟩
end BbrT

end Go.X
