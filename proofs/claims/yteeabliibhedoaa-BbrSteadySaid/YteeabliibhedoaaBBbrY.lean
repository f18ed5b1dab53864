/- Contracts and plain facts: BbrY. -/
import Derived.Test.YteeabliibhedoaaBPlain
import Derived.Test.YteeabliibhedoaaBArith
import Derived.Test.YteeabliibhedoaaBArithC
import Derived.Test.YteeabliibhedoaaBTarget
import Derived.Test.YteeabliibhedoaaBBbrM
import Derived.Test.YteeabliibhedoaaBBbrMm
import Derived.Test.YteeabliibhedoaaBBbrP
import Derived.Test.YteeabliibhedoaaBBbrW
import Derived.Test.YteeabliibhedoaaBBbrQ
import Derived.Test.YteeabliibhedoaaBBbrL
import Derived.Test.YteeabliibhedoaaBBbrN
import Derived.Test.YteeabliibhedoaaBBbrO
import Derived.Test.YteeabliibhedoaaBBbrU
import Derived.Test.YteeabliibhedoaaBBbrA
import Derived.Test.YteeabliibhedoaaBBbrF
import Derived.Test.YteeabliibhedoaaBBbrG
import Derived.Test.YteeabliibhedoaaBBbrD
import Derived.Test.YteeabliibhedoaaBBbrI
import Derived.Test.YteeabliibhedoaaBBbrS
import Derived.Test.YteeabliibhedoaaXw
import Derived.Test.YteeabliibhedoaaK
import Derived.Test.YteeabliibhedoaaF0
import Derived.Test.YteeabliibhedoaaF1
set_option linter.unusedVariables false
set_option linter.unusedSimpArgs false
set_option linter.unusedSectionVars false
namespace Go.X
open Go.Proofs
namespace BbrY
open Arith ArithC _root_.Go.X.Target BbrM BbrMm BbrP BbrW BbrQ BbrL BbrN BbrO BbrU BbrA BbrF BbrG BbrD BbrI BbrS
theorem steady_tri (d o a : Int) (ho : 0 ≤ o) (ha : 0 ≤ a) : Tri Try.prog N_canterlaw17_BbrSteady [.lf (.int .i64 d), .lf (.int .u64 o), .lf (.int .u64 a)] [.lf .bool] emp (fun r => pur (r = true) emp) :=
  tri_0 (call_canterlaw17_BbrSteady _ _ _) fun w0 S R h => by
    unfold W_canterlaw17_BbrSteady
    obtain ⟨k0, k5⟩ := modr d (m := 100) (by decide) (by decide)
    have hl : 0 ≤ o.tmod 100000000 ∧ o.tmod 100000000 < 100000000 := ⟨Int.tmod_nonneg _ ho, Int.tmod_lt_of_pos _ (by decide)⟩
    have hl2 : 0 ≤ a.tmod 90000000 ∧ a.tmod 90000000 < 90000000 := ⟨Int.tmod_nonneg _ ha, Int.tmod_lt_of_pos _ (by decide)⟩
    obtain ⟨n, hn⟩ : ∃ n : Int, IntKind.i64.wrap (40 + IntKind.i64.wrap ((IntKind.u64.wrap d).tmod 100)) = n := ⟨_, rfl⟩
    have hn2 : 40 ≤ n ∧ n < 140 := by rw [← hn, wi (n := 40 + _) (by omega) (by omega)]; omega
    obtain ⟨bw, hbw⟩ : ∃ x : Int, IntKind.u64.wrap (1000000 + o.tmod 100000000) = x := ⟨_, rfl⟩
    have hbw2 : 1000000 ≤ bw ∧ bw < 101000000 := by rw [← hbw, wu (by omega) (by omega)]; omega
    obtain ⟨rtt, hrt⟩ : ∃ x : Int, IntKind.u64.wrap (10000000 + a.tmod 90000000) = x := ⟨_, rfl⟩
    have hrt2 : 10000000 ≤ rtt ∧ rtt < 100000000 := by rw [← hrt, wu (by omega) (by omega)]; omega
    simp only [hn, hbw, hrt]
    simp only [wu (n := n) (by omega) (by omega)]
    have p := path hbw2 hrt2
    have t2 : U 2000 := U_lit 2000
    have UB : U bw := ⟨by omega, by omega⟩
    have UR : U rtt := ⟨by omega, by omega⟩
    refine w_call (BbrN.new_tri 1000) h fun r w h => ?_
    obtain ⟨⟨b, n1, n2, n3, n4, n5, n6⟩, h⟩ := h.exP
    dsimp only at h
    obtain ⟨hr, h⟩ := h.purP; rw [hr]
    refine w_call awake_tri h fun r w h => ?_
    obtain ⟨hr, h⟩ := h.purP; rw [hr]
    refine w_ite (fun c => (by cases c)) fun _ => ?_
    refine w_call (rmd_tri bw rtt 1000000000 UB UR (U_lit _)) h fun r w h => ?_
    obtain ⟨hr, h⟩ := h.purP; rw [hr]
    generalize mdI bw rtt 1000000000 = B at *
    obtain ⟨x, hx⟩ : ∃ x, mdI B 1000000000 rtt = x := ⟨_, rfl⟩
    rw [hx] at p
    have hB := p.hB
    have hx4 := p.x4
    refine w_new h fun k w h => ?_
    have h : Own w0 S R w ((blk b [.ptr (some ⟨n1, 0⟩), .ptr (some ⟨n2, 0⟩), .ptr (some ⟨n3, 0⟩), .ptr (some ⟨n4, 0⟩), .ptr (some ⟨n5, 0⟩), .ptr (some ⟨n6, 0⟩), .int .u64 (mNew 1000).mss, .int .i64 (mNew 1000).mode, .int .u64 (mNew 1000).rate, .int .u64 (mNew 1000).win, .int .u64 (mNew 1000).sav, .bool (mNew 1000).rec', .bool (mNew 1000).first, .int .u64 (mNew 1000).til] ^ blk n1 [.int .u64 (mNew 1000).w.w, .int .u64 (mNew 1000).w.t0, .int .u64 (mNew 1000).w.v0, .int .u64 (mNew 1000).w.t1, .int .u64 (mNew 1000).w.v1, .int .u64 (mNew 1000).w.t2, .int .u64 (mNew 1000).w.v2, .int .u64 (mNew 1000).w.la] ^ blk n2 [.int .u64 (mNew 1000).r.n, .int .u64 (mNew 1000).r.nx] ^ blk n3 [.int .u64 (mNew 1000).p.best, .int .i64 (mNew 1000).p.n, .bool (mNew 1000).p.full] ^ blk n4 [.int .i64 (mNew 1000).c.ph, .int .u64 (mNew 1000).c.at'] ^ blk n5 [.int .u64 (mNew 1000).b.best, .int .u64 (mNew 1000).b.at', .bool (mNew 1000).b.on, .int .u64 (mNew 1000).b.til, .bool (mNew 1000).b.rd] ^ blk n6 [.bool (mNew 1000).q.use, .bool (mNew 1000).q.mea, .int .u64 (mNew 1000).q.bw, .int .i64 (mNew 1000).q.n, .int .u64 (mNew 1000).q.lost, .int .u64 (mNew 1000).q.t0, .int .u64 (mNew 1000).q.d0, .int .u64 (mNew 1000).q.l0]) ^ blk k [.int .i64 0, .int .i64 0, .int .u64 0, .int .u64 0, .int .u64 0, .int .u64 0, .int .u64 0, .int .u64 0, .bool false, .bool false] ^ emp) := h.fin
    refine w_loopE (fun (_ : Int) (m : Md × List Lf) => (blk b [.ptr (some ⟨n1, 0⟩), .ptr (some ⟨n2, 0⟩), .ptr (some ⟨n3, 0⟩), .ptr (some ⟨n4, 0⟩), .ptr (some ⟨n5, 0⟩), .ptr (some ⟨n6, 0⟩), .int .u64 m.1.mss, .int .i64 m.1.mode, .int .u64 m.1.rate, .int .u64 m.1.win, .int .u64 m.1.sav, .bool m.1.rec', .bool m.1.first, .int .u64 m.1.til] ^ blk n1 [.int .u64 m.1.w.w, .int .u64 m.1.w.t0, .int .u64 m.1.w.v0, .int .u64 m.1.w.t1, .int .u64 m.1.w.v1, .int .u64 m.1.w.t2, .int .u64 m.1.w.v2, .int .u64 m.1.w.la] ^ blk n2 [.int .u64 m.1.r.n, .int .u64 m.1.r.nx] ^ blk n3 [.int .u64 m.1.p.best, .int .i64 m.1.p.n, .bool m.1.p.full] ^ blk n4 [.int .i64 m.1.c.ph, .int .u64 m.1.c.at'] ^ blk n5 [.int .u64 m.1.b.best, .int .u64 m.1.b.at', .bool m.1.b.on, .int .u64 m.1.b.til, .bool m.1.b.rd] ^ blk n6 [.bool m.1.q.use, .bool m.1.q.mea, .int .u64 m.1.q.bw, .int .i64 m.1.q.n, .int .u64 m.1.q.lost, .int .u64 m.1.q.t0, .int .u64 m.1.q.d0, .int .u64 m.1.q.l0]) ^ blk k m.2 ^ emp) (fun (y : Int) (m : Md × List Lf) => (1 ≤ y ∧ y ≤ n + 1) ∧ Sy B rtt x (y - 1) m.1 ∧ Quiet m.1 ∧ m.1.first = false ∧ m.2.length = 10 ∧ (6 ≤ y → m.2 = BbrD.mL m.1 ∧ m.1.rate = (if 1 > rateI x (mGain m.1) then 1 else rateI x (mGain m.1)) ∧ (m.1.mode = 2 → m.1.win ≤ winI x rtt 512 2000 1000))) (fun (y : Int) _ => 200 - y.toNat) (mNew 1000, [.int .i64 0, .int .i64 0, .int .u64 0, .int .u64 0, .int .u64 0, .int .u64 0, .int .u64 0, .int .u64 0, .bool false, .bool false]) h ⟨⟨by simp, by omega⟩, Sy.start B rtt x (by omega), Quiet.new, rfl, rfl, fun hh => by omega⟩ ?_
    rintro K (y : Int) ⟨m, L⟩ w ⟨⟨y0, y1⟩, hS, hQ, hF, hL, hA⟩ h hK
    dsimp only at hS hQ hF hL hA h hK ⊢
    refine w_ite (fun c => ?_) fun c => ?_
    · have c : y ≤ n := by simpa using c
      have m1 := mul_r (y := y) (a := rtt) (c := 100000000) (by omega) (by omega) (by omega) (by omega)
      have m2 := mul_r (y := y) (a := B) (c := 100000000) (by omega) (by omega) (by omega) (by omega)
      have m3 := mul_r (y := y - 1) (a := B) (c := 100000000) (by omega) (by omega) (by omega) (by omega)
      rw [wu (n := y) (by omega) (by omega), wi (n := y - 1) (by omega) (by omega), wu (n := y - 1) (by omega) (by omega), wu (n := y * rtt) (by omega) (by omega), wu (n := y * B) (by omega) (by omega), wu (n := (y - 1) * B) (by omega) (by omega)]
      have hs := sS_ok p (y := y) y0 (by omega)
      have hy : y - 1 + 1 = y := by omega
      have s1 := hS.next p (by omega) (by omega)
      have s2 := hS.old p (by omega) (by omega)
      rw [hy] at s1 s2
      have s3 := hQ.go hs s2 rfl t2
      have s4 := first_no hQ hF hs s2 rfl 2000
      refine w_call (upd_tri b n1 n2 n3 n4 n5 n6 m hQ.ok (sS B rtt y) hs 2000 t2) h fun r w h => ?_
      obtain ⟨hr, h⟩ := h.purP; rw [hr]
      refine w_setAll h (by rw [hL]; rfl) fun w h => ?_
      rw [wi (n := y + 1) (by omega) (by omega)]
      refine hK (y + 1) (mUpd m (sS B rtt y) 2000, BbrD.mL (mUpd m (sS B rtt y) 2000)) w ⟨⟨by omega, by omega⟩, ?_, s3, s4, rfl, fun hh => ⟨rfl, ?_⟩⟩ ?_ (by omega)
      · show Sy B rtt x (y + 1 - 1) _
        rw [show y + 1 - 1 = y by omega]; exact s1
      · have f := BbrS.fin p (y := y - 1) (by omega) (by omega) hS hQ hF
        rw [hy] at f
        exact f.2
      · have h : Own w0 S R w (blk k (BbrD.mL (mUpd m (sS B rtt y) 2000)) ^ (blk b [.ptr (some ⟨n1, 0⟩), .ptr (some ⟨n2, 0⟩), .ptr (some ⟨n3, 0⟩), .ptr (some ⟨n4, 0⟩), .ptr (some ⟨n5, 0⟩), .ptr (some ⟨n6, 0⟩), .int .u64 (mUpd m (sS B rtt y) 2000).mss, .int .i64 (mUpd m (sS B rtt y) 2000).mode, .int .u64 (mUpd m (sS B rtt y) 2000).rate, .int .u64 (mUpd m (sS B rtt y) 2000).win, .int .u64 (mUpd m (sS B rtt y) 2000).sav, .bool (mUpd m (sS B rtt y) 2000).rec', .bool (mUpd m (sS B rtt y) 2000).first, .int .u64 (mUpd m (sS B rtt y) 2000).til] ^ blk n1 [.int .u64 (mUpd m (sS B rtt y) 2000).w.w, .int .u64 (mUpd m (sS B rtt y) 2000).w.t0, .int .u64 (mUpd m (sS B rtt y) 2000).w.v0, .int .u64 (mUpd m (sS B rtt y) 2000).w.t1, .int .u64 (mUpd m (sS B rtt y) 2000).w.v1, .int .u64 (mUpd m (sS B rtt y) 2000).w.t2, .int .u64 (mUpd m (sS B rtt y) 2000).w.v2, .int .u64 (mUpd m (sS B rtt y) 2000).w.la] ^ blk n2 [.int .u64 (mUpd m (sS B rtt y) 2000).r.n, .int .u64 (mUpd m (sS B rtt y) 2000).r.nx] ^ blk n3 [.int .u64 (mUpd m (sS B rtt y) 2000).p.best, .int .i64 (mUpd m (sS B rtt y) 2000).p.n, .bool (mUpd m (sS B rtt y) 2000).p.full] ^ blk n4 [.int .i64 (mUpd m (sS B rtt y) 2000).c.ph, .int .u64 (mUpd m (sS B rtt y) 2000).c.at'] ^ blk n5 [.int .u64 (mUpd m (sS B rtt y) 2000).b.best, .int .u64 (mUpd m (sS B rtt y) 2000).b.at', .bool (mUpd m (sS B rtt y) 2000).b.on, .int .u64 (mUpd m (sS B rtt y) 2000).b.til, .bool (mUpd m (sS B rtt y) 2000).b.rd] ^ blk n6 [.bool (mUpd m (sS B rtt y) 2000).q.use, .bool (mUpd m (sS B rtt y) 2000).q.mea, .int .u64 (mUpd m (sS B rtt y) 2000).q.bw, .int .i64 (mUpd m (sS B rtt y) 2000).q.n, .int .u64 (mUpd m (sS B rtt y) 2000).q.lost, .int .u64 (mUpd m (sS B rtt y) 2000).q.t0, .int .u64 (mUpd m (sS B rtt y) 2000).q.d0, .int .u64 (mUpd m (sS B rtt y) 2000).q.l0]) ^ emp) := h
        exact h.fin
    · have c : ¬ y ≤ n := by simpa using c
      obtain ⟨eL, eR, eW⟩ := hA (by omega)
      have hyn : y - 1 = n := by omega
      rw [hyn] at hS
      have v0 := hS.v1 (by omega)
      have hbw : mBw m = x := by unfold mBw; rw [hS.use]; exact v0
      have hbest : m.b.best = rtt := by
        rcases hS.best with ⟨q, _⟩ | q
        · omega
        · exact q
      have hfull : m.p.full = true := by
        rcases hS.pp with ⟨q, _⟩ | ⟨_, q, _⟩ | ⟨_, q⟩
        · omega
        · omega
        · exact q
      rw [eL] at h
      have h : Own w0 S R w ((blk b [.ptr (some ⟨n1, 0⟩), .ptr (some ⟨n2, 0⟩), .ptr (some ⟨n3, 0⟩), .ptr (some ⟨n4, 0⟩), .ptr (some ⟨n5, 0⟩), .ptr (some ⟨n6, 0⟩), .int .u64 m.mss, .int .i64 m.mode, .int .u64 m.rate, .int .u64 m.win, .int .u64 m.sav, .bool m.rec', .bool m.first, .int .u64 m.til] ^ blk n1 [.int .u64 m.w.w, .int .u64 m.w.t0, .int .u64 m.w.v0, .int .u64 m.w.t1, .int .u64 m.w.v1, .int .u64 m.w.t2, .int .u64 m.w.v2, .int .u64 m.w.la] ^ blk n2 [.int .u64 m.r.n, .int .u64 m.r.nx] ^ blk n3 [.int .u64 m.p.best, .int .i64 m.p.n, .bool m.p.full] ^ blk n4 [.int .i64 m.c.ph, .int .u64 m.c.at'] ^ blk n5 [.int .u64 m.b.best, .int .u64 m.b.at', .bool m.b.on, .int .u64 m.b.til, .bool m.b.rd] ^ blk n6 [.bool m.q.use, .bool m.q.mea, .int .u64 m.q.bw, .int .i64 m.q.n, .int .u64 m.q.lost, .int .u64 m.q.t0, .int .u64 m.q.d0, .int .u64 m.q.l0]) ^ blk k (BbrD.mL m) ^ emp) := h
      refine w_call (rmd_tri B 1000000000 rtt ⟨by omega, by omega⟩ (U_lit _) UR) h fun r w h => ?_
      obtain ⟨hr, h⟩ := h.purP; rw [hr, hx]
      refine w_join h (fun _ => (blk b [.ptr (some ⟨n1, 0⟩), .ptr (some ⟨n2, 0⟩), .ptr (some ⟨n3, 0⟩), .ptr (some ⟨n4, 0⟩), .ptr (some ⟨n5, 0⟩), .ptr (some ⟨n6, 0⟩), .int .u64 m.mss, .int .i64 m.mode, .int .u64 m.rate, .int .u64 m.win, .int .u64 m.sav, .bool m.rec', .bool m.first, .int .u64 m.til] ^ blk n1 [.int .u64 m.w.w, .int .u64 m.w.t0, .int .u64 m.w.v0, .int .u64 m.w.t1, .int .u64 m.w.v1, .int .u64 m.w.t2, .int .u64 m.w.v2, .int .u64 m.w.la] ^ blk n2 [.int .u64 m.r.n, .int .u64 m.r.nx] ^ blk n3 [.int .u64 m.p.best, .int .i64 m.p.n, .bool m.p.full] ^ blk n4 [.int .i64 m.c.ph, .int .u64 m.c.at'] ^ blk n5 [.int .u64 m.b.best, .int .u64 m.b.at', .bool m.b.on, .int .u64 m.b.til, .bool m.b.rd] ^ blk n6 [.bool m.q.use, .bool m.q.mea, .int .u64 m.q.bw, .int .i64 m.q.n, .int .u64 m.q.lost, .int .u64 m.q.t0, .int .u64 m.q.d0, .int .u64 m.q.l0]) ^ blk k (BbrD.mL m) ^ emp) (fun y : Bool => y = false) (fun (y : Bool) w hy h => ?_) ?_
      · rw [hy]
        refine w_ite (fun c => (by cases c)) fun _ => ?_
        refine w_drw h fun w h => w_ld h rfl (w_ite (fun _ => ?_) fun c2 => ?_)
        · exact Own.retP trivial h.emp'
        have c2 : m.mode = 2 := by simpa using c2
        refine w_ld h rfl ?_
        refine w_call (rwin_tri x rtt 512 2000 1000 ⟨by omega, by omega⟩ UR (U_lit 512) t2 (U_lit 1000)) h fun r w h => ?_
        obtain ⟨hr, h⟩ := h.purP; rw [hr]
        refine w_chk h rfl ?_
        refine w_ite (fun _ => ?_) fun c3 => (absurd (eW c2) (of_decide_eq_false c3))
        refine w_ld h rfl (w_ld h rfl ?_)
        refine w_call (rrate_tri x (mGain m) ⟨by omega, by omega⟩ (U_gain m)) h fun r w h => ?_
        obtain ⟨hr, h⟩ := h.purP; rw [hr]
        refine w_chk h rfl ?_
        refine Own.retP ?_ h.emp'
        rw [eR]
        generalize rateI x (mGain m) = q
        have : (if 1 > q then 1 else q) = (if q > 1 then q else 1) := by (repeat' split) <;> omega
        rw [this]; simp
      · refine w_ld h rfl (w_ite (fun c2 => ?_) fun _ => ?_)
        · rw [hbw] at c2; simp at c2
        refine w_ld h rfl (w_ite (fun c2 => ?_) fun _ => ?_)
        · rw [hbest] at c2; simp at c2
        refine w_ld h rfl (w_ite (fun c2 => ?_) fun _ => ?_)
        · rw [hfull] at c2; cases c2
        refine w_ld h rfl (w_ite (fun c2 => ?_) fun _ => ?_)
        · rw [hS.n] at c2; simp at c2
        exact w_ld h rfl ⟨hS.use, h.fin⟩
end BbrY

end Go.X
