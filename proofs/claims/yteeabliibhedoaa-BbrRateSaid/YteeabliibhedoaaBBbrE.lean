/- Contracts and plain facts: BbrE. -/
import Derived.Test.YteeabliibhedoaaBPlain
import Derived.Test.YteeabliibhedoaaBArith
import Derived.Test.YteeabliibhedoaaBArithC
import Derived.Test.YteeabliibhedoaaBTarget
import Derived.Test.YteeabliibhedoaaBBbrM
import Derived.Test.YteeabliibhedoaaBBbrMm
import Derived.Test.YteeabliibhedoaaBBbrP
import Derived.Test.YteeabliibhedoaaBBbrW
import Derived.Test.YteeabliibhedoaaBBbrQ
import Derived.Test.YteeabliibhedoaaBBbrL
import Derived.Test.YteeabliibhedoaaBBbrN
import Derived.Test.YteeabliibhedoaaBBbrO
import Derived.Test.YteeabliibhedoaaBBbrU
import Derived.Test.YteeabliibhedoaaBBbrA
import Derived.Test.YteeabliibhedoaaBBbrF
import Derived.Test.YteeabliibhedoaaBBbrG
import Derived.Test.YteeabliibhedoaaBBbrD
import Derived.Test.YteeabliibhedoaaBBbrH
import Derived.Test.YteeabliibhedoaaXw
import Derived.Test.YteeabliibhedoaaK
import Derived.Test.YteeabliibhedoaaF0
import Derived.Test.YteeabliibhedoaaF1
set_option linter.unusedVariables false
set_option linter.unusedSimpArgs false
set_option linter.unusedSectionVars false
namespace Go.X
open Go.Proofs
namespace BbrE
open Arith ArithC _root_.Go.X.Target BbrM BbrMm BbrP BbrW BbrQ BbrL BbrN BbrO BbrU BbrA BbrF BbrG BbrD BbrH
theorem rate_tri' (d : Int) (s : Sl) (zs : List Sm) (hz : ∀ z ∈ zs, OkS z) : Tri Try.prog N_canterlaw17_BbrRate [.lf (.int .u64 d), .lf (.sl s)] [.lf .bool] (rarr s K_u8b zs) (fun r => pur (r = true) emp) :=
  tri_0 (call_canterlaw17_BbrRate _ _) fun w0 S R h => by
    unfold W_canterlaw17_BbrRate
    have hd := mss_r d
    have h : Own w0 S R w0 (rarr s K_u8b zs ^ emp) := h.le (star_emp _)
    have hlen := (h.rd (s := s)).2
    refine w_call (BbrN.new_tri d) h fun r w h => ?_
    obtain ⟨⟨b, n1, n2, n3, n4, n5, n6⟩, h⟩ := h.exP
    dsimp only at h
    obtain ⟨hr, h⟩ := h.purP; rw [hr]
    refine w_call awake_tri h fun r w h => ?_
    obtain ⟨hr, h⟩ := h.purP; rw [hr]
    refine w_ite (fun c => (by cases c)) fun _ => ?_
    refine w_call (state_tri b n1 n2 n3 n4 n5 n6 (mNew d)) h fun r w h => ?_
    obtain ⟨hr, h⟩ := h.purP; rw [hr]
    have h : Own w0 S R w ((blk b [.ptr (some ⟨n1, 0⟩), .ptr (some ⟨n2, 0⟩), .ptr (some ⟨n3, 0⟩), .ptr (some ⟨n4, 0⟩), .ptr (some ⟨n5, 0⟩), .ptr (some ⟨n6, 0⟩), .int .u64 (mNew d).mss, .int .i64 (mNew d).mode, .int .u64 (mNew d).rate, .int .u64 (mNew d).win, .int .u64 (mNew d).sav, .bool (mNew d).rec', .bool (mNew d).first, .int .u64 (mNew d).til] ^ blk n1 [.int .u64 (mNew d).w.w, .int .u64 (mNew d).w.t0, .int .u64 (mNew d).w.v0, .int .u64 (mNew d).w.t1, .int .u64 (mNew d).w.v1, .int .u64 (mNew d).w.t2, .int .u64 (mNew d).w.v2, .int .u64 (mNew d).w.la] ^ blk n2 [.int .u64 (mNew d).r.n, .int .u64 (mNew d).r.nx] ^ blk n3 [.int .u64 (mNew d).p.best, .int .i64 (mNew d).p.n, .bool (mNew d).p.full] ^ blk n4 [.int .i64 (mNew d).c.ph, .int .u64 (mNew d).c.at'] ^ blk n5 [.int .u64 (mNew d).b.best, .int .u64 (mNew d).b.at', .bool (mNew d).b.on, .int .u64 (mNew d).b.til, .bool (mNew d).b.rd] ^ blk n6 [.bool (mNew d).q.use, .bool (mNew d).q.mea, .int .u64 (mNew d).q.bw, .int .i64 (mNew d).q.n, .int .u64 (mNew d).q.lost, .int .u64 (mNew d).q.t0, .int .u64 (mNew d).q.d0, .int .u64 (mNew d).q.l0]) ^ rarr s K_u8b zs ^ emp) := h.fin
    refine w_loopE (fun (_ : Int × Int) (m : Md) => (blk b [.ptr (some ⟨n1, 0⟩), .ptr (some ⟨n2, 0⟩), .ptr (some ⟨n3, 0⟩), .ptr (some ⟨n4, 0⟩), .ptr (some ⟨n5, 0⟩), .ptr (some ⟨n6, 0⟩), .int .u64 m.mss, .int .i64 m.mode, .int .u64 m.rate, .int .u64 m.win, .int .u64 m.sav, .bool m.rec', .bool m.first, .int .u64 m.til] ^ blk n1 [.int .u64 m.w.w, .int .u64 m.w.t0, .int .u64 m.w.v0, .int .u64 m.w.t1, .int .u64 m.w.v1, .int .u64 m.w.t2, .int .u64 m.w.v2, .int .u64 m.w.la] ^ blk n2 [.int .u64 m.r.n, .int .u64 m.r.nx] ^ blk n3 [.int .u64 m.p.best, .int .i64 m.p.n, .bool m.p.full] ^ blk n4 [.int .i64 m.c.ph, .int .u64 m.c.at'] ^ blk n5 [.int .u64 m.b.best, .int .u64 m.b.at', .bool m.b.on, .int .u64 m.b.til, .bool m.b.rd] ^ blk n6 [.bool m.q.use, .bool m.q.mea, .int .u64 m.q.bw, .int .i64 m.q.n, .int .u64 m.q.lost, .int .u64 m.q.t0, .int .u64 m.q.d0, .int .u64 m.q.l0]) ^ rarr s K_u8b zs ^ emp) (fun (y : Int × Int) (m : Md) => (0 ≤ y.2 ∧ y.2 ≤ 80) ∧ OkM m ∧ m.mss = mMss d ∧ U y.1 ∧ 4 * m.mss ≤ y.1 ∧ Bd m y.1) (fun (y : Int × Int) _ => 80 - y.2.toNat) (mNew d) h ⟨⟨by simp, by simp⟩, OkM.new d, rfl, ⟨by show 0 ≤ 10 * mMss d; omega, by show 10 * mMss d < _; omega⟩, by show 4 * mMss d ≤ 10 * mMss d; omega, ⟨Int.le_refl _, by show 0 ≤ 10 * mMss d; omega⟩⟩ ?_
    rintro K (⟨t, i⟩ : Int × Int) m w ⟨⟨i0, i1⟩, hm, hms, ht, h4, hb⟩ h hK
    dsimp only at i0 i1 ht h4 hb h hK ⊢
    refine w_ite (fun c => ?_) fun c => ?_
    · have c : i < (s.len : Nat) ∧ i < 80 := by simpa using c
      have hi : i.toNat < zs.length := by omega
      obtain ⟨z, hzz⟩ : ∃ p, zs[i.toNat]? = some p := ⟨_, at_some hi⟩
      have hok := hz z (List.mem_of_getElem? hzz)
      refine w_idx h i0 hi (w_ldE h s i.toNat hzz rfl ?_)
      refine w_call (smp_tri z) h fun r w h => ?_
      obtain ⟨hr, h⟩ := h.purP; rw [hr]
      have hok := BbrG.OkS.smp hok
      generalize smpF z = z at *
      refine w_new h fun x1 w h => w_setTo h x1 (Ks.mk K_u8b z) rfl rfl rfl fun w h => ?_
      refine w_call (state_tri b n1 n2 n3 n4 n5 n6 m) h fun r w h => ?_
      obtain ⟨hr, h⟩ := h.purP; rw [hr]
      refine w_new h fun x2 w h => w_setTo h x2 (BbrD.mL m) rfl rfl rfl fun w h => ?_
      refine w_ldAll (x := z) h rfl ?_
      refine w_call (upd_tri b n1 n2 n3 n4 n5 n6 m hm z hok 2000 (U_lit _)) h fun r w h => ?_
      obtain ⟨hr, h⟩ := h.purP; rw [hr]
      have hu : OkM (mUpd m z 2000) := hm.upd hok (U_lit _)
      have hmu := upd_mss m z 2000
      have hup := upd_up m z 2000
      obtain ⟨q1, q2⟩ := upd_b hb hm ht h4 hok 2000
      generalize mUpd m z 2000 = u at *
      refine w_new h fun x3 w h => w_setTo h x3 (BbrD.mL u) rfl rfl rfl fun w h => ?_
      have h : Own w0 S R w (blk x3 (BbrD.mL u) ^ blk x2 (BbrD.mL m) ^ blk x1 (Ks.mk K_u8b z) ^ (blk b [.ptr (some ⟨n1, 0⟩), .ptr (some ⟨n2, 0⟩), .ptr (some ⟨n3, 0⟩), .ptr (some ⟨n4, 0⟩), .ptr (some ⟨n5, 0⟩), .ptr (some ⟨n6, 0⟩), .int .u64 u.mss, .int .i64 u.mode, .int .u64 u.rate, .int .u64 u.win, .int .u64 u.sav, .bool u.rec', .bool u.first, .int .u64 u.til] ^ blk n1 [.int .u64 u.w.w, .int .u64 u.w.t0, .int .u64 u.w.v0, .int .u64 u.w.t1, .int .u64 u.w.v1, .int .u64 u.w.t2, .int .u64 u.w.v2, .int .u64 u.w.la] ^ blk n2 [.int .u64 u.r.n, .int .u64 u.r.nx] ^ blk n3 [.int .u64 u.p.best, .int .i64 u.p.n, .bool u.p.full] ^ blk n4 [.int .i64 u.c.ph, .int .u64 u.c.at'] ^ blk n5 [.int .u64 u.b.best, .int .u64 u.b.at', .bool u.b.on, .int .u64 u.b.til, .bool u.b.rd] ^ blk n6 [.bool u.q.use, .bool u.q.mea, .int .u64 u.q.bw, .int .i64 u.q.n, .int .u64 u.q.lost, .int .u64 u.q.t0, .int .u64 u.q.d0, .int .u64 u.q.l0]) ^ rarr s K_u8b zs ^ emp) := h.fin
      have fin : ∀ w, Own w0 S R w ((blk b [.ptr (some ⟨n1, 0⟩), .ptr (some ⟨n2, 0⟩), .ptr (some ⟨n3, 0⟩), .ptr (some ⟨n4, 0⟩), .ptr (some ⟨n5, 0⟩), .ptr (some ⟨n6, 0⟩), .int .u64 u.mss, .int .i64 u.mode, .int .u64 u.rate, .int .u64 u.win, .int .u64 u.sav, .bool u.rec', .bool u.first, .int .u64 u.til] ^ blk n1 [.int .u64 u.w.w, .int .u64 u.w.t0, .int .u64 u.w.v0, .int .u64 u.w.t1, .int .u64 u.w.v1, .int .u64 u.w.t2, .int .u64 u.w.v2, .int .u64 u.w.la] ^ blk n2 [.int .u64 u.r.n, .int .u64 u.r.nx] ^ blk n3 [.int .u64 u.p.best, .int .i64 u.p.n, .bool u.p.full] ^ blk n4 [.int .i64 u.c.ph, .int .u64 u.c.at'] ^ blk n5 [.int .u64 u.b.best, .int .u64 u.b.at', .bool u.b.on, .int .u64 u.b.til, .bool u.b.rd] ^ blk n6 [.bool u.q.use, .bool u.q.mea, .int .u64 u.q.bw, .int .i64 u.q.n, .int .u64 u.q.lost, .int .u64 u.q.t0, .int .u64 u.q.d0, .int .u64 u.q.l0]) ^ rarr s K_u8b zs ^ emp) → K ((if u.win > t then u.win else t), IntKind.i64.wrap (i + 1)) w := fun w h => by
        rw [wi (n := i + 1) (by omega) (by omega)]
        refine hK _ u w ⟨⟨by show 0 ≤ i + 1; omega, by show i + 1 ≤ 80; omega⟩, hu, hmu.trans hms, U_if hu.win ht, ?_, ⟨?_, ?_⟩⟩ h (by show 80 - (i + 1).toNat < 80 - i.toNat; omega)
        · show 4 * u.mss ≤ if u.win > t then u.win else t
          rw [hmu]; split <;> omega
        · show u.win ≤ if u.win > t then u.win else t
          split <;> omega
        · show u.sav ≤ if u.win > t then u.win else t
          split <;> omega
      refine w_join h (fun _ => blk x3 (BbrD.mL u) ^ blk x2 (BbrD.mL m) ^ blk x1 (Ks.mk K_u8b z) ^ (blk b [.ptr (some ⟨n1, 0⟩), .ptr (some ⟨n2, 0⟩), .ptr (some ⟨n3, 0⟩), .ptr (some ⟨n4, 0⟩), .ptr (some ⟨n5, 0⟩), .ptr (some ⟨n6, 0⟩), .int .u64 u.mss, .int .i64 u.mode, .int .u64 u.rate, .int .u64 u.win, .int .u64 u.sav, .bool u.rec', .bool u.first, .int .u64 u.til] ^ blk n1 [.int .u64 u.w.w, .int .u64 u.w.t0, .int .u64 u.w.v0, .int .u64 u.w.t1, .int .u64 u.w.v1, .int .u64 u.w.t2, .int .u64 u.w.v2, .int .u64 u.w.la] ^ blk n2 [.int .u64 u.r.n, .int .u64 u.r.nx] ^ blk n3 [.int .u64 u.p.best, .int .i64 u.p.n, .bool u.p.full] ^ blk n4 [.int .i64 u.c.ph, .int .u64 u.c.at'] ^ blk n5 [.int .u64 u.b.best, .int .u64 u.b.at', .bool u.b.on, .int .u64 u.b.til, .bool u.b.rd] ^ blk n6 [.bool u.q.use, .bool u.q.mea, .int .u64 u.q.bw, .int .i64 u.q.n, .int .u64 u.q.lost, .int .u64 u.q.t0, .int .u64 u.q.d0, .int .u64 u.q.l0]) ^ rarr s K_u8b zs ^ emp) (fun _ => True) (fun _ w _ h => ?_) ?_
      · refine w_drw h fun w h => w_ld h rfl (w_ld h rfl ?_)
        refine w_call (radd_tri t (sAck z) ht hok.ack) h fun r w h => ?_
        obtain ⟨hr, h⟩ := h.purP; rw [hr]
        refine w_chk h rfl ?_
        refine w_ite (fun c1 => ?_) fun c1 => ?_
        · have c1 : u.win > addI t (sAck z) := of_decide_eq_true c1
          refine w_ld h rfl (w_ld h rfl (w_ld h rfl ?_))
          refine w_call (radd_tri (sFli z) (sAck z) hok.fli hok.ack) h fun r w h => ?_
          obtain ⟨hr, h⟩ := h.purP; rw [hr]
          refine w_chk h rfl ?_
          refine w_ite (fun c2 => ?_) fun c2 => ?_
          · have c2 : u.win > addI (sFli z) (sAck z) := of_decide_eq_true c2
            rcases q1 with q | q <;> omega
          · refine w_ld h rfl ?_
            exact fin w h.fin
        · refine w_ld h rfl ?_
          exact fin w h.fin
      · refine w_ld h rfl (w_ite (fun c1 => ?_) fun _ => ⟨trivial, h⟩)
        have c1 : u.p.full = false := by simpa using c1
        refine w_ld h rfl (w_ld h rfl (w_ite (fun c2 => ?_) fun _ => ⟨trivial, h⟩))
        have c2 : u.rate < m.rate := of_decide_eq_true c2
        have := hup c1
        omega
    · exact Own.retP rfl h.emp'
end BbrE

end Go.X
