/- Contracts and plain facts: BbrD. -/
import Derived.Test.YteeabliibhedoaaBPlain
import Derived.Test.YteeabliibhedoaaBArith
import Derived.Test.YteeabliibhedoaaBArithC
import Derived.Test.YteeabliibhedoaaBTarget
import Derived.Test.YteeabliibhedoaaBBbrM
import Derived.Test.YteeabliibhedoaaBBbrMm
import Derived.Test.YteeabliibhedoaaBBbrP
import Derived.Test.YteeabliibhedoaaBBbrW
import Derived.Test.YteeabliibhedoaaBBbrQ
import Derived.Test.YteeabliibhedoaaBBbrL
import Derived.Test.YteeabliibhedoaaBBbrN
import Derived.Test.YteeabliibhedoaaBBbrO
import Derived.Test.YteeabliibhedoaaBBbrU
import Derived.Test.YteeabliibhedoaaBBbrA
import Derived.Test.YteeabliibhedoaaBBbrF
import Derived.Test.YteeabliibhedoaaBBbrG
import Derived.Test.YteeabliibhedoaaXw
import Derived.Test.YteeabliibhedoaaK
import Derived.Test.YteeabliibhedoaaF0
import Derived.Test.YteeabliibhedoaaF1
set_option linter.unusedVariables false
set_option linter.unusedSimpArgs false
set_option linter.unusedSectionVars false
namespace Go.X
open Go.Proofs
namespace BbrD
open Arith ArithC _root_.Go.X.Target BbrM BbrMm BbrP BbrW BbrQ BbrL BbrN BbrO BbrU BbrA BbrF BbrG
abbrev mL (m : Md) : List Lf := [.int .i64 m.mode, .int .i64 m.c.ph, .int .u64 m.rate, .int .u64 m.win, .int .u64 (mBw m), .int .u64 m.b.best, .int .u64 (mGain m), .int .u64 m.r.n, .bool m.p.full, .bool m.q.use]
theorem smp_tri (s : Sm) : Tri Try.prog N_canterplay_Sample [.agg (Ks.mk K_u8b s)] [.agg K_u8b] emp (fun r => pur (r = smpF s) emp) :=
  tri_0 (call_canterplay_Sample _) fun w0 S R h => by
    unfold W_canterplay_Sample
    refine w_new h fun x w h => ?_
    refine w_new h fun y w h => ?_
    refine w_ld h rfl (w_ld h rfl (w_ld h rfl ?_))
    refine w_setTo h x (Ks.mk K_u8b (sNow s, sDel s, sPri s, sTim s, sRtt s, (sAck s).tmod 1099511627776, sLost s, sFli s, sLim s)) rfl rfl rfl fun w h => ?_
    refine w_setTo h x (Ks.mk K_u8b (sNow s, sDel s, sPri s, sTim s, sRtt s, (sAck s).tmod 1099511627776, (sLost s).tmod 1099511627776, sFli s, sLim s)) rfl rfl rfl fun w h => ?_
    refine w_setTo h x (Ks.mk K_u8b (smpF s)) rfl rfl rfl fun w h => ?_
    refine w_ldAll (x := smpF s) h rfl ?_
    refine w_setTo h y (Ks.mk K_u8b (smpF s)) rfl rfl rfl fun w h => ?_
    refine w_ldAll (x := smpF s) h rfl ?_
    exact Own.retP rfl h.emp'
theorem modes_tri (d : Int) (s : Sl) (zs : List Sm) (hz : ∀ z ∈ zs, OkS z) : Tri Try.prog N_canterlaw17_BbrModes [.lf (.int .u64 d), .lf (.sl s)] [.lf .bool] (rarr s K_u8b zs) (fun r => pur (r = true) emp) :=
  tri_0 (call_canterlaw17_BbrModes _ _) fun w0 S R h => by
    unfold W_canterlaw17_BbrModes
    have h : Own w0 S R w0 (rarr s K_u8b zs ^ emp) := h.le (star_emp _)
    have hlen := (h.rd (s := s)).2
    refine w_call (new_tri d) h fun r w h => ?_
    obtain ⟨⟨b, n1, n2, n3, n4, n5, n6⟩, h⟩ := h.exP
    dsimp only at h
    obtain ⟨hr, h⟩ := h.purP; rw [hr]
    refine w_call awake_tri h fun r w h => ?_
    obtain ⟨hr, h⟩ := h.purP; rw [hr]
    refine w_ite (fun c => (by cases c)) fun _ => ?_
    refine w_call (state_tri b n1 n2 n3 n4 n5 n6 (mNew d)) h fun r w h => ?_
    obtain ⟨hr, h⟩ := h.purP; rw [hr]
    refine w_new h fun k w h => w_setTo h k (mL (mNew d)) rfl rfl rfl fun w h => ?_
    have h : Own w0 S R w ((blk b [.ptr (some ⟨n1, 0⟩), .ptr (some ⟨n2, 0⟩), .ptr (some ⟨n3, 0⟩), .ptr (some ⟨n4, 0⟩), .ptr (some ⟨n5, 0⟩), .ptr (some ⟨n6, 0⟩), .int .u64 (mNew d).mss, .int .i64 (mNew d).mode, .int .u64 (mNew d).rate, .int .u64 (mNew d).win, .int .u64 (mNew d).sav, .bool (mNew d).rec', .bool (mNew d).first, .int .u64 (mNew d).til] ^ blk n1 [.int .u64 (mNew d).w.w, .int .u64 (mNew d).w.t0, .int .u64 (mNew d).w.v0, .int .u64 (mNew d).w.t1, .int .u64 (mNew d).w.v1, .int .u64 (mNew d).w.t2, .int .u64 (mNew d).w.v2, .int .u64 (mNew d).w.la] ^ blk n2 [.int .u64 (mNew d).r.n, .int .u64 (mNew d).r.nx] ^ blk n3 [.int .u64 (mNew d).p.best, .int .i64 (mNew d).p.n, .bool (mNew d).p.full] ^ blk n4 [.int .i64 (mNew d).c.ph, .int .u64 (mNew d).c.at'] ^ blk n5 [.int .u64 (mNew d).b.best, .int .u64 (mNew d).b.at', .bool (mNew d).b.on, .int .u64 (mNew d).b.til, .bool (mNew d).b.rd] ^ blk n6 [.bool (mNew d).q.use, .bool (mNew d).q.mea, .int .u64 (mNew d).q.bw, .int .i64 (mNew d).q.n, .int .u64 (mNew d).q.lost, .int .u64 (mNew d).q.t0, .int .u64 (mNew d).q.d0, .int .u64 (mNew d).q.l0]) ^ blk k (mL (mNew d)) ^ rarr s K_u8b zs ^ emp) := h.fin
    refine w_loopE (fun (_ : Int) (m : Md) => (blk b [.ptr (some ⟨n1, 0⟩), .ptr (some ⟨n2, 0⟩), .ptr (some ⟨n3, 0⟩), .ptr (some ⟨n4, 0⟩), .ptr (some ⟨n5, 0⟩), .ptr (some ⟨n6, 0⟩), .int .u64 m.mss, .int .i64 m.mode, .int .u64 m.rate, .int .u64 m.win, .int .u64 m.sav, .bool m.rec', .bool m.first, .int .u64 m.til] ^ blk n1 [.int .u64 m.w.w, .int .u64 m.w.t0, .int .u64 m.w.v0, .int .u64 m.w.t1, .int .u64 m.w.v1, .int .u64 m.w.t2, .int .u64 m.w.v2, .int .u64 m.w.la] ^ blk n2 [.int .u64 m.r.n, .int .u64 m.r.nx] ^ blk n3 [.int .u64 m.p.best, .int .i64 m.p.n, .bool m.p.full] ^ blk n4 [.int .i64 m.c.ph, .int .u64 m.c.at'] ^ blk n5 [.int .u64 m.b.best, .int .u64 m.b.at', .bool m.b.on, .int .u64 m.b.til, .bool m.b.rd] ^ blk n6 [.bool m.q.use, .bool m.q.mea, .int .u64 m.q.bw, .int .i64 m.q.n, .int .u64 m.q.lost, .int .u64 m.q.t0, .int .u64 m.q.d0, .int .u64 m.q.l0]) ^ blk k (mL m) ^ rarr s K_u8b zs ^ emp) (fun (i : Int) (m : Md) => (0 ≤ i ∧ i ≤ 100) ∧ OkM m ∧ BbrG.Inv m ∧ m.r.n ≤ i) (fun (i : Int) _ => 100 - i.toNat) (mNew d) h ⟨⟨by simp, by simp⟩, OkM.new d, BbrG.Inv.new d, by simp⟩ ?_
    rintro K (i : Int) m w ⟨⟨i0, i1⟩, hm, hiv, hn⟩ h hK
    refine w_ite (fun c => ?_) fun c => ?_
    · have c : i < (s.len : Nat) ∧ i < 100 := by simpa using c
      have hi : i.toNat < zs.length := by omega
      obtain ⟨z, hzz⟩ : ∃ p, zs[i.toNat]? = some p := ⟨_, at_some hi⟩
      have hok := hz z (List.mem_of_getElem? hzz)
      refine w_idx h i0 hi (w_ldE h s i.toNat hzz rfl ?_)
      refine w_call (smp_tri z) h fun r w h => ?_
      obtain ⟨hr, h⟩ := h.purP; rw [hr]
      have hok := BbrG.OkS.smp hok
      refine w_call (upd_tri b n1 n2 n3 n4 n5 n6 m hm (smpF z) hok 2000 (U_lit _)) h fun r w h => ?_
      obtain ⟨hr, h⟩ := h.purP; rw [hr]
      have hu : OkM (mUpd m (smpF z) 2000) := hm.upd hok (U_lit _)
      have ht := tr m (smpF z) 2000 hiv
      generalize mUpd m (smpF z) 2000 = u at *
      have hn0 := hm.r.n.1
      have hun : u.r.n = m.r.n ∨ u.r.n = m.r.n + 1 := by
        have := ht.n
        rw [wu (n := m.r.n + 1) (by omega) (by omega)] at this
        exact this
      have hw : IntKind.u64.wrap (m.r.n + 1) = m.r.n + 1 := wu (by omega) (by omega)
      refine w_new h fun x w h => w_setTo h x (mL u) rfl rfl rfl fun w h => ?_
      have h : Own w0 S R w (blk x (mL u) ^ blk k (mL m) ^ (blk b [.ptr (some ⟨n1, 0⟩), .ptr (some ⟨n2, 0⟩), .ptr (some ⟨n3, 0⟩), .ptr (some ⟨n4, 0⟩), .ptr (some ⟨n5, 0⟩), .ptr (some ⟨n6, 0⟩), .int .u64 u.mss, .int .i64 u.mode, .int .u64 u.rate, .int .u64 u.win, .int .u64 u.sav, .bool u.rec', .bool u.first, .int .u64 u.til] ^ blk n1 [.int .u64 u.w.w, .int .u64 u.w.t0, .int .u64 u.w.v0, .int .u64 u.w.t1, .int .u64 u.w.v1, .int .u64 u.w.t2, .int .u64 u.w.v2, .int .u64 u.w.la] ^ blk n2 [.int .u64 u.r.n, .int .u64 u.r.nx] ^ blk n3 [.int .u64 u.p.best, .int .i64 u.p.n, .bool u.p.full] ^ blk n4 [.int .i64 u.c.ph, .int .u64 u.c.at'] ^ blk n5 [.int .u64 u.b.best, .int .u64 u.b.at', .bool u.b.on, .int .u64 u.b.til, .bool u.b.rd] ^ blk n6 [.bool u.q.use, .bool u.q.mea, .int .u64 u.q.bw, .int .i64 u.q.n, .int .u64 u.q.lost, .int .u64 u.q.t0, .int .u64 u.q.d0, .int .u64 u.q.l0]) ^ rarr s K_u8b zs ^ emp) := h.fin
      refine w_join h (fun _ => blk x (mL u) ^ blk k (mL m) ^ (blk b [.ptr (some ⟨n1, 0⟩), .ptr (some ⟨n2, 0⟩), .ptr (some ⟨n3, 0⟩), .ptr (some ⟨n4, 0⟩), .ptr (some ⟨n5, 0⟩), .ptr (some ⟨n6, 0⟩), .int .u64 u.mss, .int .i64 u.mode, .int .u64 u.rate, .int .u64 u.win, .int .u64 u.sav, .bool u.rec', .bool u.first, .int .u64 u.til] ^ blk n1 [.int .u64 u.w.w, .int .u64 u.w.t0, .int .u64 u.w.v0, .int .u64 u.w.t1, .int .u64 u.w.v1, .int .u64 u.w.t2, .int .u64 u.w.v2, .int .u64 u.w.la] ^ blk n2 [.int .u64 u.r.n, .int .u64 u.r.nx] ^ blk n3 [.int .u64 u.p.best, .int .i64 u.p.n, .bool u.p.full] ^ blk n4 [.int .i64 u.c.ph, .int .u64 u.c.at'] ^ blk n5 [.int .u64 u.b.best, .int .u64 u.b.at', .bool u.b.on, .int .u64 u.b.til, .bool u.b.rd] ^ blk n6 [.bool u.q.use, .bool u.q.mea, .int .u64 u.q.bw, .int .i64 u.q.n, .int .u64 u.q.lost, .int .u64 u.q.t0, .int .u64 u.q.d0, .int .u64 u.q.l0]) ^ rarr s K_u8b zs ^ emp) (fun y : Bool => y = false) (fun (y : Bool) w hy h => ?_) ?_
      · rw [hy]
        refine w_join h (fun _ => blk x (mL u) ^ blk k (mL m) ^ (blk b [.ptr (some ⟨n1, 0⟩), .ptr (some ⟨n2, 0⟩), .ptr (some ⟨n3, 0⟩), .ptr (some ⟨n4, 0⟩), .ptr (some ⟨n5, 0⟩), .ptr (some ⟨n6, 0⟩), .int .u64 u.mss, .int .i64 u.mode, .int .u64 u.rate, .int .u64 u.win, .int .u64 u.sav, .bool u.rec', .bool u.first, .int .u64 u.til] ^ blk n1 [.int .u64 u.w.w, .int .u64 u.w.t0, .int .u64 u.w.v0, .int .u64 u.w.t1, .int .u64 u.w.v1, .int .u64 u.w.t2, .int .u64 u.w.v2, .int .u64 u.w.la] ^ blk n2 [.int .u64 u.r.n, .int .u64 u.r.nx] ^ blk n3 [.int .u64 u.p.best, .int .i64 u.p.n, .bool u.p.full] ^ blk n4 [.int .i64 u.c.ph, .int .u64 u.c.at'] ^ blk n5 [.int .u64 u.b.best, .int .u64 u.b.at', .bool u.b.on, .int .u64 u.b.til, .bool u.b.rd] ^ blk n6 [.bool u.q.use, .bool u.q.mea, .int .u64 u.q.bw, .int .i64 u.q.n, .int .u64 u.q.lost, .int .u64 u.q.t0, .int .u64 u.q.d0, .int .u64 u.q.l0]) ^ rarr s K_u8b zs ^ emp) (fun y : Bool => y = false) (fun (y : Bool) w hy h => ?_) ?_
        · rw [hy]
          refine w_ite (fun c => (by cases c)) fun _ => ?_
          refine w_join h (fun _ => blk x (mL u) ^ blk k (mL m) ^ (blk b [.ptr (some ⟨n1, 0⟩), .ptr (some ⟨n2, 0⟩), .ptr (some ⟨n3, 0⟩), .ptr (some ⟨n4, 0⟩), .ptr (some ⟨n5, 0⟩), .ptr (some ⟨n6, 0⟩), .int .u64 u.mss, .int .i64 u.mode, .int .u64 u.rate, .int .u64 u.win, .int .u64 u.sav, .bool u.rec', .bool u.first, .int .u64 u.til] ^ blk n1 [.int .u64 u.w.w, .int .u64 u.w.t0, .int .u64 u.w.v0, .int .u64 u.w.t1, .int .u64 u.w.v1, .int .u64 u.w.t2, .int .u64 u.w.v2, .int .u64 u.w.la] ^ blk n2 [.int .u64 u.r.n, .int .u64 u.r.nx] ^ blk n3 [.int .u64 u.p.best, .int .i64 u.p.n, .bool u.p.full] ^ blk n4 [.int .i64 u.c.ph, .int .u64 u.c.at'] ^ blk n5 [.int .u64 u.b.best, .int .u64 u.b.at', .bool u.b.on, .int .u64 u.b.til, .bool u.b.rd] ^ blk n6 [.bool u.q.use, .bool u.q.mea, .int .u64 u.q.bw, .int .i64 u.q.n, .int .u64 u.q.lost, .int .u64 u.q.t0, .int .u64 u.q.d0, .int .u64 u.q.l0]) ^ rarr s K_u8b zs ^ emp) (fun y : Bool => y = false) (fun (y : Bool) w hy h => ?_) ?_
          · rw [hy]
            refine w_ite (fun c => (by cases c)) fun _ => ?_
            refine w_ldAll (x := mSt u) h rfl ?_
            refine w_setTo h k (mL u) rfl rfl rfl fun w h => ?_
            rw [wi (n := i + 1) (by omega) (by omega)]
            exact hK (i + 1) u w ⟨⟨by omega, by omega⟩, hu, ht.inv, by omega⟩ h.fin (by omega)
          · refine w_ld h rfl (w_ite (fun c3 => ?_) fun _ => ?_)
            · have c3 : m.mode = 3 := by simpa using c3
              refine w_ld h rfl (w_ite (fun c => absurd (show u.mode = 1 by simpa using c) (ht.t3 c3)) fun _ => ?_)
              refine w_ld h rfl (w_ld h rfl (w_ite (fun c => absurd (show u.r.n < m.r.n from of_decide_eq_true c) (by omega)) fun _ => ?_))
              refine w_ld h rfl (w_ld h rfl ?_)
              exact ⟨by rw [hw]; exact decide_eq_false (by omega), h⟩
            · refine w_ld h rfl (w_ld h rfl (w_ite (fun c => absurd (show u.r.n < m.r.n from of_decide_eq_true c) (by omega)) fun _ => ?_))
              refine w_ld h rfl (w_ld h rfl ?_)
              exact ⟨by rw [hw]; exact decide_eq_false (by omega), h⟩
        · refine w_ite (fun c => (by cases c)) fun _ => ?_
          refine w_ld h rfl (w_ite (fun c2 => ?_) fun _ => ?_)
          · have c2 : m.mode = 2 := by simpa using c2
            refine w_ld h rfl (w_ite (fun c => absurd (show u.mode = 1 by simpa using c) (ht.t2 c2)) fun _ => ?_)
            refine w_ld h rfl (w_ite (fun cf => ?_) fun _ => ?_)
            · refine w_ld h rfl (w_ite (fun c => ?_) fun _ => ?_)
              · rw [ht.tf cf] at c; cases c
              refine w_ld h rfl (w_ite (fun c => ?_) fun _ => ?_)
              · have c : u.mode = 1 := by simpa using c
                exact w_ld h rfl ⟨by rw [ht.inv.full (.inl c)]; rfl, h⟩
              refine w_ld h rfl (w_ite (fun c => ?_) fun _ => ?_)
              · have c : u.mode = 2 := by simpa using c
                exact w_ld h rfl ⟨by rw [ht.inv.full (.inr c)]; rfl, h⟩
              exact ⟨rfl, h⟩
            refine w_ld h rfl (w_ite (fun c => ?_) fun _ => ?_)
            · have c : u.mode = 1 := by simpa using c
              exact w_ld h rfl ⟨by rw [ht.inv.full (.inl c)]; rfl, h⟩
            refine w_ld h rfl (w_ite (fun c => ?_) fun _ => ?_)
            · have c : u.mode = 2 := by simpa using c
              exact w_ld h rfl ⟨by rw [ht.inv.full (.inr c)]; rfl, h⟩
            exact ⟨rfl, h⟩
          · refine w_ld h rfl (w_ite (fun cf => ?_) fun _ => ?_)
            · refine w_ld h rfl (w_ite (fun c => ?_) fun _ => ?_)
              · rw [ht.tf cf] at c; cases c
              refine w_ld h rfl (w_ite (fun c => ?_) fun _ => ?_)
              · have c : u.mode = 1 := by simpa using c
                exact w_ld h rfl ⟨by rw [ht.inv.full (.inl c)]; rfl, h⟩
              refine w_ld h rfl (w_ite (fun c => ?_) fun _ => ?_)
              · have c : u.mode = 2 := by simpa using c
                exact w_ld h rfl ⟨by rw [ht.inv.full (.inr c)]; rfl, h⟩
              exact ⟨rfl, h⟩
            refine w_ld h rfl (w_ite (fun c => ?_) fun _ => ?_)
            · have c : u.mode = 1 := by simpa using c
              exact w_ld h rfl ⟨by rw [ht.inv.full (.inl c)]; rfl, h⟩
            refine w_ld h rfl (w_ite (fun c => ?_) fun _ => ?_)
            · have c : u.mode = 2 := by simpa using c
              exact w_ld h rfl ⟨by rw [ht.inv.full (.inr c)]; rfl, h⟩
            exact ⟨rfl, h⟩
      · refine w_ld h rfl (w_ite (fun c1 => ?_) fun _ => ?_)
        · refine w_ld h rfl (w_ite (fun c2 => ?_) fun _ => ?_)
          · refine w_ld h rfl ?_
            have c1 : m.mode ≠ 0 := by simpa using c1
            have c2 : m.mode ≠ 3 := by simpa using c2
            exact ⟨by have := ht.t0 c1 c2; simpa using this, h⟩
          · exact ⟨rfl, h⟩
        · exact ⟨rfl, h⟩
    · exact Own.retP rfl h.emp'
end BbrD

end Go.X
