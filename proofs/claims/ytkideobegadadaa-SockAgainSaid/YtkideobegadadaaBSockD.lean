/- Contracts and plain facts: SockC SockD. -/
import Derived.Test.YtkideobegadadaaBArith
import Derived.Test.YtkideobegadadaaBDelays
import Derived.Test.YtkideobegadadaaBTarget
import Derived.Test.YtkideobegadadaaBBbrMm
import Derived.Test.YtkideobegadadaaBBbrW
import Derived.Test.YtkideobegadadaaBBbrL
import Derived.Test.YtkideobegadadaaBBbrO
import Derived.Test.YtkideobegadadaaBSockA
import Derived.Test.YtkideobegadadaaBSockM
import Derived.Test.YtkideobegadadaaXw
import Derived.Test.YtkideobegadadaaK
import Derived.Test.YtkideobegadadaaF0
import Derived.Test.YtkideobegadadaaF1
set_option linter.unusedVariables false
set_option linter.unusedSimpArgs false
set_option linter.unusedSectionVars false
namespace Go.X
open Go.Proofs
namespace SockC
open Arith ArithC Delays Board BbrM BbrMm SockA SockB SockM
abbrev N7 := Nat × Nat × Nat × Nat × Nat × Nat × Nat
def mdl (x : N7) (m : Md) : SP := match x with
  | (b, n1, n2, n3, n4, n5, n6) => blk b [.ptr (some ⟨n1, 0⟩), .ptr (some ⟨n2, 0⟩), .ptr (some ⟨n3, 0⟩), .ptr (some ⟨n4, 0⟩), .ptr (some ⟨n5, 0⟩), .ptr (some ⟨n6, 0⟩), .int .u64 m.mss, .int .i64 m.mode, .int .u64 m.rate, .int .u64 m.win, .int .u64 m.sav, .bool m.rec', .bool m.first, .int .u64 m.til] ^ blk n1 [.int .u64 m.w.w, .int .u64 m.w.t0, .int .u64 m.w.v0, .int .u64 m.w.t1, .int .u64 m.w.v1, .int .u64 m.w.t2, .int .u64 m.w.v2, .int .u64 m.w.la] ^ blk n2 [.int .u64 m.r.n, .int .u64 m.r.nx] ^ blk n3 [.int .u64 m.p.best, .int .i64 m.p.n, .bool m.p.full] ^ blk n4 [.int .i64 m.c.ph, .int .u64 m.c.at'] ^ blk n5 [.int .u64 m.b.best, .int .u64 m.b.at', .bool m.b.on, .int .u64 m.b.til, .bool m.b.rd] ^ blk n6 [.bool m.q.use, .bool m.q.mea, .int .u64 m.q.bw, .int .i64 m.q.n, .int .u64 m.q.lost, .int .u64 m.q.t0, .int .u64 m.q.d0, .int .u64 m.q.l0]
instance (x : N7) (m : Md) : NoR (mdl x m) := by unfold mdl; infer_instance
theorem mst_tri (x : N7) (m : Md) : Tri Try.prog N_bbr_Model_State [.lf (.ptr (some ⟨x.1, 0⟩))] [.agg K_i2u6b2] (mdl x m) (fun r => pur (r = mSt m) (mdl x m)) := by
  obtain ⟨b, n1, n2, n3, n4, n5, n6⟩ := x
  exact BbrN.state_tri b n1 n2 n3 n4 n5 n6 m
theorem mupd_tri (x : N7) (m : Md) (hm : OkM m) (s : Sm) (hs : OkS s) (tso : Int) (ht : U tso) : Tri Try.prog N_bbr_Model_Update [.lf (.ptr (some ⟨x.1, 0⟩)), .agg (Ks.mk K_u8b s), .lf (.int .u64 tso)] [.agg K_i2u6b2] (mdl x m) (fun r => pur (r = mSt (mUpd m s tso)) (mdl x (mUpd m s tso))) := by
  obtain ⟨b, n1, n2, n3, n4, n5, n6⟩ := x
  exact BbrU.upd_tri b n1 n2 n3 n4 n5 n6 m hm s hs tso ht
theorem mnew_tri (n : Int) : Tri Try.prog N_bbr_New [.lf (.int .u64 n)] [.lf .ptr] emp (fun r => ex fun x : N7 => pur (r = some ⟨x.1, 0⟩) (mdl x (mNew n))) :=
  (BbrN.new_tri n).le Le.rfl fun _ _ _ _ ⟨⟨b, n1, n2, n3, n4, n5, n6⟩, h1, h2⟩ => ⟨(b, n1, n2, n3, n4, n5, n6), h1, h2⟩
/-! ### The socket in memory -/
abbrev sL (v : Sk) (pb pd ps pm : Nat) : List Lf := [.int .i64 v.id, .int .i64 v.mss, .int .i64 v.cap, .ptr (some ⟨pb, 0⟩), .ptr (some ⟨pd, 0⟩), .ptr (some ⟨ps, 0⟩), .ptr (some ⟨pm, 0⟩), .int .u64 v.out, .int .u64 v.nx]
def sck (p : Nat) (v : Sk) : SP := ex fun x : Nat × Nat × Nat × N7 => blk p (sL v x.1 x.2.1 x.2.2.1 x.2.2.2.1) ^ blk x.1 (Ks.mk KBf v.bf) ^ brd x.2.1 v.bd ^ blk x.2.2.1 (Ks.mk KSp v.sp) ^ mdl x.2.2.2 v.md
instance (p : Nat) (v : Sk) : NoR (sck p v) := by unfold sck; infer_instance
section
variable {w0 w : World} {S0 R0 : Nat → Prop} {F G : SP}
theorem _root_.Go.X.Own.sck (h : Own w0 S0 R0 w F) (p : Nat) {v : Sk} [tk : TakeK SockC.sck p F v G] : ∃ (pb pd ps : Nat) (x : N7), Own w0 S0 R0 w (blk p (sL v pb pd ps x.1) ^ blk pb (Ks.mk KBf v.bf) ^ brd pd v.bd ^ blk ps (Ks.mk KSp v.sp) ^ mdl x v.md ^ G) := by
  obtain ⟨x, h⟩ := (h.le tk.le).exP
  exact ⟨x.1, x.2.1, x.2.2.1, x.2.2.2, h.fin⟩
theorem _root_.Go.X.Own.mkSck (h : Own w0 S0 R0 w F) (p pb pd ps : Nat) (x : N7) (v : Sk) [tk : Take (blk p (sL v pb pd ps x.1) ^ blk pb (Ks.mk KBf v.bf) ^ brd pd v.bd ^ blk ps (Ks.mk KSp v.sp) ^ mdl x v.md) F G] : Own w0 S0 R0 w (SockC.sck p v ^ G) :=
  Own.toEx (f := fun x : Nat × Nat × Nat × N7 => blk p (sL v x.1 x.2.1 x.2.2.1 x.2.2.2.1) ^ blk x.1 (Ks.mk KBf v.bf) ^ brd x.2.1 v.bd ^ blk x.2.2.1 (Ks.mk KSp v.sp) ^ mdl x.2.2.2 v.md) (pb, pd, ps, x) (h.le tk.le)
end
theorem flight_tri (p : Nat) (v : Sk) (hl : v.bd.1.length ≤ 4294967296) : Tri Try.prog N_sock_Sock_Flight [.lf (.ptr (some ⟨p, 0⟩))] [.lf (.int .u64)] (sck p v) (fun r => pur (r = skFl v) (sck p v)) :=
  tri_0 (call_sock_Sock_Flight (some ⟨p, 0⟩)) fun w0 S R h => by
    unfold W_sock_Sock_Flight
    refine w_ite (fun c => (by simp at c)) fun _ => ?_
    obtain ⟨pb, pd, ps, x, h⟩ := h.sck p
    refine w_deref (w_ld h rfl (w_call (Board.flight_tri pd v.bd hl) h fun r w h => ?_))
    obtain ⟨hr, h⟩ := h.purP; rw [hr]
    exact Own.retP rfl (h.mkSck p pb pd ps x v).fin
theorem flightO_tri (p pb pd ps : Nat) (x : N7) (v : Sk) (hl : v.bd.1.length ≤ 4294967296) : Tri Try.prog N_sock_Sock_Flight [.lf (.ptr (some ⟨p, 0⟩))] [.lf (.int .u64)] (blk p (sL v pb pd ps x.1) ^ brd pd v.bd) (fun r => pur (r = skFl v) (blk p (sL v pb pd ps x.1) ^ brd pd v.bd)) :=
  tri_0 (call_sock_Sock_Flight (some ⟨p, 0⟩)) fun w0 S R h => by
    unfold W_sock_Sock_Flight
    refine w_ite (fun c => (by simp at c)) fun _ => ?_
    refine w_deref (w_ld h rfl (w_call (Board.flight_tri pd v.bd hl) h fun r w h => ?_))
    obtain ⟨hr, h⟩ := h.purP; rw [hr]
    exact Own.retP rfl h.fin
theorem tsoO_tri (p pb pd ps : Nat) (x : N7) (v : Sk) (hm : OkM v.md) : Tri Try.prog N_sock_Sock_Tso [.lf (.ptr (some ⟨p, 0⟩))] [.lf (.int .i64)] (blk p (sL v pb pd ps x.1) ^ mdl x v.md) (fun r => pur (r = skTso v) (blk p (sL v pb pd ps x.1) ^ mdl x v.md)) :=
  tri_0 (call_sock_Sock_Tso (some ⟨p, 0⟩)) fun w0 S R h => by
    unfold W_sock_Sock_Tso
    refine w_ite (fun c => (by simp at c)) fun _ => ?_
    refine w_drw h fun w h => w_deref (w_deref (w_ld h rfl (w_ld h rfl (w_call (mst_tri x v.md) h fun r w h => ?_))))
    obtain ⟨hr, h⟩ := h.purP; rw [hr]
    refine w_chk h rfl (w_call (tso_tri (mSt v.md).2.2.1 v.mss hm.rate) h fun r w h => ?_)
    obtain ⟨hr, h⟩ := h.purP; rw [hr]
    exact Own.retP rfl h.fin
theorem out_tri (p : Nat) (v : Sk) : Tri Try.prog N_sock_Sock_Out [.lf (.ptr (some ⟨p, 0⟩))] [.lf (.int .u64)] (sck p v) (fun r => pur (r = v.out) (sck p v)) :=
  tri_0 (call_sock_Sock_Out (some ⟨p, 0⟩)) fun w0 S R h => by
    unfold W_sock_Sock_Out
    refine w_ite (fun c => (by simp at c)) fun _ => ?_
    obtain ⟨pb, pd, ps, x, h⟩ := h.sck p
    refine w_deref (w_ld h rfl ?_)
    exact Own.retP rfl (h.mkSck p pb pd ps x v).fin
theorem write_tri (p : Nat) (v : Sk) (hb : OkBf v.bf) (n : Int) (hn : n < 9223372036854775808) : Tri Try.prog N_sock_Sock_Write [.lf (.ptr (some ⟨p, 0⟩)), .lf (.int .i64 n)] [.lf (.int .i64)] (sck p v) (fun r => pur (r = (writeS v n).1) (sck p (writeS v n).2)) :=
  tri_0 (call_sock_Sock_Write (some ⟨p, 0⟩) n) fun w0 S R h => by
    unfold W_sock_Sock_Write
    refine w_ite (fun c => (by simp at c)) fun _ => ?_
    obtain ⟨pb, pd, ps, x, h⟩ := h.sck p
    refine w_deref (w_ld h rfl (w_call (bwrite_tri pb v.bf hb n hn) h fun r w h => ?_))
    obtain ⟨hr, h⟩ := h.purP; rw [hr]
    exact Own.retP rfl (h.mkSck p pb pd ps x { v with bf := (wrF v.bf n).2 }).keep
theorem done_tri (p : Nat) (v : Sk) (ho : U v.out) (n : Int) (hn : n < 9223372036854775808) : Tri Try.prog N_sock_Sock_Done [.lf (.ptr (some ⟨p, 0⟩)), .lf (.int .i64 n)] [.lf (.int .i64)] (sck p v) (fun r => pur (r = (doneS v n).1) (sck p (doneS v n).2)) :=
  tri_0 (call_sock_Sock_Done (some ⟨p, 0⟩) n) fun w0 S R h => by
    unfold W_sock_Sock_Done
    unfold U at ho
    obtain ⟨pb, pd, ps, x, h⟩ := (h.le (star_emp _)).sck p
    refine w_join h (fun _ => blk p (sL v pb pd ps x.1) ^ blk pb (Ks.mk KBf v.bf) ^ brd pd v.bd ^ blk ps (Ks.mk KSp v.sp) ^ mdl x v.md) (fun _ => ¬ (n < 1 ∨ n > v.out)) (fun _ w hx h => ?_) ?_
    · have e : doneS v n = (0, { v with out := v.out - n }) := by unfold doneS; rw [if_neg hx]
      have ew : IntKind.u64.wrap (v.out - IntKind.u64.wrap n) = v.out - n := by rw [wu (n := n) (by omega) (by omega)]; exact wu (by omega) (by omega)
      rw [e]
      refine w_deref (w_ld h rfl (w_deref ?_))
      rw [ew]
      refine w_setTo h p (sL { v with out := v.out - n } pb pd ps x.1) rfl rfl rfl fun w h => ?_
      exact Own.retP rfl (h.mkSck p pb pd ps x { v with out := v.out - n }).keep
    · have bad : ∀ {w : World}, (n < 1 ∨ n > v.out) → Own w0 S R w (blk p (sL v pb pd ps x.1) ^ blk pb (Ks.mk KBf v.bf) ^ brd pd v.bd ^ blk ps (Ks.mk KSp v.sp) ^ mdl x v.md ^ emp) → Own w0 S R w (pur ((1 : Int) = (doneS v n).1) (sck p (doneS v n).2)) := fun {w} c h => by
        have e : doneS v n = (1, v) := by unfold doneS; rw [if_pos c]
        rw [e]
        exact Own.retP rfl (h.mkSck p pb pd ps x v).keep
      refine w_ite (fun c => (by simp at c)) fun _ => w_ite (fun c => ?_) fun c => ?_
      · exact bad (.inl (of_decide_eq_true c)) h.fin
      · have c : ¬ n < 1 := of_decide_eq_false c
        refine w_deref (w_ld h rfl (w_ite (fun c2 => ?_) fun c2 => ?_))
        · have c2 : IntKind.u64.wrap n > v.out := of_decide_eq_true c2
          rw [wu (n := n) (by omega) (by omega)] at c2
          exact bad (.inr c2) h.fin
        · have c2 : ¬ IntKind.u64.wrap n > v.out := of_decide_eq_false c2
          rw [wu (n := n) (by omega) (by omega)] at c2
          exact ⟨by omega, h.fin⟩
end SockC

namespace SockD
open Arith ArithC Delays Board BbrM BbrMm SockA SockB SockM SockC
theorem blen_tri (b : Nat) (v : List Pc × Int) : Tri Try.prog N_board_Board_Len [.lf (.ptr (some ⟨b, 0⟩))] [.lf (.int .i64)] (brd b v) (fun r => pur (r = (v.1.length : Int)) (brd b v)) :=
  tri_0 (call_board_Board_Len (some ⟨b, 0⟩)) fun w0 S R h => by
    unfold W_board_Board_Len
    refine w_ite (fun c => (by simp at c)) fun _ => ?_
    obtain ⟨s, h⟩ := (h.le (star_emp _)).brd b
    have hs := (h.rd (s := s)).2
    refine w_deref (w_ld h rfl ?_)
    refine Own.retP ?_ (h.mkBrd b s v.1 v.2).keep
    show ((s.len : Nat) : Int) = _
    rw [hs]
structure OkSk (v : Sk) : Prop where
  bf : OkBf v.bf
  bl : v.bd.1.length ≤ 4096
  sp : OkSp v.sp
  md : OkM v.md
  mss : 100 ≤ v.mss ∧ v.mss ≤ 9000
  cap : 0 ≤ v.cap ∧ v.cap ≤ 1073741824
  out : U v.out
  nx : U v.nx
  fl : U (skFl v)
theorem may_tri (p : Nat) (v : Sk) (hv : OkSk v) : Tri Try.prog N_sock_Sock_may [.lf (.ptr (some ⟨p, 0⟩))] [.lf (.int .i64)] (sck p v) (fun r => pur (r = (mayS v).1) (sck p (mayS v).2)) :=
  tri_0 (call_sock_Sock_may (some ⟨p, 0⟩)) fun w0 S R h => by
    unfold W_sock_Sock_may
    have hbl : v.bd.1.length ≤ 4294967296 := by have := hv.bl; omega
    have hts := tso_r v.md.rate v.mss hv.md.rate.1
    obtain ⟨pb, pd, ps, x, h⟩ := (h.le (star_emp _)).sck p
    refine w_deref (w_ld h rfl (w_call (Lost_tri pd v.bd hbl) h fun r w h => ?_))
    obtain ⟨hr, h⟩ := h.purP; rw [hr]
    refine w_new h fun n4 w h => w_setAll h (by rfl) fun w h => w_deref (w_ld h rfl (w_call (mst_tri x v.md) h fun r w h => ?_))
    obtain ⟨hr, h⟩ := h.purP; rw [hr]
    refine w_new h fun n8 w h => w_setAll h (by rfl) fun w h => w_drw h fun w h => w_ld (x := v.md.win) h rfl (w_call (flightO_tri p pb pd ps x v hbl) h fun r w h => ?_)
    obtain ⟨hr, h⟩ := h.purP; rw [hr]
    refine w_chk h rfl ?_
    have h : Own w0 S R w (blk n8 (Ks.mk K_i2u6b2 (mSt v.md)) ^ blk p (sL v pb pd ps x.1) ^ blk pb (Ks.mk KBf v.bf) ^ brd pd v.bd ^ blk ps (Ks.mk KSp v.sp) ^ mdl x v.md) := h.fin
    refine w_join h (fun _ => blk n8 (Ks.mk K_i2u6b2 (mSt v.md)) ^ blk p (sL v pb pd ps x.1) ^ blk pb (Ks.mk KBf v.bf) ^ brd pd v.bd ^ blk ps (Ks.mk KSp v.sp) ^ mdl x v.md) (fun y : Bool => y = true ↔ (lostF v.bd.1).2 = false ∧ bW v.bf - bN v.bf = 0) (fun (y : Bool) w hy h => ?_) ?_
    rotate_left
    · refine w_ite (fun c => ?_) fun c => ?_
      · have c : (lostF v.bd.1).2 = false := by simpa using c
        refine w_deref (w_ld h rfl (w_call (bunsent_tri pb v.bf hv.bf) h fun r w h => ?_))
        obtain ⟨hr, h⟩ := h.purP; rw [hr]
        refine ⟨?_, h.fin⟩
        show (bW v.bf - bN v.bf == 0) = true ↔ _
        rw [beq_iff_eq]
        exact ⟨fun e => ⟨c, e⟩, fun e => e.2⟩
      · have c : (lostF v.bd.1).2 = true := by simpa using c
        exact ⟨⟨fun e => (by cases e), fun e => (by rw [c] at e; cases e.1)⟩, h⟩
    · refine w_ite (fun c => ?_) fun c => ?_
      · have c := hy.1 c
        have e : mayS v = (7, if skFl v < v.md.win then { v with sp := limitP v.sp (skFl v) } else v) := by unfold mayS; rw [if_pos c]
        rw [e]
        refine w_ite (fun c2 => ?_) fun c2 => ?_
        · have c2 : skFl v < v.md.win := of_decide_eq_true c2
          rw [if_pos c2]
          refine w_drw h fun w h => w_deref (w_ld h rfl (w_call (flightO_tri p pb pd ps x v hbl) h fun r w h => ?_))
          obtain ⟨hr, h⟩ := h.purP; rw [hr]
          refine w_chk h rfl (w_call (limit_tri ps v.sp hv.sp (skFl v) hv.fl) h fun _ w h => ?_)
          exact Own.retP rfl (h.mkSck p pb pd ps x { v with sp := limitP v.sp (skFl v) }).keep
        · have c2 : ¬ skFl v < v.md.win := of_decide_eq_false c2
          rw [if_neg c2]
          exact Own.retP rfl (h.mkSck p pb pd ps x v).keep
      · have c1 : ¬ ((lostF v.bd.1).2 = false ∧ bW v.bf - bN v.bf = 0) := fun e => by have := hy.2 e; rw [c] at this; cases this
        refine w_join h (fun _ => blk n8 (Ks.mk K_i2u6b2 (mSt v.md)) ^ blk p (sL v pb pd ps x.1) ^ blk pb (Ks.mk KBf v.bf) ^ brd pd v.bd ^ blk ps (Ks.mk KSp v.sp) ^ mdl x v.md) (fun y : Bool => y = true ↔ ¬ (skFl v < v.md.win ∧ v.out < belowF v.md.rate (skTso v) v.cap)) (fun (y : Bool) w hy h => ?_) ?_
        · refine w_ite (fun c => ?_) fun c => ?_
          · have e : mayS v = (5, v) := by unfold mayS; rw [if_neg c1, if_pos (hy.1 c)]
            rw [e]
            exact Own.retP rfl (h.mkSck p pb pd ps x v).keep
          · have c2 : ¬ ¬ (skFl v < v.md.win ∧ v.out < belowF v.md.rate (skTso v) v.cap) := fun e => by have := hy.2 e; rw [c] at this; cases this
            refine w_ite (fun c3 => ?_) fun c3 => ?_
            · have c3 : (lostF v.bd.1).2 = false := by simpa using c3
              refine w_deref (w_ld h rfl (w_call (blen_tri pd v.bd) h fun r w h => ?_))
              obtain ⟨hr, h⟩ := h.purP; rw [hr]
              refine w_ite (fun c4 => ?_) fun c4 => ?_
              · have c4 : (v.bd.1.length : Int) ≥ 4096 := of_decide_eq_true c4
                have e : mayS v = (5, v) := by unfold mayS; rw [if_neg c1, if_neg c2, if_pos ⟨c3, c4⟩]
                rw [e]
                exact Own.retP rfl (h.mkSck p pb pd ps x v).keep
              · have c4 : ¬ (v.bd.1.length : Int) ≥ 4096 := of_decide_eq_false c4
                have e : mayS v = (0, v) := by unfold mayS; rw [if_neg c1, if_neg c2, if_neg (fun e => c4 e.2)]
                rw [e]
                exact Own.retP rfl (h.mkSck p pb pd ps x v).keep
            · have c3 : (lostF v.bd.1).2 = true := by simpa using c3
              have e : mayS v = (0, v) := by unfold mayS; rw [if_neg c1, if_neg c2, if_neg (fun e => by rw [c3] at e; cases e.1)]
              rw [e]
              exact Own.retP rfl (h.mkSck p pb pd ps x v).keep
        · refine w_drw h fun w h => w_ite (fun c => ?_) fun c => ?_
          · have c : ¬ skFl v < v.md.win := by simpa using c
            exact ⟨⟨fun _ e => c e.1, fun _ => rfl⟩, h⟩
          · have c : skFl v < v.md.win := by simpa using c
            refine w_deref (w_ld (x := v.md.rate) h rfl (w_deref (w_ld h rfl (w_ld h rfl (w_call (tsoO_tri p pb pd ps x v hv.md) h fun r w h => ?_)))))
            obtain ⟨hr, h⟩ := h.purP; rw [hr]
            refine w_chk h rfl (w_chk h rfl (w_chk h rfl (w_call (below_tri v.md.rate (skTso v) v.cap hv.md.rate ⟨by unfold skTso; omega, hts.2⟩ hv.cap) h fun r w h => ?_)))
            obtain ⟨hr, h⟩ := h.purP; rw [hr]
            refine w_chk h rfl (w_call (SockB.may_tri v.out (belowF v.md.rate (skTso v) v.cap)) h fun r w h => ?_)
            obtain ⟨hr, h⟩ := h.purP; rw [hr]
            refine ⟨?_, h.fin⟩
            show (!decide (v.out < belowF v.md.rate (skTso v) v.cap)) = true ↔ _
            simp [c]
end SockD


end Go.X
