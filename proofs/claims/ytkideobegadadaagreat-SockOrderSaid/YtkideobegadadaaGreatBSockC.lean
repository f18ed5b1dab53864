/- Contracts and plain facts: SockM SockC. -/
import Derived.Test.YtkideobegadadaaGreatBArith
import Derived.Test.YtkideobegadadaaGreatBWf
import Derived.Test.YtkideobegadadaaGreatBDelays
import Derived.Test.YtkideobegadadaaGreatBTarget
import Derived.Test.YtkideobegadadaaGreatBBbrMm
import Derived.Test.YtkideobegadadaaGreatBSockB
import Derived.Test.YtkideobegadadaaGreatBBbrP
import Derived.Test.YtkideobegadadaaGreatBBbrQ
import Derived.Test.YtkideobegadadaaGreatBBbrN
import Derived.Test.YtkideobegadadaaGreatBBbrU
import Derived.Test.YtkideobegadadaaGreatXw
import Derived.Test.YtkideobegadadaaGreatK
import Derived.Test.YtkideobegadadaaGreatF0
import Derived.Test.YtkideobegadadaaGreatF1
set_option linter.unusedVariables false
set_option linter.unusedSimpArgs false
set_option linter.unusedSectionVars false
namespace Go.X
open Go.Proofs
namespace SockM
open Arith ArithC Delays Board BbrM BbrMm SockA SockB
/-- A segment handed down: socket, from, length, stamp, again. -/
abbrev Sg := Int × Int × Int × Int × Bool
abbrev noS : Sg := (0, 0, 0, 0, false)
structure Sk where
  id : Int
  mss : Int
  cap : Int
  bf : Bf
  bd : List Pc × Int
  sp : Sp
  md : Md
  out : Int
  nx : Int
def skTso (v : Sk) : Int := tsoF v.md.rate v.mss
def skFl (v : Sk) : Int := flightF v.bd.1
def mayS (v : Sk) : Int × Sk :=
  if (lostF v.bd.1).2 = false ∧ bW v.bf - bN v.bf = 0 then (7, if skFl v < v.md.win then { v with sp := limitP v.sp (skFl v) } else v)
  else if ¬ (skFl v < v.md.win ∧ v.out < belowF v.md.rate (skTso v) v.cap) then (5, v)
  else if (lostF v.bd.1).2 = false ∧ (v.bd.1.length : Int) ≥ 4096 then (5, v) else (0, v)
def putS (v : Sk) (rg : Int × Int) (again : Bool) (now : Int) : Sg × Sk :=
  ((v.id, rg.1, rg.2 - rg.1, (if v.nx > now then v.nx else now), again), { v with nx := addI (if v.nx > now then v.nx else now) (delayI (rg.2 - rg.1) v.md.rate), out := v.out + (rg.2 - rg.1) })
abbrev touchS (v : Sk) (now : Int) : Sk := { v with sp := (sentP v.sp now (skFl v)).2 }
def goS (v : Sk) (now : Int) : Sg × Sk :=
  if (lostF v.bd.1).2 then putS { touchS v now with bd := (againF v.bd.1 (sentP v.sp now (skFl v)).1, v.bd.2) } (lostF v.bd.1).1 true now
  else putS { touchS v now with bf := (tkF v.bf (skTso v)).2, bd := (sentF v.bd (tkF v.bf (skTso v)).1.1.1 (tkF v.bf (skTso v)).1.1.2 (sentP v.sp now (skFl v)).1).2 } (tkF v.bf (skTso v)).1.1 false now
def emitS (v : Sk) (now : Int) : (Sg × Int) × Sk := if (mayS v).1 ≠ 0 then ((noS, (mayS v).1), (mayS v).2) else (((goS v now).1, 0), (goS v now).2)
def doneS (v : Sk) (n : Int) : Int × Sk := if n < 1 ∨ n > v.out then (1, v) else (0, { v with out := v.out - n })
def writeS (v : Sk) (n : Int) : Int × Sk := ((wrF v.bf n).1, { v with bf := (wrF v.bf n).2 })
def learnS (v : Sk) (now lost : Int) : Sk := { v with sp := (takeP v.sp now lost (skFl v)).2, md := mUpd v.md (takeP v.sp now lost (skFl v)).1 (skTso v) }
def loseS (v : Sk) (now : Int) : Sk := learnS { v with bd := (v.bd.1.map loseP, v.bd.2) } now (flightF v.bd.1)
def newS (id mss cap : Int) : Sk := ⟨id, clampM mss, cap, (0, 0, 0, 1073741824), ([], 0), sp0, mNew (clampM mss), 0, 0⟩
end SockM

namespace SockC
open Arith ArithC Delays Board BbrM BbrMm SockA SockB SockM
abbrev N7 := Nat × Nat × Nat × Nat × Nat × Nat × Nat
def mdl (x : N7) (m : Md) : SP := match x with
  | (b, n1, n2, n3, n4, n5, n6) => blk b [.ptr (some ⟨n1, 0⟩), .ptr (some ⟨n2, 0⟩), .ptr (some ⟨n3, 0⟩), .ptr (some ⟨n4, 0⟩), .ptr (some ⟨n5, 0⟩), .ptr (some ⟨n6, 0⟩), .int .u64 m.mss, .int .i64 m.mode, .int .u64 m.rate, .int .u64 m.win, .int .u64 m.sav, .bool m.rec', .bool m.first, .int .u64 m.til] ^ blk n1 [.int .u64 m.w.w, .int .u64 m.w.t0, .int .u64 m.w.v0, .int .u64 m.w.t1, .int .u64 m.w.v1, .int .u64 m.w.t2, .int .u64 m.w.v2, .int .u64 m.w.la] ^ blk n2 [.int .u64 m.r.n, .int .u64 m.r.nx] ^ blk n3 [.int .u64 m.p.best, .int .i64 m.p.n, .bool m.p.full] ^ blk n4 [.int .i64 m.c.ph, .int .u64 m.c.at'] ^ blk n5 [.int .u64 m.b.best, .int .u64 m.b.at', .bool m.b.on, .int .u64 m.b.til, .bool m.b.rd] ^ blk n6 [.bool m.q.use, .bool m.q.mea, .int .u64 m.q.bw, .int .i64 m.q.n, .int .u64 m.q.lost, .int .u64 m.q.t0, .int .u64 m.q.d0, .int .u64 m.q.l0]
instance (x : N7) (m : Md) : NoR (mdl x m) := by unfold mdl; infer_instance
theorem mst_tri (x : N7) (m : Md) : Tri Tryz.prog N_bbr_Model_State [.lf (.ptr (some ⟨x.1, 0⟩))] [.agg K_i2u6b2] (mdl x m) (fun r => pur (r = mSt m) (mdl x m)) := by
  obtain ⟨b, n1, n2, n3, n4, n5, n6⟩ := x
  exact BbrN.state_tri b n1 n2 n3 n4 n5 n6 m
theorem mupd_tri (x : N7) (m : Md) (hm : OkM m) (s : Sm) (hs : OkS s) (tso : Int) (ht : U tso) : Tri Tryz.prog N_bbr_Model_Update [.lf (.ptr (some ⟨x.1, 0⟩)), .agg (Ks.mk K_u8b s), .lf (.int .u64 tso)] [.agg K_i2u6b2] (mdl x m) (fun r => pur (r = mSt (mUpd m s tso)) (mdl x (mUpd m s tso))) := by
  obtain ⟨b, n1, n2, n3, n4, n5, n6⟩ := x
  exact BbrU.upd_tri b n1 n2 n3 n4 n5 n6 m hm s hs tso ht
theorem mnew_tri (n : Int) : Tri Tryz.prog N_bbr_New [.lf (.int .u64 n)] [.lf .ptr] emp (fun r => ex fun x : N7 => pur (r = some ⟨x.1, 0⟩) (mdl x (mNew n))) :=
  (BbrN.new_tri n).le Le.rfl fun _ _ _ _ ⟨⟨b, n1, n2, n3, n4, n5, n6⟩, h1, h2⟩ => ⟨(b, n1, n2, n3, n4, n5, n6), h1, h2⟩
/-! ### The socket in memory -/
abbrev sL (v : Sk) (pb pd ps pm : Nat) : List Lf := [.int .i64 v.id, .int .i64 v.mss, .int .i64 v.cap, .ptr (some ⟨pb, 0⟩), .ptr (some ⟨pd, 0⟩), .ptr (some ⟨ps, 0⟩), .ptr (some ⟨pm, 0⟩), .int .u64 v.out, .int .u64 v.nx]
def sck (p : Nat) (v : Sk) : SP := ex fun x : Nat × Nat × Nat × N7 => blk p (sL v x.1 x.2.1 x.2.2.1 x.2.2.2.1) ^ blk x.1 (Ks.mk KBf v.bf) ^ brd x.2.1 v.bd ^ blk x.2.2.1 (Ks.mk KSp v.sp) ^ mdl x.2.2.2 v.md
instance (p : Nat) (v : Sk) : NoR (sck p v) := by unfold sck; infer_instance
section
variable {w0 w : World} {S0 R0 : Nat → Prop} {F G : SP}
theorem _root_.Go.X.Own.sck (h : Own w0 S0 R0 w F) (p : Nat) {v : Sk} [tk : TakeK SockC.sck p F v G] : ∃ (pb pd ps : Nat) (x : N7), Own w0 S0 R0 w (blk p (sL v pb pd ps x.1) ^ blk pb (Ks.mk KBf v.bf) ^ brd pd v.bd ^ blk ps (Ks.mk KSp v.sp) ^ mdl x v.md ^ G) := by
  obtain ⟨x, h⟩ := (h.le tk.le).exP
  exact ⟨x.1, x.2.1, x.2.2.1, x.2.2.2, h.fin⟩
theorem _root_.Go.X.Own.mkSck (h : Own w0 S0 R0 w F) (p pb pd ps : Nat) (x : N7) (v : Sk) [tk : Take (blk p (sL v pb pd ps x.1) ^ blk pb (Ks.mk KBf v.bf) ^ brd pd v.bd ^ blk ps (Ks.mk KSp v.sp) ^ mdl x v.md) F G] : Own w0 S0 R0 w (SockC.sck p v ^ G) :=
  Own.toEx (f := fun x : Nat × Nat × Nat × N7 => blk p (sL v x.1 x.2.1 x.2.2.1 x.2.2.2.1) ^ blk x.1 (Ks.mk KBf v.bf) ^ brd x.2.1 v.bd ^ blk x.2.2.1 (Ks.mk KSp v.sp) ^ mdl x.2.2.2 v.md) (pb, pd, ps, x) (h.le tk.le)
end
theorem flight_tri (p : Nat) (v : Sk) (hl : v.bd.1.length ≤ 4294967296) : Tri Tryz.prog N_sock_Sock_Flight [.lf (.ptr (some ⟨p, 0⟩))] [.lf (.int .u64)] (sck p v) (fun r => pur (r = skFl v) (sck p v)) :=
  tri_0 (call_sock_Sock_Flight (some ⟨p, 0⟩)) fun w0 S R h => by
    unfold W_sock_Sock_Flight
    refine w_ite (fun c => (by simp at c)) fun _ => ?_
    obtain ⟨pb, pd, ps, x, h⟩ := h.sck p
    refine w_deref (w_ld h rfl (w_call (Board.flight_tri pd v.bd hl) h fun r w h => ?_))
    obtain ⟨hr, h⟩ := h.purP; rw [hr]
    exact Own.retP rfl (h.mkSck p pb pd ps x v).fin
theorem flightO_tri (p pb pd ps : Nat) (x : N7) (v : Sk) (hl : v.bd.1.length ≤ 4294967296) : Tri Tryz.prog N_sock_Sock_Flight [.lf (.ptr (some ⟨p, 0⟩))] [.lf (.int .u64)] (blk p (sL v pb pd ps x.1) ^ brd pd v.bd) (fun r => pur (r = skFl v) (blk p (sL v pb pd ps x.1) ^ brd pd v.bd)) :=
  tri_0 (call_sock_Sock_Flight (some ⟨p, 0⟩)) fun w0 S R h => by
    unfold W_sock_Sock_Flight
    refine w_ite (fun c => (by simp at c)) fun _ => ?_
    refine w_deref (w_ld h rfl (w_call (Board.flight_tri pd v.bd hl) h fun r w h => ?_))
    obtain ⟨hr, h⟩ := h.purP; rw [hr]
    exact Own.retP rfl h.fin
theorem tsoO_tri (p pb pd ps : Nat) (x : N7) (v : Sk) (hm : OkM v.md) : Tri Tryz.prog N_sock_Sock_Tso [.lf (.ptr (some ⟨p, 0⟩))] [.lf (.int .i64)] (blk p (sL v pb pd ps x.1) ^ mdl x v.md) (fun r => pur (r = skTso v) (blk p (sL v pb pd ps x.1) ^ mdl x v.md)) :=
  tri_0 (call_sock_Sock_Tso (some ⟨p, 0⟩)) fun w0 S R h => by
    unfold W_sock_Sock_Tso
    refine w_ite (fun c => (by simp at c)) fun _ => ?_
    refine w_drw h fun w h => w_deref (w_deref (w_ld h rfl (w_ld h rfl (w_call (mst_tri x v.md) h fun r w h => ?_))))
    obtain ⟨hr, h⟩ := h.purP; rw [hr]
    refine w_chk h rfl (w_call (tso_tri (mSt v.md).2.2.1 v.mss hm.rate) h fun r w h => ?_)
    obtain ⟨hr, h⟩ := h.purP; rw [hr]
    exact Own.retP rfl h.fin
theorem out_tri (p : Nat) (v : Sk) : Tri Tryz.prog N_sock_Sock_Out [.lf (.ptr (some ⟨p, 0⟩))] [.lf (.int .u64)] (sck p v) (fun r => pur (r = v.out) (sck p v)) :=
  tri_0 (call_sock_Sock_Out (some ⟨p, 0⟩)) fun w0 S R h => by
    unfold W_sock_Sock_Out
    refine w_ite (fun c => (by simp at c)) fun _ => ?_
    obtain ⟨pb, pd, ps, x, h⟩ := h.sck p
    refine w_deref (w_ld h rfl ?_)
    exact Own.retP rfl (h.mkSck p pb pd ps x v).fin
theorem model_tri (p : Nat) (v : Sk) : Tri Tryz.prog N_sock_Sock_Model [.lf (.ptr (some ⟨p, 0⟩))] [.agg K_i2u6b2] (sck p v) (fun r => pur (r = mSt v.md) (sck p v)) :=
  tri_0 (call_sock_Sock_Model (some ⟨p, 0⟩)) fun w0 S R h => by
    unfold W_sock_Sock_Model
    refine w_new h fun n w h => w_ite (fun c => (by simp at c)) fun _ => ?_
    obtain ⟨pb, pd, ps, x, h⟩ := h.sck p
    refine w_deref (w_ld h rfl (w_call (mst_tri x v.md) h fun r w h => ?_))
    obtain ⟨hr, h⟩ := h.purP; rw [hr]
    refine w_setAll h (by rfl) fun w h => w_ldAll (b := n) (x := mSt v.md) h rfl ?_
    exact Own.retP rfl (h.mkSck p pb pd ps x v).fin
theorem write_tri (p : Nat) (v : Sk) (hb : OkBf v.bf) (n : Int) (hn : n < 9223372036854775808) : Tri Tryz.prog N_sock_Sock_Write [.lf (.ptr (some ⟨p, 0⟩)), .lf (.int .i64 n)] [.lf (.int .i64)] (sck p v) (fun r => pur (r = (writeS v n).1) (sck p (writeS v n).2)) :=
  tri_0 (call_sock_Sock_Write (some ⟨p, 0⟩) n) fun w0 S R h => by
    unfold W_sock_Sock_Write
    refine w_ite (fun c => (by simp at c)) fun _ => ?_
    obtain ⟨pb, pd, ps, x, h⟩ := h.sck p
    refine w_deref (w_ld h rfl (w_call (bwrite_tri pb v.bf hb n hn) h fun r w h => ?_))
    obtain ⟨hr, h⟩ := h.purP; rw [hr]
    exact Own.retP rfl (h.mkSck p pb pd ps x { v with bf := (wrF v.bf n).2 }).keep
theorem done_tri (p : Nat) (v : Sk) (ho : U v.out) (n : Int) (hn : n < 9223372036854775808) : Tri Tryz.prog N_sock_Sock_Done [.lf (.ptr (some ⟨p, 0⟩)), .lf (.int .i64 n)] [.lf (.int .i64)] (sck p v) (fun r => pur (r = (doneS v n).1) (sck p (doneS v n).2)) :=
  tri_0 (call_sock_Sock_Done (some ⟨p, 0⟩) n) fun w0 S R h => by
    unfold W_sock_Sock_Done
    unfold U at ho
    obtain ⟨pb, pd, ps, x, h⟩ := (h.le (star_emp _)).sck p
    refine w_join h (fun _ => blk p (sL v pb pd ps x.1) ^ blk pb (Ks.mk KBf v.bf) ^ brd pd v.bd ^ blk ps (Ks.mk KSp v.sp) ^ mdl x v.md) (fun _ => ¬ (n < 1 ∨ n > v.out)) (fun _ w hx h => ?_) ?_
    · have e : doneS v n = (0, { v with out := v.out - n }) := by unfold doneS; rw [if_neg hx]
      have ew : IntKind.u64.wrap (v.out - IntKind.u64.wrap n) = v.out - n := by rw [wu (n := n) (by omega) (by omega)]; exact wu (by omega) (by omega)
      rw [e]
      refine w_deref (w_ld h rfl (w_deref ?_))
      rw [ew]
      refine w_setTo h p (sL { v with out := v.out - n } pb pd ps x.1) rfl rfl rfl fun w h => ?_
      exact Own.retP rfl (h.mkSck p pb pd ps x { v with out := v.out - n }).keep
    · have bad : ∀ {w : World}, (n < 1 ∨ n > v.out) → Own w0 S R w (blk p (sL v pb pd ps x.1) ^ blk pb (Ks.mk KBf v.bf) ^ brd pd v.bd ^ blk ps (Ks.mk KSp v.sp) ^ mdl x v.md ^ emp) → Own w0 S R w (pur ((1 : Int) = (doneS v n).1) (sck p (doneS v n).2)) := fun {w} c h => by
        have e : doneS v n = (1, v) := by unfold doneS; rw [if_pos c]
        rw [e]
        exact Own.retP rfl (h.mkSck p pb pd ps x v).keep
      refine w_ite (fun c => (by simp at c)) fun _ => w_ite (fun c => ?_) fun c => ?_
      · exact bad (.inl (of_decide_eq_true c)) h.fin
      · have c : ¬ n < 1 := of_decide_eq_false c
        refine w_deref (w_ld h rfl (w_ite (fun c2 => ?_) fun c2 => ?_))
        · have c2 : IntKind.u64.wrap n > v.out := of_decide_eq_true c2
          rw [wu (n := n) (by omega) (by omega)] at c2
          exact bad (.inr c2) h.fin
        · have c2 : ¬ IntKind.u64.wrap n > v.out := of_decide_eq_false c2
          rw [wu (n := n) (by omega) (by omega)] at c2
          exact ⟨by omega, h.fin⟩
end SockC


end Go.X
