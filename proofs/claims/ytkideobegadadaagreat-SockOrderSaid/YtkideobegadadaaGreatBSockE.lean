/- Contracts and plain facts: SockD SockE. -/
import Derived.Test.YtkideobegadadaaGreatBArith
import Derived.Test.YtkideobegadadaaGreatBWf
import Derived.Test.YtkideobegadadaaGreatBDelays
import Derived.Test.YtkideobegadadaaGreatBTarget
import Derived.Test.YtkideobegadadaaGreatBBbrMm
import Derived.Test.YtkideobegadadaaGreatBBbrP
import Derived.Test.YtkideobegadadaaGreatBBbrQ
import Derived.Test.YtkideobegadadaaGreatBBbrN
import Derived.Test.YtkideobegadadaaGreatBBbrU
import Derived.Test.YtkideobegadadaaGreatBSockB
import Derived.Test.YtkideobegadadaaGreatBSockC
import Derived.Test.YtkideobegadadaaGreatXw
import Derived.Test.YtkideobegadadaaGreatK
import Derived.Test.YtkideobegadadaaGreatF0
import Derived.Test.YtkideobegadadaaGreatF1
set_option linter.unusedVariables false
set_option linter.unusedSimpArgs false
set_option linter.unusedSectionVars false
namespace Go.X
open Go.Proofs
namespace SockD
open Arith ArithC Delays Board BbrM BbrMm SockA SockB SockM SockC
theorem blen_tri (b : Nat) (v : List Pc × Int) : Tri Tryz.prog N_board_Board_Len [.lf (.ptr (some ⟨b, 0⟩))] [.lf (.int .i64)] (brd b v) (fun r => pur (r = (v.1.length : Int)) (brd b v)) :=
  tri_0 (call_board_Board_Len (some ⟨b, 0⟩)) fun w0 S R h => by
    unfold W_board_Board_Len
    refine w_ite (fun c => (by simp at c)) fun _ => ?_
    obtain ⟨s, h⟩ := (h.le (star_emp _)).brd b
    have hs := (h.rd (s := s)).2
    refine w_deref (w_ld h rfl ?_)
    refine Own.retP ?_ (h.mkBrd b s v.1 v.2).keep
    show ((s.len : Nat) : Int) = _
    rw [hs]
structure OkSk (v : Sk) : Prop where
  bf : OkBf v.bf
  bl : v.bd.1.length ≤ 4096
  sp : OkSp v.sp
  md : OkM v.md
  mss : 100 ≤ v.mss ∧ v.mss ≤ 9000
  cap : 0 ≤ v.cap ∧ v.cap ≤ 1073741824
  out : U v.out
  nx : U v.nx
  fl : U (skFl v)
theorem may_tri (p : Nat) (v : Sk) (hv : OkSk v) : Tri Tryz.prog N_sock_Sock_may [.lf (.ptr (some ⟨p, 0⟩))] [.lf (.int .i64)] (sck p v) (fun r => pur (r = (mayS v).1) (sck p (mayS v).2)) :=
  tri_0 (call_sock_Sock_may (some ⟨p, 0⟩)) fun w0 S R h => by
    unfold W_sock_Sock_may
    have hbl : v.bd.1.length ≤ 4294967296 := by have := hv.bl; omega
    have hts := tso_r v.md.rate v.mss hv.md.rate.1
    obtain ⟨pb, pd, ps, x, h⟩ := (h.le (star_emp _)).sck p
    refine w_deref (w_ld h rfl (w_call (Lost_tri pd v.bd hbl) h fun r w h => ?_))
    obtain ⟨hr, h⟩ := h.purP; rw [hr]
    refine w_new h fun n4 w h => w_setAll h (by rfl) fun w h => w_deref (w_ld h rfl (w_call (mst_tri x v.md) h fun r w h => ?_))
    obtain ⟨hr, h⟩ := h.purP; rw [hr]
    refine w_new h fun n8 w h => w_setAll h (by rfl) fun w h => w_drw h fun w h => w_ld (x := v.md.win) h rfl (w_call (flightO_tri p pb pd ps x v hbl) h fun r w h => ?_)
    obtain ⟨hr, h⟩ := h.purP; rw [hr]
    refine w_chk h rfl ?_
    have h : Own w0 S R w (blk n8 (Ks.mk K_i2u6b2 (mSt v.md)) ^ blk p (sL v pb pd ps x.1) ^ blk pb (Ks.mk KBf v.bf) ^ brd pd v.bd ^ blk ps (Ks.mk KSp v.sp) ^ mdl x v.md) := h.fin
    refine w_join h (fun _ => blk n8 (Ks.mk K_i2u6b2 (mSt v.md)) ^ blk p (sL v pb pd ps x.1) ^ blk pb (Ks.mk KBf v.bf) ^ brd pd v.bd ^ blk ps (Ks.mk KSp v.sp) ^ mdl x v.md) (fun y : Bool => y = true ↔ (lostF v.bd.1).2 = false ∧ bW v.bf - bN v.bf = 0) (fun (y : Bool) w hy h => ?_) ?_
    rotate_left
    · refine w_ite (fun c => ?_) fun c => ?_
      · have c : (lostF v.bd.1).2 = false := by simpa using c
        refine w_deref (w_ld h rfl (w_call (bunsent_tri pb v.bf hv.bf) h fun r w h => ?_))
        obtain ⟨hr, h⟩ := h.purP; rw [hr]
        refine ⟨?_, h.fin⟩
        show (bW v.bf - bN v.bf == 0) = true ↔ _
        rw [beq_iff_eq]
        exact ⟨fun e => ⟨c, e⟩, fun e => e.2⟩
      · have c : (lostF v.bd.1).2 = true := by simpa using c
        exact ⟨⟨fun e => (by cases e), fun e => (by rw [c] at e; cases e.1)⟩, h⟩
    · refine w_ite (fun c => ?_) fun c => ?_
      · have c := hy.1 c
        have e : mayS v = (7, if skFl v < v.md.win then { v with sp := limitP v.sp (skFl v) } else v) := by unfold mayS; rw [if_pos c]
        rw [e]
        refine w_ite (fun c2 => ?_) fun c2 => ?_
        · have c2 : skFl v < v.md.win := of_decide_eq_true c2
          rw [if_pos c2]
          refine w_drw h fun w h => w_deref (w_ld h rfl (w_call (flightO_tri p pb pd ps x v hbl) h fun r w h => ?_))
          obtain ⟨hr, h⟩ := h.purP; rw [hr]
          refine w_chk h rfl (w_call (limit_tri ps v.sp hv.sp (skFl v) hv.fl) h fun _ w h => ?_)
          exact Own.retP rfl (h.mkSck p pb pd ps x { v with sp := limitP v.sp (skFl v) }).keep
        · have c2 : ¬ skFl v < v.md.win := of_decide_eq_false c2
          rw [if_neg c2]
          exact Own.retP rfl (h.mkSck p pb pd ps x v).keep
      · have c1 : ¬ ((lostF v.bd.1).2 = false ∧ bW v.bf - bN v.bf = 0) := fun e => by have := hy.2 e; rw [c] at this; cases this
        refine w_join h (fun _ => blk n8 (Ks.mk K_i2u6b2 (mSt v.md)) ^ blk p (sL v pb pd ps x.1) ^ blk pb (Ks.mk KBf v.bf) ^ brd pd v.bd ^ blk ps (Ks.mk KSp v.sp) ^ mdl x v.md) (fun y : Bool => y = true ↔ ¬ (skFl v < v.md.win ∧ v.out < belowF v.md.rate (skTso v) v.cap)) (fun (y : Bool) w hy h => ?_) ?_
        · refine w_ite (fun c => ?_) fun c => ?_
          · have e : mayS v = (5, v) := by unfold mayS; rw [if_neg c1, if_pos (hy.1 c)]
            rw [e]
            exact Own.retP rfl (h.mkSck p pb pd ps x v).keep
          · have c2 : ¬ ¬ (skFl v < v.md.win ∧ v.out < belowF v.md.rate (skTso v) v.cap) := fun e => by have := hy.2 e; rw [c] at this; cases this
            refine w_ite (fun c3 => ?_) fun c3 => ?_
            · have c3 : (lostF v.bd.1).2 = false := by simpa using c3
              refine w_deref (w_ld h rfl (w_call (blen_tri pd v.bd) h fun r w h => ?_))
              obtain ⟨hr, h⟩ := h.purP; rw [hr]
              refine w_ite (fun c4 => ?_) fun c4 => ?_
              · have c4 : (v.bd.1.length : Int) ≥ 4096 := of_decide_eq_true c4
                have e : mayS v = (5, v) := by unfold mayS; rw [if_neg c1, if_neg c2, if_pos ⟨c3, c4⟩]
                rw [e]
                exact Own.retP rfl (h.mkSck p pb pd ps x v).keep
              · have c4 : ¬ (v.bd.1.length : Int) ≥ 4096 := of_decide_eq_false c4
                have e : mayS v = (0, v) := by unfold mayS; rw [if_neg c1, if_neg c2, if_neg (fun e => c4 e.2)]
                rw [e]
                exact Own.retP rfl (h.mkSck p pb pd ps x v).keep
            · have c3 : (lostF v.bd.1).2 = true := by simpa using c3
              have e : mayS v = (0, v) := by unfold mayS; rw [if_neg c1, if_neg c2, if_neg (fun e => by rw [c3] at e; cases e.1)]
              rw [e]
              exact Own.retP rfl (h.mkSck p pb pd ps x v).keep
        · refine w_drw h fun w h => w_ite (fun c => ?_) fun c => ?_
          · have c : ¬ skFl v < v.md.win := by simpa using c
            exact ⟨⟨fun _ e => c e.1, fun _ => rfl⟩, h⟩
          · have c : skFl v < v.md.win := by simpa using c
            refine w_deref (w_ld (x := v.md.rate) h rfl (w_deref (w_ld h rfl (w_ld h rfl (w_call (tsoO_tri p pb pd ps x v hv.md) h fun r w h => ?_)))))
            obtain ⟨hr, h⟩ := h.purP; rw [hr]
            refine w_chk h rfl (w_chk h rfl (w_chk h rfl (w_call (below_tri v.md.rate (skTso v) v.cap hv.md.rate ⟨by unfold skTso; omega, hts.2⟩ hv.cap) h fun r w h => ?_)))
            obtain ⟨hr, h⟩ := h.purP; rw [hr]
            refine w_chk h rfl (w_call (SockB.may_tri v.out (belowF v.md.rate (skTso v) v.cap)) h fun r w h => ?_)
            obtain ⟨hr, h⟩ := h.purP; rw [hr]
            refine ⟨?_, h.fin⟩
            show (!decide (v.out < belowF v.md.rate (skTso v) v.cap)) = true ↔ _
            simp [c]
end SockD

namespace SockE
open Arith ArithC Delays Board BbrM BbrMm SockA SockB SockM SockC SockD
abbrev KS : Ks := [.int .i64, .int .u64, .int .i64, .int .u64, .bool]
abbrev zS : List Lf := [.int .i64 0, .int .u64 0, .int .i64 0, .int .u64 0, .bool false]
/-- What comes at an emission's end: the segment, the next stamp, what is below. -/
def finE (p n1 n14 : Nat) (o : Int) (ag : Bool) (R : Rs.T [.agg KS, .lf (.int .i64)] → WP) : WP :=
  drw <|
  deref (some ⟨p, 0⟩) fun q27 =>
  ld [.int .u64] ⟨n14, 0⟩ fun (x28 : Int) =>
  ld [.int .u64] ⟨n14, 1⟩ fun (x29 : Int) =>
  ld [.int .u64] ⟨n14, 0⟩ fun (x30 : Int) =>
  deref (some ⟨p, 0⟩) fun q31 =>
  ld [.int .i64] q27 fun (x32 : Int) =>
  ld [.int .u64] ⟨q31.b, q31.o + 8⟩ fun (x33 : Int) =>
  new [.int .i64 (0:Int), .int .u64 (0:Int), .int .i64 (0:Int), .int .u64 (0:Int), .bool false] fun n34 =>
  chk ⟨q31.b, q31.o + 8⟩ (Ks.mk [.int .u64] x33) <|
  chk q27 (Ks.mk [.int .i64] x32) <|
  chk ⟨n14, 0⟩ (Ks.mk [.int .u64] x30) <|
  chk ⟨n14, 1⟩ (Ks.mk [.int .u64] x29) <|
  chk ⟨n14, 0⟩ (Ks.mk [.int .u64] x28) <|
  st ⟨n34, 0⟩ [.int .i64 x32, .int .u64 x28, .int .i64 (IntKind.i64.wrap (IntKind.u64.wrap (x29 - x30))), .int .u64 (if x33 > o then x33 else o), .bool ag] <|
  drw <|
  ld [.int .u64] ⟨n34, 3⟩ fun (x35 : Int) =>
  ld [.int .i64] ⟨n34, 2⟩ fun (x36 : Int) =>
  deref (some ⟨p, 0⟩) fun q37 =>
  ld [.ptr] ⟨q37.b, q37.o + 6⟩ fun (x38 : Option Pt) =>
  call Tryz.prog N_bbr_Model_State [.lf (.ptr x38)] [.agg K_i2u6b2] fun (r39 : T_i2u6b2) =>
  chk ⟨n34, 2⟩ (Ks.mk [.int .i64] x36) <|
  chk ⟨n34, 3⟩ (Ks.mk [.int .u64] x35) <|
  call Tryz.prog N_delay_Of [.lf (.int .i64 x36), .lf (.int .u64 r39.2.2.1)] [.lf (.int .u64)] fun (r40 : Int) =>
  chk ⟨n34, 3⟩ (Ks.mk [.int .u64] x35) <|
  call Tryz.prog N_sat_Add [.lf (.int .u64 x35), .lf (.int .u64 r40)] [.lf (.int .u64)] fun (r41 : Int) =>
  deref (some ⟨p, 0⟩) fun q42 =>
  st ⟨q42.b, q42.o + 8⟩ [.int .u64 r41] <|
  drw <|
  deref (some ⟨p, 0⟩) fun q43 =>
  ld [.int .i64] ⟨n34, 2⟩ fun (x44 : Int) =>
  ld [.int .u64] ⟨q43.b, q43.o + 7⟩ fun (x45 : Int) =>
  deref (some ⟨p, 0⟩) fun q46 =>
  st ⟨q46.b, q46.o + 7⟩ [.int .u64 (IntKind.u64.wrap (x45 + (IntKind.u64.wrap x44)))] <|
  ld KS ⟨n34, 0⟩ fun (x47 : Ks.T KS) =>
  st ⟨n1, 0⟩ (Ks.mk KS x47) <|
  ld KS ⟨n1, 0⟩ fun (x48 : Ks.T KS) =>
  R (x48, (0:Int))
theorem w_fin {w0 w : World} {S0 R0 : Nat → Prop} {G : SP} {R : Rs.T [.agg KS, .lf (.int .i64)] → WP} {p n1 n14 pb pd ps : Nat} {x : N7} {v : Sk} {now a b : Int} {ag : Bool} (hm : OkM v.md) (hn : U now) (hnx : U v.nx) (hab : 0 ≤ b - a ∧ b - a ≤ 65536) (ho : 0 ≤ v.out ∧ v.out + 65536 < 18446744073709551616)
    (h : Own w0 S0 R0 w (blk n1 zS ^ blk n14 [.int .u64 a, .int .u64 b] ^ (blk p (sL v pb pd ps x.1) ^ blk pb (Ks.mk KBf v.bf) ^ brd pd v.bd ^ blk ps (Ks.mk KSp v.sp) ^ mdl x v.md) ^ G))
    (k : ∀ w', Own w0 S0 R0 w' (sck p (putS v (a, b) ag now).2 ^ G) → R ((putS v (a, b) ag now).1, 0) w') : finE p n1 n14 now ag R w := by
  unfold finE
  have e1 : IntKind.u64.wrap (b - a) = b - a := wu (by omega) (by omega)
  have e2 : IntKind.i64.wrap (b - a) = b - a := wi (by omega) (by omega)
  have hst : U (if v.nx > now then v.nx else now) := by split; exact hnx; exact hn
  have hD : U (delayI (b - a) v.md.rate) := U_delay (by omega) hm.rate
  refine w_drw h fun w h => w_deref (w_ld h rfl (w_ld h rfl (w_ld h rfl (w_deref (w_ld h rfl (w_ld h rfl (w_new h fun n34 w h => ?_)))))))
  refine w_chk h rfl (w_chk h rfl (w_chk h rfl (w_chk h rfl (w_chk h rfl ?_))))
  rw [e1, e2]
  refine w_setAll h (by rfl) fun w h => w_drw h fun w h => w_ld h rfl (w_ld h rfl (w_deref (w_ld h rfl (w_call (mst_tri x v.md) h fun r w h => ?_))))
  obtain ⟨hr, h⟩ := h.purP; rw [hr]
  refine w_chk h rfl (w_chk h rfl (w_call (delay_tri (b - a) v.md.rate (by omega) hm.rate) h fun r w h => ?_))
  obtain ⟨hr, h⟩ := h.purP; rw [hr]
  refine w_chk h rfl (w_call (satadd_tri _ _ hst hD) h fun r w h => ?_)
  obtain ⟨hr, h⟩ := h.purP; rw [hr]
  refine w_deref (w_setTo h p (sL { v with nx := addI (if v.nx > now then v.nx else now) (delayI (b - a) v.md.rate) } pb pd ps x.1) rfl rfl rfl fun w h => ?_)
  have e3 : IntKind.u64.wrap (v.out + IntKind.u64.wrap (b - a)) = v.out + (b - a) := by rw [e1]; exact wu (by omega) (by omega)
  refine w_drw h fun w h => w_deref (w_ld h rfl (w_ld (x := v.out) h rfl (w_deref ?_)))
  rw [e3]
  refine w_setTo h p (sL { v with nx := addI (if v.nx > now then v.nx else now) (delayI (b - a) v.md.rate), out := v.out + (b - a) } pb pd ps x.1) rfl rfl rfl fun w h => ?_
  refine w_ldAll (b := n34) (x := (putS v (a, b) ag now).1) h rfl (w_setAll h (by rfl) fun w h => w_ldAll (b := n1) (x := (putS v (a, b) ag now).1) h rfl ?_)
  have h2 : Own w0 S0 R0 w (sck p { v with nx := addI (if v.nx > now then v.nx else now) (delayI (b - a) v.md.rate), out := v.out + (b - a) } ^ G) := (h.mkSck p pb pd ps x { v with nx := addI (if v.nx > now then v.nx else now) (delayI (b - a) v.md.rate), out := v.out + (b - a) }).fin
  exact k w h2
end SockE


end Go.X
