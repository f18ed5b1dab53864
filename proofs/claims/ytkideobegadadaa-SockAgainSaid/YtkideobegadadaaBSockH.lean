/- Contracts and plain facts: SockG SockH. -/
import Derived.Test.YtkideobegadadaaBArith
import Derived.Test.YtkideobegadadaaBDelays
import Derived.Test.YtkideobegadadaaBTarget
import Derived.Test.YtkideobegadadaaBBbrMm
import Derived.Test.YtkideobegadadaaBBbrW
import Derived.Test.YtkideobegadadaaBBbrL
import Derived.Test.YtkideobegadadaaBBbrO
import Derived.Test.YtkideobegadadaaBSockA
import Derived.Test.YtkideobegadadaaBSockM
import Derived.Test.YtkideobegadadaaBSockD
import Derived.Test.YtkideobegadadaaBSockF
import Derived.Test.YtkideobegadadaaXw
import Derived.Test.YtkideobegadadaaK
import Derived.Test.YtkideobegadadaaF0
import Derived.Test.YtkideobegadadaaF1
set_option linter.unusedVariables false
set_option linter.unusedSimpArgs false
set_option linter.unusedSectionVars false
namespace Go.X
open Go.Proofs
namespace SockG
open Arith ArithC Delays Board BbrM BbrMm SockA SockB SockM SockC SockD SockE SockF
/-- Every piece on the board is short. -/
def OkL (l : List Pc) : Prop := (lostF l).2 = true → 0 ≤ (lostF l).1.2 - (lostF l).1.1 ∧ (lostF l).1.2 - (lostF l).1.1 ≤ 65536
theorem below_le (rate tso most : Int) (ht : tso ≤ 65536) (hm : most ≤ 1073741824) : belowF rate tso most ≤ 1073741824 := by
  unfold belowF longI
  split <;> split <;> omega
theorem may_out {v : Sk} (hc : v.cap ≤ 1073741824) (hr : 0 ≤ v.md.rate) (h : (mayS v).1 = 0) : v.out < 1073741824 ∧ (mayS v).2 = v := by
  have hb := below_le v.md.rate (skTso v) v.cap (tso_r v.md.rate v.mss hr).2 hc
  unfold mayS at h ⊢
  by_cases c1 : (lostF v.bd.1).2 = false ∧ bW v.bf - bN v.bf = 0
  · rw [if_pos c1] at h; cases h
  · rw [if_neg c1] at h ⊢
    by_cases c2 : ¬ (skFl v < v.md.win ∧ v.out < belowF v.md.rate (skTso v) v.cap)
    · rw [if_pos c2] at h; cases h
    · rw [if_neg c2] at h ⊢
      have c2 := Classical.not_not.1 c2
      refine ⟨by omega, ?_⟩
      split <;> rfl
theorem emit_tri (p : Nat) (v : Sk) (hv : OkSk v) (hL : OkL v.bd.1) (now : Int) (hn : U now) : Tri Try.prog N_sock_Sock_Emit [.lf (.ptr (some ⟨p, 0⟩)), .lf (.int .u64 now)] [.agg KS, .lf (.int .i64)] (sck p v) (fun r => pur (r = (emitS v now).1) (sck p (emitS v now).2)) :=
  tri_0 (call_sock_Sock_Emit (some ⟨p, 0⟩) now) fun w0 S R h => by
    unfold W_sock_Sock_Emit
    have hbl : v.bd.1.length ≤ 4294967296 := by have := hv.bl; omega
    refine w_new h fun n1 w h => w_ite (fun c => (by simp at c)) fun _ => w_call (SockD.may_tri p v hv) h fun r w h => ?_
    obtain ⟨hr, h⟩ := h.purP; rw [hr]
    refine w_ite (fun c => ?_) fun c => ?_
    · have c : (mayS v).1 ≠ 0 := by simpa using c
      have e : emitS v now = ((noS, (mayS v).1), (mayS v).2) := by unfold emitS; rw [if_pos c]
      rw [e]
      refine w_setAll h (by rfl) fun w h => w_ldAll (b := n1) (x := noS) h rfl ?_
      have h : Own w0 S R w (sck p (mayS v).2 ^ blk n1 zS) := h.fin
      exact Own.retP rfl h.keep
    · have c : (mayS v).1 = 0 := by simpa using c
      have e : emitS v now = (((goS v now).1, 0), (goS v now).2) := by unfold emitS; rw [if_neg (by rw [c]; exact fun e => e rfl)]
      obtain ⟨ho, e2⟩ := may_out hv.cap.2 hv.md.rate.1 c
      rw [e2] at h
      rw [e, goS_agS]
      have ho2 : 0 ≤ v.out ∧ v.out + 65536 < 18446744073709551616 := ⟨hv.out.1, by omega⟩
      have t1 : ∀ {w : World} {n9 pb pd ps : Nat} {x : N7}, Own w0 S R w (blk n1 zS ^ blk n9 (Ks.mk K_u4b (sentP v.sp now (skFl v)).1) ^ (blk p (sL v pb pd ps x.1) ^ blk pb (Ks.mk KBf v.bf) ^ brd pd v.bd ^ blk ps (Ks.mk KSp (sentP v.sp now (skFl v)).2) ^ mdl x v.md) ^ emp) → agnE p n1 n9 now (fun r w => Own w0 S R w (pur (r = ((agS (touchS v now) (sentP v.sp now (skFl v)).1 now).1, 0)) (sck p (agS (touchS v now) (sentP v.sp now (skFl v)).1 now).2))) w := by
        intro w n9 pb pd ps x h
        exact w_agn (G := emp) (v := touchS v now) (pb := pb) (pd := pd) (ps := ps) (x := x) (sn := (sentP v.sp now (skFl v)).1) hv.bf hbl hv.md hn hv.nx hL ho2 h (fun w h => Own.retP rfl h.keep)
      obtain ⟨pb, pd, ps, x, h⟩ := (h.le (star_emp _)).sck p
      refine w_drw h fun w h => w_deref (w_ld h rfl (w_both ?_ ?_))
      · refine w_call (flightO_tri p pb pd ps x v hbl) h fun r w h => ?_
        obtain ⟨hr, h⟩ := h.purP; rw [hr]
        refine w_chk h rfl (w_both ?_ ?_)
        · refine w_call (SockB.sent_tri ps v.sp now (skFl v)) h fun r w h => ?_
          obtain ⟨hr, h⟩ := h.purP; rw [hr]
          refine w_new h fun n9 w h => w_chk h rfl (w_setAll h (by rfl) fun w h => ?_)
          exact t1 (pb := pb) (pd := pd) (ps := ps) (x := x) h.fin
        · refine w_new h fun n9 w h => w_chk h rfl (w_call (SockB.sent_tri ps v.sp now (skFl v)) h fun r w h => ?_)
          obtain ⟨hr, h⟩ := h.purP; rw [hr]
          refine w_setAll h (by rfl) fun w h => ?_
          exact t1 (pb := pb) (pd := pd) (ps := ps) (x := x) h.fin
      · refine w_new h fun n9 w h => w_chk h rfl (w_call (flightO_tri p pb pd ps x v hbl) h fun r w h => ?_)
        obtain ⟨hr, h⟩ := h.purP; rw [hr]
        refine w_chk h rfl (w_call (SockB.sent_tri ps v.sp now (skFl v)) h fun r w h => ?_)
        obtain ⟨hr, h⟩ := h.purP; rw [hr]
        refine w_setAll h (by rfl) fun w h => ?_
        exact t1 (pb := pb) (pd := pd) (ps := ps) (x := x) h.fin
end SockG

namespace SockH
open Arith ArithC SockA SockB
/-! ### The sampler told of what arrived, and its sample taken -/
def akc (s : Sp) (sn : Sn) : Bool := !pH s || decide (sn.2.1 ≥ pPd s)
def akdP (s : Sp) (now n : Int) (sn : Sn) : Sp :=
  if akc s sn then (addI (pD s) n, now, sn.1, (if addI (pD s) n > pL s then 0 else pL s), true, addI (pG s) n, sn.2.1, sn.2.2.1, sn.2.2.2.2, subI sn.1 sn.2.2.2.1, subI now sn.1)
  else (addI (pD s) n, now, pF s, (if addI (pD s) n > pL s then 0 else pL s), true, addI (pG s) n, pPd s, pPt s, pPl s, pSi s, pAi s)
structure OkSn (s : Sn) : Prop where
  a : U s.1
  b : U s.2.1
  c : U s.2.2.1
  d : U s.2.2.2.1
end SockH


end Go.X
