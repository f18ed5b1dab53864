/- Contracts and plain facts: SockH SockI. -/
import Derived.Test.YtkideobegadadaaGreatBArith
import Derived.Test.YtkideobegadadaaGreatBWf
import Derived.Test.YtkideobegadadaaGreatBSockB
import Derived.Test.YtkideobegadadaaGreatXw
import Derived.Test.YtkideobegadadaaGreatK
import Derived.Test.YtkideobegadadaaGreatF0
import Derived.Test.YtkideobegadadaaGreatF1
set_option linter.unusedVariables false
set_option linter.unusedSimpArgs false
set_option linter.unusedSectionVars false
namespace Go.X
open Go.Proofs
namespace SockH
open Arith ArithC SockA SockB
/-! ### The sampler told of what arrived, and its sample taken -/
def akc (s : Sp) (sn : Sn) : Bool := !pH s || decide (sn.2.1 ≥ pPd s)
def akdP (s : Sp) (now n : Int) (sn : Sn) : Sp :=
  if akc s sn then (addI (pD s) n, now, sn.1, (if addI (pD s) n > pL s then 0 else pL s), true, addI (pG s) n, sn.2.1, sn.2.2.1, sn.2.2.2.2, subI sn.1 sn.2.2.2.1, subI now sn.1)
  else (addI (pD s) n, now, pF s, (if addI (pD s) n > pL s then 0 else pL s), true, addI (pG s) n, pPd s, pPt s, pPl s, pSi s, pAi s)
structure OkSn (s : Sn) : Prop where
  a : U s.1
  b : U s.2.1
  c : U s.2.2.1
  d : U s.2.2.2.1
theorem acked_tri (p : Nat) (s : Sp) (hs : OkSp s) (now n : Int) (hn : U now) (hU : U n) (sn : Sn) (hsn : OkSn sn) : Tri Tryz.prog N_sampler_Sampler_Acked [.lf (.ptr (some ⟨p, 0⟩)), .lf (.int .u64 now), .lf (.int .u64 n), .agg (Ks.mk KSn sn)] [] (blk p (Ks.mk KSp s)) (fun _ => blk p (Ks.mk KSp (akdP s now n sn))) :=
  tri_0 (call_sampler_Sampler_Acked (some ⟨p, 0⟩) now n sn) fun w0 S R h => by
    unfold W_sampler_Sampler_Acked
    refine w_new h fun n1 w h => w_ite (fun c => (by simp at c)) fun _ => ?_
    refine w_deref (w_ld h rfl (w_call (satadd_tri (pD s) n hs.d hU) h fun r w h => ?_))
    obtain ⟨hr, h⟩ := h.purP; rw [hr]
    obtain ⟨l2, hl2⟩ : ∃ l2, l2 = if addI (pD s) n > pL s then 0 else pL s := ⟨_, rfl⟩
    refine w_deref (w_setTo h p (Ks.mk KSp (addI (pD s) n, pT s, pF s, pL s, pH s, pG s, pPd s, pPt s, pPl s, pSi s, pAi s)) rfl rfl rfl fun w h => ?_)
    refine w_deref (w_setTo h p (Ks.mk KSp (addI (pD s) n, now, pF s, pL s, pH s, pG s, pPd s, pPt s, pPl s, pSi s, pAi s)) rfl rfl rfl fun w h => ?_)
    refine w_join h (fun _ => blk n1 (Ks.mk KSn sn) ^ blk p (Ks.mk KSp (addI (pD s) n, now, pF s, l2, pH s, pG s, pPd s, pPt s, pPl s, pSi s, pAi s))) (fun _ => True) (fun _ w _ h => ?_) ?_
    rotate_left
    · refine w_drw h fun w h => w_deref (w_deref (w_ld h rfl (w_ld h rfl (w_ite (fun c => ?_) fun c => ?_))))
      · have c : addI (pD s) n > pL s := of_decide_eq_true c
        rw [if_pos c] at hl2
        rw [hl2]
        refine w_deref (w_setTo h p (Ks.mk KSp (addI (pD s) n, now, pF s, 0, pH s, pG s, pPd s, pPt s, pPl s, pSi s, pAi s)) rfl rfl rfl fun w h => ?_)
        exact ⟨trivial, h.fin⟩
      · have c : ¬ addI (pD s) n > pL s := of_decide_eq_false c
        rw [if_neg c] at hl2
        rw [hl2]
        exact ⟨trivial, h.fin⟩
    · refine w_deref (w_ld h rfl (w_call (satadd_tri (pG s) n hs.g hU) h fun r w h => ?_))
      obtain ⟨hr, h⟩ := h.purP; rw [hr]
      refine w_deref (w_setTo h p (Ks.mk KSp (addI (pD s) n, now, pF s, l2, pH s, addI (pG s) n, pPd s, pPt s, pPl s, pSi s, pAi s)) rfl rfl rfl fun w h => ?_)
      obtain ⟨e, he⟩ : ∃ e : Sp, e = akdP s now n sn := ⟨_, rfl⟩
      refine w_join h (fun _ => blk n1 (Ks.mk KSn sn) ^ blk p (Ks.mk KSp (pD e, pT e, pF e, pL e, pH s, pG e, pPd e, pPt e, pPl e, pSi e, pAi e))) (fun _ => True) (fun _ w _ h => ?_) ?_
      · refine w_deref (w_setTo h p (Ks.mk KSp (pD e, pT e, pF e, pL e, true, pG e, pPd e, pPt e, pPl e, pSi e, pAi e)) rfl rfl rfl fun w h => ?_)
        have e2 : akdP s now n sn = (pD e, pT e, pF e, pL e, true, pG e, pPd e, pPt e, pPl e, pSi e, pAi e) := by rw [he]; unfold akdP; split <;> rfl
        rw [e2]
        exact h.fin
      · refine w_join h (fun _ => blk n1 (Ks.mk KSn sn) ^ blk p (Ks.mk KSp (addI (pD s) n, now, pF s, l2, pH s, addI (pG s) n, pPd s, pPt s, pPl s, pSi s, pAi s))) (fun y : Bool => y = akc s sn) (fun (y : Bool) w hy h => ?_) ?_
        · rw [hy]
          refine w_ite (fun c => ?_) fun c => ?_
          · have e2 : e = (addI (pD s) n, now, sn.1, l2, true, addI (pG s) n, sn.2.1, sn.2.2.1, sn.2.2.2.2, subI sn.1 sn.2.2.2.1, subI now sn.1) := by rw [he, hl2]; unfold akdP; rw [if_pos c]
            rw [e2]
            refine w_drw h fun w h => w_ld h rfl (w_ld h rfl (w_ld h rfl ?_))
            refine w_deref (w_setTo h p (Ks.mk KSp (addI (pD s) n, now, pF s, l2, pH s, addI (pG s) n, sn.2.1, pPt s, pPl s, pSi s, pAi s)) rfl rfl rfl fun w h => ?_)
            refine w_chk h rfl (w_chk h rfl ?_)
            refine w_deref (w_setTo h p (Ks.mk KSp (addI (pD s) n, now, pF s, l2, pH s, addI (pG s) n, sn.2.1, sn.2.2.1, pPl s, pSi s, pAi s)) rfl rfl rfl fun w h => ?_)
            refine w_chk h rfl ?_
            refine w_deref (w_setTo h p (Ks.mk KSp (addI (pD s) n, now, pF s, l2, pH s, addI (pG s) n, sn.2.1, sn.2.2.1, sn.2.2.2.2, pSi s, pAi s)) rfl rfl rfl fun w h => ?_)
            refine w_drw h fun w h => w_ld h rfl (w_ld h rfl (w_ld h rfl (w_call (satsub_tri sn.1 sn.2.2.2.1 hsn.a hsn.d) h fun r w h => ?_)))
            obtain ⟨hr, h⟩ := h.purP; rw [hr]
            refine w_chk h rfl (w_call (satsub_tri now sn.1 hn hsn.a) h fun r w h => ?_)
            obtain ⟨hr, h⟩ := h.purP; rw [hr]
            refine w_deref (w_setTo h p (Ks.mk KSp (addI (pD s) n, now, pF s, l2, pH s, addI (pG s) n, sn.2.1, sn.2.2.1, sn.2.2.2.2, subI sn.1 sn.2.2.2.1, pAi s)) rfl rfl rfl fun w h => ?_)
            refine w_deref (w_setTo h p (Ks.mk KSp (addI (pD s) n, now, pF s, l2, pH s, addI (pG s) n, sn.2.1, sn.2.2.1, sn.2.2.2.2, subI sn.1 sn.2.2.2.1, subI now sn.1)) rfl rfl rfl fun w h => ?_)
            refine w_ld h rfl ?_
            refine w_deref (w_setTo h p (Ks.mk KSp (addI (pD s) n, now, sn.1, l2, pH s, addI (pG s) n, sn.2.1, sn.2.2.1, sn.2.2.2.2, subI sn.1 sn.2.2.2.1, subI now sn.1)) rfl rfl rfl fun w h => ?_)
            exact ⟨trivial, h.fin⟩
          · have e2 : e = (addI (pD s) n, now, pF s, l2, true, addI (pG s) n, pPd s, pPt s, pPl s, pSi s, pAi s) := by rw [he, hl2]; unfold akdP; rw [if_neg (by rw [c]; intro c; cases c)]
            rw [e2]
            exact ⟨trivial, h.fin⟩
        · refine w_drw h fun w h => w_deref (w_ld h rfl (w_ite (fun c => ?_) fun c => ?_))
          · have c : pH s = false := by simpa using c
            exact ⟨by unfold akc; rw [c]; rfl, h.fin⟩
          · have c : pH s = true := by simpa using c
            refine w_ld h rfl (w_deref (w_ld h rfl ?_))
            exact ⟨by unfold akc; rw [c]; rfl, h.fin⟩
end SockH

namespace SockI
open Arith ArithC SockA SockB SockH
abbrev zSa : List Lf := [.int .u64 0, .int .u64 0, .int .u64 0, .int .u64 0, .int .u64 0, .int .u64 0, .int .u64 0, .int .u64 0, .bool false]
theorem take_tri (p : Nat) (s : Sp) (hs : OkSp s) (now lost flight : Int) (hn : U now) : Tri Tryz.prog N_sampler_Sampler_Take [.lf (.ptr (some ⟨p, 0⟩)), .lf (.int .u64 now), .lf (.int .u64 lost), .lf (.int .u64 flight)] [.agg KSa] (blk p (Ks.mk KSp s)) (fun r => pur (r = (takeP s now lost flight).1) (blk p (Ks.mk KSp (takeP s now lost flight).2))) :=
  tri_0 (call_sampler_Sampler_Take (some ⟨p, 0⟩) now lost flight) fun w0 S R h => by
    unfold W_sampler_Sampler_Take
    refine w_new h fun n1 w h => w_ite (fun c => (by simp at c)) fun _ => w_deref (w_ld (x := pD s) h rfl (w_new h fun n5 w h => w_setAll h (by rfl) fun w h => ?_))
    obtain ⟨e, he⟩ : ∃ e, e = (takeP s now lost flight).1 := ⟨_, rfl⟩
    refine w_join h (fun _ => blk n1 zSa ^ blk p (Ks.mk KSp s) ^ blk n5 (Ks.mk KSa e)) (fun _ => True) (fun _ w _ h => ?_) ?_
    · refine w_deref (w_setTo h p (Ks.mk KSp (pD s, pT s, pF s, pL s, false, 0, 0, 0, false, 0, 0)) rfl rfl rfl fun w h => w_ldAll (b := n5) (x := e) h rfl (w_setAll h (by rfl) fun w h => w_ldAll (b := n1) (x := e) h rfl ?_))
      rw [← he, show (takeP s now lost flight).2 = (pD s, pT s, pF s, pL s, false, 0, 0, 0, false, 0, 0) from rfl]
      have h : Own w0 S R w (blk p (Ks.mk KSp (pD s, pT s, pF s, pL s, false, 0, 0, 0, false, 0, 0)) ^ blk n5 (Ks.mk KSa e)) := h.fin
      exact Own.retP rfl h.keep
    · refine w_deref (w_ld (x := (pH s, pG s, pPd s, pPt s, pPl s, pSi s, pAi s)) h rfl (w_new h fun n10 w h => w_setAll h (by rfl) fun w h => w_ld (x := pH s) h rfl (w_ite (fun c => ?_) fun c => ?_)))
      · have e2 : e = (now, pD s, pPd s, longI (pSi s) (subI now (pPt s)), pAi s, pG s, lost, flight, pPl s) := by rw [he]; unfold takeP; rw [if_pos c]
        refine w_drw h fun w h => w_ld (x := pG s) h rfl (w_ld (x := pPd s) h rfl (w_ld (x := pPl s) h rfl (w_ld (x := pAi s) h rfl ?_)))
        refine w_setTo h n5 (Ks.mk KSa (now, pD s, 0, 0, 0, pG s, lost, flight, false)) rfl rfl rfl fun w h => ?_
        refine w_chk h rfl (w_chk h rfl (w_chk h rfl ?_))
        refine w_setTo h n5 (Ks.mk KSa (now, pD s, pPd s, 0, 0, pG s, lost, flight, false)) rfl rfl rfl fun w h => ?_
        refine w_chk h rfl (w_chk h rfl ?_)
        refine w_setTo h n5 (Ks.mk KSa (now, pD s, pPd s, 0, 0, pG s, lost, flight, pPl s)) rfl rfl rfl fun w h => ?_
        refine w_chk h rfl ?_
        refine w_setTo h n5 (Ks.mk KSa (now, pD s, pPd s, 0, pAi s, pG s, lost, flight, pPl s)) rfl rfl rfl fun w h => ?_
        refine w_drw h fun w h => w_ld (x := pSi s) h rfl (w_ld (x := pPt s) h rfl (w_call (satsub_tri now (pPt s) hn hs.pt) h fun r w h => ?_))
        obtain ⟨hr, h⟩ := h.purP; rw [hr]
        refine w_chk h rfl (w_new h fun n19 w h => ?_)
        have h := h.blkArr n19 KU [pSi s, subI now (pPt s)] rfl (by simp)
        have h : Own _ _ _ _ (arr ⟨some ⟨n19, 0⟩, 2, 2⟩ KU [pSi s, subI now (pPt s)] ^ _) := h
        refine w_callL (A := emp) (Q := rarr ⟨some ⟨n19, 0⟩, 2, 2⟩ KU [pSi s, subI now (pPt s)]) (longest_tri ⟨some ⟨n19, 0⟩, 2, 2⟩ (pSi s) (subI now (pPt s))) h fun r w h => ?_
        obtain ⟨hr, h⟩ := h.purP; rw [hr]
        rw [e2]
        refine w_setTo h n5 (Ks.mk KSa (now, pD s, pPd s, longI (pSi s) (subI now (pPt s)), pAi s, pG s, lost, flight, pPl s)) rfl rfl rfl fun w h => ?_
        exact ⟨trivial, h.fin⟩
      · have e2 : e = (now, pD s, 0, 0, 0, 0, lost, flight, false) := by rw [he]; unfold takeP; rw [if_neg (by rw [c]; intro c; cases c)]
        rw [e2]
        have h : Own w0 S R w (blk n1 zSa ^ blk p (Ks.mk KSp s) ^ blk n5 [.int .u64 now, .int .u64 (pD s), .int .u64 0, .int .u64 0, .int .u64 0, .int .u64 0, .int .u64 lost, .int .u64 flight, .bool false]) := h.fin
        exact ⟨trivial, h⟩
end SockI


end Go.X
