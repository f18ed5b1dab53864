/- Contracts and plain facts: SockI SockJ. -/
import Derived.Test.YtkideobegadadaaBArith
import Derived.Test.YtkideobegadadaaBDelays
import Derived.Test.YtkideobegadadaaBSockA
import Derived.Test.YtkideobegadadaaBSockM
import Derived.Test.YtkideobegadadaaBSockH
import Derived.Test.YtkideobegadadaaBTarget
import Derived.Test.YtkideobegadadaaBBbrMm
import Derived.Test.YtkideobegadadaaBBbrW
import Derived.Test.YtkideobegadadaaBBbrL
import Derived.Test.YtkideobegadadaaBBbrO
import Derived.Test.YtkideobegadadaaBSockD
import Derived.Test.YtkideobegadadaaBSockF
import Derived.Test.YtkideobegadadaaXw
import Derived.Test.YtkideobegadadaaK
import Derived.Test.YtkideobegadadaaF0
import Derived.Test.YtkideobegadadaaF1
set_option linter.unusedVariables false
set_option linter.unusedSimpArgs false
set_option linter.unusedSectionVars false
namespace Go.X
open Go.Proofs
namespace SockI
open Arith ArithC SockA SockB SockH
abbrev zSa : List Lf := [.int .u64 0, .int .u64 0, .int .u64 0, .int .u64 0, .int .u64 0, .int .u64 0, .int .u64 0, .int .u64 0, .bool false]
theorem take_tri (p : Nat) (s : Sp) (hs : OkSp s) (now lost flight : Int) (hn : U now) : Tri Try.prog N_sampler_Sampler_Take [.lf (.ptr (some ⟨p, 0⟩)), .lf (.int .u64 now), .lf (.int .u64 lost), .lf (.int .u64 flight)] [.agg KSa] (blk p (Ks.mk KSp s)) (fun r => pur (r = (takeP s now lost flight).1) (blk p (Ks.mk KSp (takeP s now lost flight).2))) :=
  tri_0 (call_sampler_Sampler_Take (some ⟨p, 0⟩) now lost flight) fun w0 S R h => by
    unfold W_sampler_Sampler_Take
    refine w_new h fun n1 w h => w_ite (fun c => (by simp at c)) fun _ => w_deref (w_ld (x := pD s) h rfl (w_new h fun n5 w h => w_setAll h (by rfl) fun w h => ?_))
    obtain ⟨e, he⟩ : ∃ e, e = (takeP s now lost flight).1 := ⟨_, rfl⟩
    refine w_join h (fun _ => blk n1 zSa ^ blk p (Ks.mk KSp s) ^ blk n5 (Ks.mk KSa e)) (fun _ => True) (fun _ w _ h => ?_) ?_
    · refine w_deref (w_setTo h p (Ks.mk KSp (pD s, pT s, pF s, pL s, false, 0, 0, 0, false, 0, 0)) rfl rfl rfl fun w h => w_ldAll (b := n5) (x := e) h rfl (w_setAll h (by rfl) fun w h => w_ldAll (b := n1) (x := e) h rfl ?_))
      rw [← he, show (takeP s now lost flight).2 = (pD s, pT s, pF s, pL s, false, 0, 0, 0, false, 0, 0) from rfl]
      have h : Own w0 S R w (blk p (Ks.mk KSp (pD s, pT s, pF s, pL s, false, 0, 0, 0, false, 0, 0)) ^ blk n5 (Ks.mk KSa e)) := h.fin
      exact Own.retP rfl h.keep
    · refine w_deref (w_ld (x := (pH s, pG s, pPd s, pPt s, pPl s, pSi s, pAi s)) h rfl (w_new h fun n10 w h => w_setAll h (by rfl) fun w h => w_ld (x := pH s) h rfl (w_ite (fun c => ?_) fun c => ?_)))
      · have e2 : e = (now, pD s, pPd s, longI (pSi s) (subI now (pPt s)), pAi s, pG s, lost, flight, pPl s) := by rw [he]; unfold takeP; rw [if_pos c]
        refine w_drw h fun w h => w_ld (x := pG s) h rfl (w_ld (x := pPd s) h rfl (w_ld (x := pPl s) h rfl (w_ld (x := pAi s) h rfl ?_)))
        refine w_setTo h n5 (Ks.mk KSa (now, pD s, 0, 0, 0, pG s, lost, flight, false)) rfl rfl rfl fun w h => ?_
        refine w_chk h rfl (w_chk h rfl (w_chk h rfl ?_))
        refine w_setTo h n5 (Ks.mk KSa (now, pD s, pPd s, 0, 0, pG s, lost, flight, false)) rfl rfl rfl fun w h => ?_
        refine w_chk h rfl (w_chk h rfl ?_)
        refine w_setTo h n5 (Ks.mk KSa (now, pD s, pPd s, 0, 0, pG s, lost, flight, pPl s)) rfl rfl rfl fun w h => ?_
        refine w_chk h rfl ?_
        refine w_setTo h n5 (Ks.mk KSa (now, pD s, pPd s, 0, pAi s, pG s, lost, flight, pPl s)) rfl rfl rfl fun w h => ?_
        refine w_drw h fun w h => w_ld (x := pSi s) h rfl (w_ld (x := pPt s) h rfl (w_call (satsub_tri now (pPt s) hn hs.pt) h fun r w h => ?_))
        obtain ⟨hr, h⟩ := h.purP; rw [hr]
        refine w_chk h rfl (w_new h fun n19 w h => ?_)
        have h := h.blkArr n19 KU [pSi s, subI now (pPt s)] rfl (by simp)
        have h : Own _ _ _ _ (arr ⟨some ⟨n19, 0⟩, 2, 2⟩ KU [pSi s, subI now (pPt s)] ^ _) := h
        refine w_callL (A := emp) (Q := rarr ⟨some ⟨n19, 0⟩, 2, 2⟩ KU [pSi s, subI now (pPt s)]) (longest_tri ⟨some ⟨n19, 0⟩, 2, 2⟩ (pSi s) (subI now (pPt s))) h fun r w h => ?_
        obtain ⟨hr, h⟩ := h.purP; rw [hr]
        rw [e2]
        refine w_setTo h n5 (Ks.mk KSa (now, pD s, pPd s, longI (pSi s) (subI now (pPt s)), pAi s, pG s, lost, flight, pPl s)) rfl rfl rfl fun w h => ?_
        exact ⟨trivial, h.fin⟩
      · have e2 : e = (now, pD s, 0, 0, 0, 0, lost, flight, false) := by rw [he]; unfold takeP; rw [if_neg (by rw [c]; intro c; cases c)]
        rw [e2]
        have h : Own w0 S R w (blk n1 zSa ^ blk p (Ks.mk KSp s) ^ blk n5 [.int .u64 now, .int .u64 (pD s), .int .u64 0, .int .u64 0, .int .u64 0, .int .u64 0, .int .u64 lost, .int .u64 flight, .bool false]) := h.fin
        exact ⟨trivial, h⟩
end SockI

namespace SockJ
open Arith ArithC Delays Board BbrM BbrMm SockA SockB SockM SockC SockD SockE SockF SockG SockH SockI
theorem take_ok {s : Sp} (hs : OkSp s) {now lost flight : Int} (hn : U now) (hl : U lost) (hf : U flight) : OkS (takeP s now lost flight).1 := by
  have h1 := U_sub hn hs.pt
  have h2 := hs.si
  have h3 : U (longI (pSi s) (subI now (pPt s))) := by
    unfold longI
    repeat' split
    all_goals first | exact h1 | exact h2 | exact U_lit 0
  unfold takeP
  split
  · exact ⟨hn, hs.d, hs.pd, h3, hs.ai, hs.g, hl, hf⟩
  · exact ⟨hn, hs.d, U_lit 0, U_lit 0, U_lit 0, U_lit 0, hl, hf⟩
theorem learn_tri (p : Nat) (v : Sk) (hv : OkSk v) (now lost : Int) (hn : U now) (hl : U lost) : Tri Try.prog N_sock_Sock_learn [.lf (.ptr (some ⟨p, 0⟩)), .lf (.int .u64 now), .lf (.int .u64 lost)] [] (sck p v) (fun _ => sck p (learnS v now lost)) :=
  tri_0 (call_sock_Sock_learn (some ⟨p, 0⟩) now lost) fun w0 S R h => by
    unfold W_sock_Sock_learn
    have hbl : v.bd.1.length ≤ 4294967296 := by have := hv.bl; omega
    have hts := tso_r v.md.rate v.mss hv.md.rate.1
    have ew : IntKind.u64.wrap (skTso v) = skTso v := wu (by unfold skTso; omega) (by unfold skTso; omega)
    obtain ⟨pb, pd, ps, x, h⟩ := (h.le (star_emp _)).sck p
    refine w_drw h fun w h => w_deref (w_deref (w_ld h rfl (w_ld h rfl (w_call (flightO_tri p pb pd ps x v hbl) h fun r w h => ?_))))
    obtain ⟨hr, h⟩ := h.purP; rw [hr]
    refine w_chk h rfl (w_chk h rfl (w_call (take_tri ps v.sp hv.sp now lost (skFl v) hn) h fun r w h => ?_))
    obtain ⟨hr, h⟩ := h.purP; rw [hr]
    refine w_chk h rfl (w_call (tsoO_tri p pb pd ps x v hv.md) h fun r w h => ?_)
    obtain ⟨hr, h⟩ := h.purP; rw [hr]
    refine w_chk h rfl ?_
    rw [ew]
    refine w_call (mupd_tri x v.md hv.md (takeP v.sp now lost (skFl v)).1 (take_ok hv.sp hn hl hv.fl) (skTso v) ⟨by unfold skTso; omega, by unfold skTso; omega⟩) h fun r w h => ?_
    obtain ⟨hr, h⟩ := h.purP
    rw [show learnS v now lost = { v with sp := (takeP v.sp now lost (skFl v)).2, md := mUpd v.md (takeP v.sp now lost (skFl v)).1 (skTso v) } from rfl]
    exact (h.mkSck p pb pd ps x { v with sp := (takeP v.sp now lost (skFl v)).2, md := mUpd v.md (takeP v.sp now lost (skFl v)).1 (skTso v) }).keep
theorem OkSk.lose {v : Sk} (hv : OkSk v) : OkSk { v with bd := (v.bd.1.map loseP, v.bd.2) } :=
  { hv with bl := (by show (v.bd.1.map loseP).length ≤ 4096; rw [List.length_map]; exact hv.bl), fl := (by show U (flightF (v.bd.1.map loseP)); rw [lose_none]; exact U_lit 0) }
theorem slose_tri (p : Nat) (v : Sk) (hv : OkSk v) (now : Int) (hn : U now) : Tri Try.prog N_sock_Sock_Lose [.lf (.ptr (some ⟨p, 0⟩)), .lf (.int .u64 now)] [.lf (.int .i64)] (sck p v) (fun r => pur (r = 0) (sck p (loseS v now))) :=
  tri_0 (call_sock_Sock_Lose (some ⟨p, 0⟩) now) fun w0 S R h => by
    unfold W_sock_Sock_Lose
    have hbl : v.bd.1.length ≤ 4294967296 := by have := hv.bl; omega
    refine w_ite (fun c => (by simp at c)) fun _ => ?_
    obtain ⟨pb, pd, ps, x, h⟩ := (h.le (star_emp _)).sck p
    refine w_deref (w_ld h rfl (w_call (Board.lose_tri pd v.bd hbl) h fun r w h => ?_))
    obtain ⟨hr, h⟩ := h.purP; rw [hr]
    have h : Own w0 S R w (sck p { v with bd := (v.bd.1.map loseP, v.bd.2) } ^ emp) := (h.mkSck p pb pd ps x { v with bd := (v.bd.1.map loseP, v.bd.2) }).fin
    refine w_call (learn_tri p { v with bd := (v.bd.1.map loseP, v.bd.2) } (OkSk.lose hv) now (flightF v.bd.1) hn hv.fl) h fun _ w h => ?_
    exact Own.retP rfl h.keep
end SockJ


end Go.X
