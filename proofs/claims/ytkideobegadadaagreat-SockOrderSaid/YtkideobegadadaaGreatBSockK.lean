/- Contracts and plain facts: SockJ SockK. -/
import Derived.Test.YtkideobegadadaaGreatBArith
import Derived.Test.YtkideobegadadaaGreatBWf
import Derived.Test.YtkideobegadadaaGreatBDelays
import Derived.Test.YtkideobegadadaaGreatBTarget
import Derived.Test.YtkideobegadadaaGreatBBbrMm
import Derived.Test.YtkideobegadadaaGreatBBbrP
import Derived.Test.YtkideobegadadaaGreatBBbrQ
import Derived.Test.YtkideobegadadaaGreatBBbrN
import Derived.Test.YtkideobegadadaaGreatBBbrU
import Derived.Test.YtkideobegadadaaGreatBSockB
import Derived.Test.YtkideobegadadaaGreatBSockC
import Derived.Test.YtkideobegadadaaGreatBSockE
import Derived.Test.YtkideobegadadaaGreatBSockG
import Derived.Test.YtkideobegadadaaGreatBSockI
import Derived.Test.YtkideobegadadaaGreatXw
import Derived.Test.YtkideobegadadaaGreatK
import Derived.Test.YtkideobegadadaaGreatF0
import Derived.Test.YtkideobegadadaaGreatF1
set_option linter.unusedVariables false
set_option linter.unusedSimpArgs false
set_option linter.unusedSectionVars false
namespace Go.X
open Go.Proofs
namespace SockJ
open Arith ArithC Delays Board BbrM BbrMm SockA SockB SockM SockC SockD SockE SockF SockG SockH SockI
theorem take_ok {s : Sp} (hs : OkSp s) {now lost flight : Int} (hn : U now) (hl : U lost) (hf : U flight) : OkS (takeP s now lost flight).1 := by
  have h1 := U_sub hn hs.pt
  have h2 := hs.si
  have h3 : U (longI (pSi s) (subI now (pPt s))) := by
    unfold longI
    repeat' split
    all_goals first | exact h1 | exact h2 | exact U_lit 0
  unfold takeP
  split
  · exact ⟨hn, hs.d, hs.pd, h3, hs.ai, hs.g, hl, hf⟩
  · exact ⟨hn, hs.d, U_lit 0, U_lit 0, U_lit 0, U_lit 0, hl, hf⟩
theorem learn_tri (p : Nat) (v : Sk) (hv : OkSk v) (now lost : Int) (hn : U now) (hl : U lost) : Tri Tryz.prog N_sock_Sock_learn [.lf (.ptr (some ⟨p, 0⟩)), .lf (.int .u64 now), .lf (.int .u64 lost)] [] (sck p v) (fun _ => sck p (learnS v now lost)) :=
  tri_0 (call_sock_Sock_learn (some ⟨p, 0⟩) now lost) fun w0 S R h => by
    unfold W_sock_Sock_learn
    have hbl : v.bd.1.length ≤ 4294967296 := by have := hv.bl; omega
    have hts := tso_r v.md.rate v.mss hv.md.rate.1
    have ew : IntKind.u64.wrap (skTso v) = skTso v := wu (by unfold skTso; omega) (by unfold skTso; omega)
    obtain ⟨pb, pd, ps, x, h⟩ := (h.le (star_emp _)).sck p
    refine w_drw h fun w h => w_deref (w_deref (w_ld h rfl (w_ld h rfl (w_call (flightO_tri p pb pd ps x v hbl) h fun r w h => ?_))))
    obtain ⟨hr, h⟩ := h.purP; rw [hr]
    refine w_chk h rfl (w_chk h rfl (w_call (take_tri ps v.sp hv.sp now lost (skFl v) hn) h fun r w h => ?_))
    obtain ⟨hr, h⟩ := h.purP; rw [hr]
    refine w_chk h rfl (w_call (tsoO_tri p pb pd ps x v hv.md) h fun r w h => ?_)
    obtain ⟨hr, h⟩ := h.purP; rw [hr]
    refine w_chk h rfl ?_
    rw [ew]
    refine w_call (mupd_tri x v.md hv.md (takeP v.sp now lost (skFl v)).1 (take_ok hv.sp hn hl hv.fl) (skTso v) ⟨by unfold skTso; omega, by unfold skTso; omega⟩) h fun r w h => ?_
    obtain ⟨hr, h⟩ := h.purP
    rw [show learnS v now lost = { v with sp := (takeP v.sp now lost (skFl v)).2, md := mUpd v.md (takeP v.sp now lost (skFl v)).1 (skTso v) } from rfl]
    exact (h.mkSck p pb pd ps x { v with sp := (takeP v.sp now lost (skFl v)).2, md := mUpd v.md (takeP v.sp now lost (skFl v)).1 (skTso v) }).keep
theorem OkSk.lose {v : Sk} (hv : OkSk v) : OkSk { v with bd := (v.bd.1.map loseP, v.bd.2) } :=
  { hv with bl := (by show (v.bd.1.map loseP).length ≤ 4096; rw [List.length_map]; exact hv.bl), fl := (by show U (flightF (v.bd.1.map loseP)); rw [lose_none]; exact U_lit 0) }
theorem slose_tri (p : Nat) (v : Sk) (hv : OkSk v) (now : Int) (hn : U now) : Tri Tryz.prog N_sock_Sock_Lose [.lf (.ptr (some ⟨p, 0⟩)), .lf (.int .u64 now)] [.lf (.int .i64)] (sck p v) (fun r => pur (r = 0) (sck p (loseS v now))) :=
  tri_0 (call_sock_Sock_Lose (some ⟨p, 0⟩) now) fun w0 S R h => by
    unfold W_sock_Sock_Lose
    have hbl : v.bd.1.length ≤ 4294967296 := by have := hv.bl; omega
    refine w_ite (fun c => (by simp at c)) fun _ => ?_
    obtain ⟨pb, pd, ps, x, h⟩ := (h.le (star_emp _)).sck p
    refine w_deref (w_ld h rfl (w_call (Board.lose_tri pd v.bd hbl) h fun r w h => ?_))
    obtain ⟨hr, h⟩ := h.purP; rw [hr]
    have h : Own w0 S R w (sck p { v with bd := (v.bd.1.map loseP, v.bd.2) } ^ emp) := (h.mkSck p pb pd ps x { v with bd := (v.bd.1.map loseP, v.bd.2) }).fin
    refine w_call (learn_tri p { v with bd := (v.bd.1.map loseP, v.bd.2) } (OkSk.lose hv) now (flightF v.bd.1) hn hv.fl) h fun _ w h => ?_
    exact Own.retP rfl h.keep
end SockJ

namespace SockK
open Arith ArithC Delays Board BbrM BbrMm SockA SockB SockM SockC SockD SockE SockF SockG SockH SockI SockJ
abbrev KCf : Ks := [.int .i64, .int .i64, .int .i64, .int .i64, .int .u64, .int .u64, .bool, .int .i64, .int .i64]
theorem snew_tri (id : Int) (c : Ks.T KCf) : Tri Tryz.prog N_sock_New [.lf (.int .i64 id), .agg (Ks.mk KCf c)] [.lf .ptr] emp (fun r => ex fun p : Nat => pur (r = some ⟨p, 0⟩) (sck p (newS id c.2.2.2.2.2.2.2.2 c.2.2.2.2.2.2.2.1))) :=
  tri_0 (call_sock_New id c) fun w0 S R h => by
    unfold W_sock_New
    obtain ⟨m, hm⟩ : ∃ m, m = clampM c.2.2.2.2.2.2.2.2 := ⟨_, rfl⟩
    refine w_new h fun n1 w h => w_ld (x := c.2.2.2.2.2.2.2.2) h rfl (w_drw h fun w h => w_ld (x := c.2.2.2.2.2.2.2.1) h rfl (w_call (SockA.bnew_tri 1073741824) h fun r w h => ?_))
    obtain ⟨pb, h⟩ := h.exP
    obtain ⟨hr, h⟩ := h.purP; rw [hr]
    have h : Own w0 S R w (blk pb (Ks.mk KBf (0, 0, 0, 1073741824)) ^ _) := h
    refine w_chk h rfl (w_call Board.new_tri h fun r w h => ?_)
    obtain ⟨pd, h⟩ := h.exP
    obtain ⟨hr, h⟩ := h.purP; rw [hr]
    refine w_chk h rfl (w_call SockB.new_tri h fun r w h => ?_)
    obtain ⟨ps, h⟩ := h.exP
    obtain ⟨hr, h⟩ := h.purP; rw [hr]
    have hr2 : 100 ≤ clampM c.2.2.2.2.2.2.2.2 ∧ clampM c.2.2.2.2.2.2.2.2 ≤ 9000 := by
      unfold clampM
      repeat' split
      all_goals omega
    have ew : IntKind.u64.wrap (if (9000:Int) < (if (100:Int) > c.2.2.2.2.2.2.2.2 then (100:Int) else c.2.2.2.2.2.2.2.2) then (9000:Int) else (if (100:Int) > c.2.2.2.2.2.2.2.2 then (100:Int) else c.2.2.2.2.2.2.2.2)) = clampM c.2.2.2.2.2.2.2.2 := wu (by unfold clampM at hr2; omega) (by unfold clampM at hr2; omega)
    refine w_chk h rfl ?_
    rw [ew]
    refine w_call (mnew_tri (clampM c.2.2.2.2.2.2.2.2)) h fun r w h => ?_
    obtain ⟨x, h⟩ := h.exP
    obtain ⟨hr, h⟩ := h.purP; rw [hr]
    refine w_chk h rfl (w_new h fun n8 w h => ?_)
    have h : Own w0 S R w (blk n8 [.int .i64 id, .int .i64 (clampM c.2.2.2.2.2.2.2.2), .int .i64 c.2.2.2.2.2.2.2.1, .ptr (some ⟨pb, 0⟩), .ptr (some ⟨pd, 0⟩), .ptr (some ⟨ps, 0⟩), .ptr (some ⟨x.1, 0⟩), .int .u64 0, .int .u64 0] ^ _) := h
    rw [show newS id c.2.2.2.2.2.2.2.2 c.2.2.2.2.2.2.2.1 = ⟨id, clampM c.2.2.2.2.2.2.2.2, c.2.2.2.2.2.2.2.1, (0, 0, 0, 1073741824), ([], 0), sp0, mNew (clampM c.2.2.2.2.2.2.2.2), 0, 0⟩ from rfl]
    exact Own.retE n8 (Own.retP rfl (h.mkSck n8 pb pd ps x ⟨id, clampM c.2.2.2.2.2.2.2.2, c.2.2.2.2.2.2.2.1, (0, 0, 0, 1073741824), ([], 0), sp0, mNew (clampM c.2.2.2.2.2.2.2.2), 0, 0⟩).keep)
end SockK


end Go.X
