/- Contracts and plain facts: SockJ SockK. -/
import Derived.Test.YtkideobegadadaaBArith
import Derived.Test.YtkideobegadadaaBDelays
import Derived.Test.YtkideobegadadaaBTarget
import Derived.Test.YtkideobegadadaaBBbrMm
import Derived.Test.YtkideobegadadaaBBbrQ
import Derived.Test.YtkideobegadadaaBSockA
import Derived.Test.YtkideobegadadaaBSockM
import Derived.Test.YtkideobegadadaaBSockD
import Derived.Test.YtkideobegadadaaBSockF
import Derived.Test.YtkideobegadadaaBSockH
import Derived.Test.YtkideobegadadaaXw
import Derived.Test.YtkideobegadadaaK
import Derived.Test.YtkideobegadadaaF0
set_option linter.unusedVariables false
set_option linter.unusedSimpArgs false
set_option linter.unusedSectionVars false
namespace Go.X
open Go.Proofs
namespace SockJ
open Arith ArithC Delays Board BbrM BbrMm SockA SockB SockM SockC SockD SockE SockF SockG SockH
theorem take_ok {s : Sp} (hs : OkSp s) {now lost flight : Int} (hn : U now) (hl : U lost) (hf : U flight) : OkS (takeP s now lost flight).1 := by
  have h1 := U_sub hn hs.pt
  have h2 := hs.si
  have h3 : U (longI (pSi s) (subI now (pPt s))) := by
    unfold longI
    repeat' split
    all_goals first | exact h1 | exact h2 | exact U_lit 0
  unfold takeP
  split
  · exact ⟨hn, hs.d, hs.pd, h3, hs.ai, hs.g, hl, hf⟩
  · exact ⟨hn, hs.d, U_lit 0, U_lit 0, U_lit 0, U_lit 0, hl, hf⟩
end SockJ

namespace SockK
open Arith ArithC Delays Board BbrM BbrMm SockA SockB SockM SockC SockD SockE SockF SockG SockH SockJ
abbrev KCf : Ks := [.int .i64, .int .i64, .int .i64, .int .i64, .int .u64, .int .u64, .bool, .int .i64, .int .i64]
theorem snew_tri (id : Int) (c : Ks.T KCf) : Tri Try.prog N_sock_New [.lf (.int .i64 id), .agg (Ks.mk KCf c)] [.lf .ptr] emp (fun r => ex fun p : Nat => pur (r = some ⟨p, 0⟩) (sck p (newS id c.2.2.2.2.2.2.2.2 c.2.2.2.2.2.2.2.1))) :=
  tri_0 (call_sock_New id c) fun w0 S R h => by
    unfold W_sock_New
    obtain ⟨m, hm⟩ : ∃ m, m = clampM c.2.2.2.2.2.2.2.2 := ⟨_, rfl⟩
    refine w_new h fun n1 w h => w_ld (x := c.2.2.2.2.2.2.2.2) h rfl (w_drw h fun w h => w_ld (x := c.2.2.2.2.2.2.2.1) h rfl (w_call (SockA.bnew_tri 1073741824) h fun r w h => ?_))
    obtain ⟨pb, h⟩ := h.exP
    obtain ⟨hr, h⟩ := h.purP; rw [hr]
    have h : Own w0 S R w (blk pb (Ks.mk KBf (0, 0, 0, 1073741824)) ^ _) := h
    refine w_chk h rfl (w_call Board.new_tri h fun r w h => ?_)
    obtain ⟨pd, h⟩ := h.exP
    obtain ⟨hr, h⟩ := h.purP; rw [hr]
    refine w_chk h rfl (w_call SockB.new_tri h fun r w h => ?_)
    obtain ⟨ps, h⟩ := h.exP
    obtain ⟨hr, h⟩ := h.purP; rw [hr]
    have hr2 : 100 ≤ clampM c.2.2.2.2.2.2.2.2 ∧ clampM c.2.2.2.2.2.2.2.2 ≤ 9000 := by
      unfold clampM
      repeat' split
      all_goals omega
    have ew : IntKind.u64.wrap (if (9000:Int) < (if (100:Int) > c.2.2.2.2.2.2.2.2 then (100:Int) else c.2.2.2.2.2.2.2.2) then (9000:Int) else (if (100:Int) > c.2.2.2.2.2.2.2.2 then (100:Int) else c.2.2.2.2.2.2.2.2)) = clampM c.2.2.2.2.2.2.2.2 := wu (by unfold clampM at hr2; omega) (by unfold clampM at hr2; omega)
    refine w_chk h rfl ?_
    rw [ew]
    refine w_call (mnew_tri (clampM c.2.2.2.2.2.2.2.2)) h fun r w h => ?_
    obtain ⟨x, h⟩ := h.exP
    obtain ⟨hr, h⟩ := h.purP; rw [hr]
    refine w_chk h rfl (w_new h fun n8 w h => ?_)
    have h : Own w0 S R w (blk n8 [.int .i64 id, .int .i64 (clampM c.2.2.2.2.2.2.2.2), .int .i64 c.2.2.2.2.2.2.2.1, .ptr (some ⟨pb, 0⟩), .ptr (some ⟨pd, 0⟩), .ptr (some ⟨ps, 0⟩), .ptr (some ⟨x.1, 0⟩), .int .u64 0, .int .u64 0] ^ _) := h
    rw [show newS id c.2.2.2.2.2.2.2.2 c.2.2.2.2.2.2.2.1 = ⟨id, clampM c.2.2.2.2.2.2.2.2, c.2.2.2.2.2.2.2.1, (0, 0, 0, 1073741824), ([], 0), sp0, mNew (clampM c.2.2.2.2.2.2.2.2), 0, 0⟩ from rfl]
    exact Own.retE n8 (Own.retP rfl (h.mkSck n8 pb pd ps x ⟨id, clampM c.2.2.2.2.2.2.2.2, c.2.2.2.2.2.2.2.1, (0, 0, 0, 1073741824), ([], 0), sp0, mNew (clampM c.2.2.2.2.2.2.2.2), 0, 0⟩).keep)
end SockK


end Go.X
