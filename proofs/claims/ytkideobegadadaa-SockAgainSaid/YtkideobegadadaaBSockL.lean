/- Contracts and plain facts: SockK SockL. -/
import Derived.Test.YtkideobegadadaaBArith
import Derived.Test.YtkideobegadadaaBDelays
import Derived.Test.YtkideobegadadaaBTarget
import Derived.Test.YtkideobegadadaaBBbrMm
import Derived.Test.YtkideobegadadaaBBbrW
import Derived.Test.YtkideobegadadaaBBbrL
import Derived.Test.YtkideobegadadaaBBbrO
import Derived.Test.YtkideobegadadaaBSockA
import Derived.Test.YtkideobegadadaaBSockM
import Derived.Test.YtkideobegadadaaBSockD
import Derived.Test.YtkideobegadadaaBSockF
import Derived.Test.YtkideobegadadaaBSockH
import Derived.Test.YtkideobegadadaaBSockJ
import Derived.Test.YtkideobegadadaaXw
import Derived.Test.YtkideobegadadaaK
import Derived.Test.YtkideobegadadaaF0
import Derived.Test.YtkideobegadadaaF1
set_option linter.unusedVariables false
set_option linter.unusedSimpArgs false
set_option linter.unusedSectionVars false
namespace Go.X
open Go.Proofs
namespace SockK
open Arith ArithC Delays Board BbrM BbrMm SockA SockB SockM SockC SockD SockE SockF SockG SockH SockI SockJ
abbrev KCf : Ks := [.int .i64, .int .i64, .int .i64, .int .i64, .int .u64, .int .u64, .bool, .int .i64, .int .i64]
theorem snew_tri (id : Int) (c : Ks.T KCf) : Tri Try.prog N_sock_New [.lf (.int .i64 id), .agg (Ks.mk KCf c)] [.lf .ptr] emp (fun r => ex fun p : Nat => pur (r = some ⟨p, 0⟩) (sck p (newS id c.2.2.2.2.2.2.2.2 c.2.2.2.2.2.2.2.1))) :=
  tri_0 (call_sock_New id c) fun w0 S R h => by
    unfold W_sock_New
    obtain ⟨m, hm⟩ : ∃ m, m = clampM c.2.2.2.2.2.2.2.2 := ⟨_, rfl⟩
    refine w_new h fun n1 w h => w_ld (x := c.2.2.2.2.2.2.2.2) h rfl (w_drw h fun w h => w_ld (x := c.2.2.2.2.2.2.2.1) h rfl (w_call (SockA.bnew_tri 1073741824) h fun r w h => ?_))
    obtain ⟨pb, h⟩ := h.exP
    obtain ⟨hr, h⟩ := h.purP; rw [hr]
    have h : Own w0 S R w (blk pb (Ks.mk KBf (0, 0, 0, 1073741824)) ^ _) := h
    refine w_chk h rfl (w_call Board.new_tri h fun r w h => ?_)
    obtain ⟨pd, h⟩ := h.exP
    obtain ⟨hr, h⟩ := h.purP; rw [hr]
    refine w_chk h rfl (w_call SockB.new_tri h fun r w h => ?_)
    obtain ⟨ps, h⟩ := h.exP
    obtain ⟨hr, h⟩ := h.purP; rw [hr]
    have hr2 : 100 ≤ clampM c.2.2.2.2.2.2.2.2 ∧ clampM c.2.2.2.2.2.2.2.2 ≤ 9000 := by
      unfold clampM
      repeat' split
      all_goals omega
    have ew : IntKind.u64.wrap (if (9000:Int) < (if (100:Int) > c.2.2.2.2.2.2.2.2 then (100:Int) else c.2.2.2.2.2.2.2.2) then (9000:Int) else (if (100:Int) > c.2.2.2.2.2.2.2.2 then (100:Int) else c.2.2.2.2.2.2.2.2)) = clampM c.2.2.2.2.2.2.2.2 := wu (by unfold clampM at hr2; omega) (by unfold clampM at hr2; omega)
    refine w_chk h rfl ?_
    rw [ew]
    refine w_call (mnew_tri (clampM c.2.2.2.2.2.2.2.2)) h fun r w h => ?_
    obtain ⟨x, h⟩ := h.exP
    obtain ⟨hr, h⟩ := h.purP; rw [hr]
    refine w_chk h rfl (w_new h fun n8 w h => ?_)
    have h : Own w0 S R w (blk n8 [.int .i64 id, .int .i64 (clampM c.2.2.2.2.2.2.2.2), .int .i64 c.2.2.2.2.2.2.2.1, .ptr (some ⟨pb, 0⟩), .ptr (some ⟨pd, 0⟩), .ptr (some ⟨ps, 0⟩), .ptr (some ⟨x.1, 0⟩), .int .u64 0, .int .u64 0] ^ _) := h
    rw [show newS id c.2.2.2.2.2.2.2.2 c.2.2.2.2.2.2.2.1 = ⟨id, clampM c.2.2.2.2.2.2.2.2, c.2.2.2.2.2.2.2.1, (0, 0, 0, 1073741824), ([], 0), sp0, mNew (clampM c.2.2.2.2.2.2.2.2), 0, 0⟩ from rfl]
    exact Own.retE n8 (Own.retP rfl (h.mkSck n8 pb pd ps x ⟨id, clampM c.2.2.2.2.2.2.2.2, c.2.2.2.2.2.2.2.1, (0, 0, 0, 1073741824), ([], 0), sp0, mNew (clampM c.2.2.2.2.2.2.2.2), 0, 0⟩).keep)
end SockK

namespace SockL
open Arith ArithC Delays Board BbrM BbrMm SockA SockB SockM SockC SockD SockE SockF SockG SockH SockI SockJ
abbrev snP (q : Pc) : Snt := (q.2.2.1, q.2.2.2.1, q.2.2.2.2.1, q.2.2.2.2.2.1, q.2.2.2.2.2.2.1)
abbrev stepP (now : Int) (s : Sp) (q : Pc) : Sp := akdP s now (IntKind.u64.wrap (q.2.1 - q.1)) (snP q)
def akdL (now : Int) (s : Sp) (l : List Pc) : Sp := l.foldl (stepP now) s
def OkPs (l : List Pc) : Prop := ∀ q ∈ l, OkSn (snP q)
theorem fl_U (l : List Pc) : U (flightF l) := by
  have h : ∀ (l : List Pc) (n : Int), U n → U (l.foldl addF n) := by
    intro l
    induction l with
    | nil => intro n h; exact h
    | cons p l ih => intro n h; exact ih _ (by unfold addF; split; exact U_wrap _; exact h)
  exact h l 0 (U_lit 0)
theorem pass_U : ∀ l : List Pc, U (passF l).2.1
  | [] => U_lit 0
  | p :: l => by
    show U (if hitF p (passF l).2.2 then IntKind.u64.wrap ((passF l).2.1 + IntKind.u64.wrap (p.2.1 - p.1)) else (passF l).2.1)
    split
    · exact U_wrap _
    · exact pass_U l
theorem step_ok {s : Sp} (hs : OkSp s) {now : Int} (hn : U now) {q : Pc} (hq : OkSn (snP q)) : OkSp (stepP now s q) := by
  have h1 := U_add hs.d (U_wrap (q.2.1 - q.1))
  have h2 := U_add hs.g (U_wrap (q.2.1 - q.1))
  have h3 : U (if addI (pD s) (IntKind.u64.wrap (q.2.1 - q.1)) > pL s then 0 else pL s) := by
    split
    · exact U_lit 0
    · exact hs.l
  unfold stepP akdP
  split
  · exact ⟨h1, hn, hq.a, h3, h2, hq.b, hq.c, U_sub hq.a hq.d, U_sub hn hq.a⟩
  · exact ⟨h1, hn, hs.f, h3, h2, hs.pd, hs.pt, hs.si, hs.ai⟩
abbrev brdA (v : Sk) (upto : Int) (xs : List (Int × Int)) : List Pc × Int := ((passF (restL upto xs v.bd.1)).1, v.bd.2)
def toldS (v : Sk) (now upto : Int) (xs : List (Int × Int)) : Sk := { v with bd := brdA v upto xs, bf := (akF v.bf upto).2, sp := akdL now v.sp (toldL upto xs v.bd.1) }
def ackS (v : Sk) (now upto : Int) (xs : List (Int × Int)) : Int × Sk := if mayF v.bd upto xs then (0, learnS (toldS v now upto xs) now (passF (restL upto xs v.bd.1)).2.1) else (11, v)
theorem akdL_ok {now : Int} (hn : U now) : ∀ (l : List Pc) (s : Sp), OkSp s → OkPs l → OkSp (akdL now s l)
  | [], _, hs, _ => hs
  | q :: l, s, hs, hl => akdL_ok hn l (stepP now s q) (step_ok hs hn (hl q (List.mem_cons_self ..))) (fun r hr => hl r (List.mem_cons_of_mem _ hr))
theorem told_ok {l : List Pc} {upto : Int} {xs : List (Int × Int)} (h : OkPs l) : OkPs (toldL upto xs l) := fun q hq => h q (List.mem_filter.1 hq).1
theorem toldS_ok {v : Sk} (hv : OkSk v) (hp : OkPs v.bd.1) {now : Int} (hn : U now) (upto : Int) (xs : List (Int × Int)) : OkSk (toldS v now upto xs) :=
  { hv with
    bf := OkBf.ak hv.bf upto
    bl := (by
      show (passF (restL upto xs v.bd.1)).1.length ≤ 4096
      rw [pass_len]
      have := restL_len upto xs v.bd.1 v.bd.1.length
      rw [List.take_length] at this
      exact Nat.le_trans this hv.bl)
    sp := akdL_ok hn _ _ hv.sp (told_ok hp)
    fl := fl_U _ }
end SockL


end Go.X
