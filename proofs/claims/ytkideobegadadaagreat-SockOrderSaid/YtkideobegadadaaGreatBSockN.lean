/- Contracts and plain facts: SockL SockN. -/
import Derived.Test.YtkideobegadadaaGreatBArith
import Derived.Test.YtkideobegadadaaGreatBWf
import Derived.Test.YtkideobegadadaaGreatBDelays
import Derived.Test.YtkideobegadadaaGreatBTarget
import Derived.Test.YtkideobegadadaaGreatBBbrMm
import Derived.Test.YtkideobegadadaaGreatBBbrP
import Derived.Test.YtkideobegadadaaGreatBBbrQ
import Derived.Test.YtkideobegadadaaGreatBBbrN
import Derived.Test.YtkideobegadadaaGreatBBbrU
import Derived.Test.YtkideobegadadaaGreatBSockB
import Derived.Test.YtkideobegadadaaGreatBSockC
import Derived.Test.YtkideobegadadaaGreatBSockE
import Derived.Test.YtkideobegadadaaGreatBSockG
import Derived.Test.YtkideobegadadaaGreatBSockI
import Derived.Test.YtkideobegadadaaGreatBSockK
import Derived.Test.YtkideobegadadaaGreatXw
import Derived.Test.YtkideobegadadaaGreatK
import Derived.Test.YtkideobegadadaaGreatF0
import Derived.Test.YtkideobegadadaaGreatF1
set_option linter.unusedVariables false
set_option linter.unusedSimpArgs false
set_option linter.unusedSectionVars false
namespace Go.X
open Go.Proofs
namespace SockL
open Arith ArithC Delays Board BbrM BbrMm SockA SockB SockM SockC SockD SockE SockF SockG SockH SockI SockJ
abbrev snP (q : Pc) : Snt := (q.2.2.1, q.2.2.2.1, q.2.2.2.2.1, q.2.2.2.2.2.1, q.2.2.2.2.2.2.1)
abbrev stepP (now : Int) (s : Sp) (q : Pc) : Sp := akdP s now (IntKind.u64.wrap (q.2.1 - q.1)) (snP q)
def akdL (now : Int) (s : Sp) (l : List Pc) : Sp := l.foldl (stepP now) s
def OkPs (l : List Pc) : Prop := ∀ q ∈ l, OkSn (snP q)
theorem fl_U (l : List Pc) : U (flightF l) := by
  have h : ∀ (l : List Pc) (n : Int), U n → U (l.foldl addF n) := by
    intro l
    induction l with
    | nil => intro n h; exact h
    | cons p l ih => intro n h; exact ih _ (by unfold addF; split; exact U_wrap _; exact h)
  exact h l 0 (U_lit 0)
theorem pass_U : ∀ l : List Pc, U (passF l).2.1
  | [] => U_lit 0
  | p :: l => by
    show U (if hitF p (passF l).2.2 then IntKind.u64.wrap ((passF l).2.1 + IntKind.u64.wrap (p.2.1 - p.1)) else (passF l).2.1)
    split
    · exact U_wrap _
    · exact pass_U l
theorem step_ok {s : Sp} (hs : OkSp s) {now : Int} (hn : U now) {q : Pc} (hq : OkSn (snP q)) : OkSp (stepP now s q) := by
  have h1 := U_add hs.d (U_wrap (q.2.1 - q.1))
  have h2 := U_add hs.g (U_wrap (q.2.1 - q.1))
  have h3 : U (if addI (pD s) (IntKind.u64.wrap (q.2.1 - q.1)) > pL s then 0 else pL s) := by
    split
    · exact U_lit 0
    · exact hs.l
  unfold stepP akdP
  split
  · exact ⟨h1, hn, hq.a, h3, h2, hq.b, hq.c, U_sub hq.a hq.d, U_sub hn hq.a⟩
  · exact ⟨h1, hn, hs.f, h3, h2, hs.pd, hs.pt, hs.si, hs.ai⟩
abbrev brdA (v : Sk) (upto : Int) (xs : List (Int × Int)) : List Pc × Int := ((passF (restL upto xs v.bd.1)).1, v.bd.2)
def toldS (v : Sk) (now upto : Int) (xs : List (Int × Int)) : Sk := { v with bd := brdA v upto xs, bf := (akF v.bf upto).2, sp := akdL now v.sp (toldL upto xs v.bd.1) }
def ackS (v : Sk) (now upto : Int) (xs : List (Int × Int)) : Int × Sk := if mayF v.bd upto xs then (0, learnS (toldS v now upto xs) now (passF (restL upto xs v.bd.1)).2.1) else (11, v)
theorem akdL_ok {now : Int} (hn : U now) : ∀ (l : List Pc) (s : Sp), OkSp s → OkPs l → OkSp (akdL now s l)
  | [], _, hs, _ => hs
  | q :: l, s, hs, hl => akdL_ok hn l (stepP now s q) (step_ok hs hn (hl q (List.mem_cons_self ..))) (fun r hr => hl r (List.mem_cons_of_mem _ hr))
theorem told_ok {l : List Pc} {upto : Int} {xs : List (Int × Int)} (h : OkPs l) : OkPs (toldL upto xs l) := fun q hq => h q (List.mem_filter.1 hq).1
theorem toldS_ok {v : Sk} (hv : OkSk v) (hp : OkPs v.bd.1) {now : Int} (hn : U now) (upto : Int) (xs : List (Int × Int)) : OkSk (toldS v now upto xs) :=
  { hv with
    bf := OkBf.ak hv.bf upto
    bl := (by
      show (passF (restL upto xs v.bd.1)).1.length ≤ 4096
      rw [pass_len]
      have := restL_len upto xs v.bd.1 v.bd.1.length
      rw [List.take_length] at this
      exact Nat.le_trans this hv.bl)
    sp := akdL_ok hn _ _ hv.sp (told_ok hp)
    fl := fl_U _ }
end SockL

namespace SockN
open Arith ArithC Delays Board BbrM BbrMm SockA SockB SockM SockC SockD SockE SockF SockG SockH SockI SockJ SockL
abbrev KR : Ks := [.int .u64, .int .u64]
theorem sack_tri (p : Nat) (v : Sk) (hv : OkSk v) (hp : OkPs v.bd.1) (now upto : Int) (hn : U now) (a : Sl) (xs : List (Ks.T KR)) (hx : xs.length ≤ 4294967296) : Tri Tryz.prog N_sock_Sock_Ack [.lf (.ptr (some ⟨p, 0⟩)), .lf (.int .u64 now), .lf (.int .u64 upto), .lf (.sl a)] [.lf (.int .i64)] (sck p v ^ rarr a KR xs) (fun r => pur (r = (ackS v now upto xs).1) (sck p (ackS v now upto xs).2)) :=
  tri_0 (call_sock_Sock_Ack (some ⟨p, 0⟩) now upto a) fun w0 S R h => by
    unfold W_sock_Sock_Ack
    have hbl := hv.bl
    refine w_ite (fun c => (by simp at c)) fun _ => ?_
    obtain ⟨pb, pd, ps, x, h⟩ := h.sck p
    cases hm : mayF v.bd upto xs with
    | false =>
      have e : ackS v now upto xs = (11, v) := by unfold ackS; rw [if_neg (by rw [hm]; intro c; cases c)]
      rw [e]
      refine w_deref (w_ld h rfl (w_callL (Q := rarr a KR xs) (ack_no2_tri pd v.bd upto a xs hx hm) h fun r w h => ?_))
      obtain ⟨⟨_, _, h3⟩, h⟩ := h.purP
      refine w_ite (fun _ => ?_) fun c => (by rw [h3] at c; cases c)
      rw [h3]
      have h : Own w0 S R w (sck p v ^ emp) := (h.mkSck p pb pd ps x v).fin
      exact Own.retP rfl h.keep
    | true =>
      have e : ackS v now upto xs = (0, learnS (toldS v now upto xs) now (passF (restL upto xs v.bd.1)).2.1) := by unfold ackS; rw [if_pos hm]
      rw [e]
      refine w_deref (w_ld h rfl (w_callL (Q := rarr a KR xs) (ack_tri pd v.bd upto a xs (by omega) hx hm) h fun r w h => ?_))
      obtain ⟨r1, r2, r3⟩ := r
      obtain ⟨⟨h2, h3⟩, h⟩ := h.purP
      dsimp only at h2 h3 h ⊢
      refine w_ite (fun c => (by rw [h3] at c; cases c)) fun _ => ?_
      refine w_deref (w_ld h rfl (w_call (backed_tri pb v.bf upto) h fun r w h => ?_))
      obtain ⟨_, h⟩ := h.purP
      have h : Own w0 S R w (arr r1 K_u6b3 (toldL upto xs v.bd.1) ^ (blk p (sL v pb pd ps x.1) ^ blk pb (Ks.mk KBf (akF v.bf upto).2) ^ brd pd (brdA v upto xs) ^ blk ps (Ks.mk KSp v.sp) ^ mdl x v.md) ^ emp) := h.fin
      refine w_loopE (fun (y : Sl) (g : List Pc × Sp) => arr y K_u6b3 g.1 ^ (blk p (sL v pb pd ps x.1) ^ blk pb (Ks.mk KBf (akF v.bf upto).2) ^ brd pd (brdA v upto xs) ^ blk ps (Ks.mk KSp g.2) ^ mdl x v.md) ^ emp) (fun _ g => OkSp g.2 ∧ OkPs g.1 ∧ akdL now g.2 g.1 = akdL now v.sp (toldL upto xs v.bd.1)) (fun _ g => g.1.length) (toldL upto xs v.bd.1, v.sp) h ⟨hv.sp, told_ok hp, rfl⟩ ?_
      rintro K (y : Sl) ⟨l, s⟩ w ⟨hs, hl, hE⟩ h k
      dsimp only at hs hl hE h ⊢
      have hy := (h.rd (s := y)).2
      have hcap := own_cap (s := y) (K := K_u6b3) (xs := l) h
      refine w_ite (fun c => ?_) fun c => ?_
      · have hl0 : l = [] := by
          have c : ((y.len : Nat) : Int) = 0 := by simpa using c
          cases l with
          | nil => rfl
          | cons q l => rw [hy] at c; simp at c; omega
        rw [hl0] at hE
        have h : Own w0 S R w (sck p (toldS v now upto xs) ^ emp) := by
          rw [show toldS v now upto xs = { v with bd := brdA v upto xs, bf := (akF v.bf upto).2, sp := s } by unfold toldS; rw [← hE]; rfl]
          exact (h.mkSck p pb pd ps x { v with bd := brdA v upto xs, bf := (akF v.bf upto).2, sp := s }).fin
        rw [h2]
        refine w_call (learn_tri p (toldS v now upto xs) (toldS_ok hv hp hn upto xs) now _ hn (pass_U _)) h fun _ w h => ?_
        exact Own.retP rfl h.keep
      · cases l with
        | nil => rw [hy] at c; cases c
        | cons q l =>
          have hlen : y.len = l.length + 1 := by rw [hy]; rfl
          refine w_idx (s := y) h (by decide) (by simp) (w_ldE h y 0 (y := q) rfl rfl (w_new h fun n12 w h => w_setAll h (by rfl) fun w h => ?_))
          refine w_slc (s := y) h 1 y.len y.cap rfl rfl rfl rfl (by omega) (by rw [hlen]; exact Nat.le_refl _) (by omega) (by omega) fun s13 _ _ h => ?_
          have ht : ((q :: l).take y.len).drop 1 = l := by rw [List.take_of_length_le (by rw [hlen]; exact Nat.le_refl _)]; rfl
          rw [ht] at h
          refine w_drw h fun w h => w_deref (w_ld (x := q.2.1) h rfl (w_ld (x := q.1) h rfl (w_ld (x := snP q) h rfl (w_ld h rfl ?_))))
          refine w_call (acked_tri ps s hs now (IntKind.u64.wrap (q.2.1 - q.1)) hn (U_wrap _) (snP q) (hl q (List.mem_cons_self ..))) h fun _ w h => ?_
          exact k s13 (l, stepP now s q) w ⟨step_ok hs hn (hl q (List.mem_cons_self ..)), fun z hz => hl z (List.mem_cons_of_mem _ hz), hE⟩ h.fin (Nat.lt_succ_self _)
end SockN


end Go.X
