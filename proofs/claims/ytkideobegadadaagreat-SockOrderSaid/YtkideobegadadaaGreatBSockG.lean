/- Contracts and plain facts: SockF SockG. -/
import Derived.Test.YtkideobegadadaaGreatBArith
import Derived.Test.YtkideobegadadaaGreatBWf
import Derived.Test.YtkideobegadadaaGreatBDelays
import Derived.Test.YtkideobegadadaaGreatBTarget
import Derived.Test.YtkideobegadadaaGreatBBbrMm
import Derived.Test.YtkideobegadadaaGreatBBbrP
import Derived.Test.YtkideobegadadaaGreatBBbrQ
import Derived.Test.YtkideobegadadaaGreatBBbrN
import Derived.Test.YtkideobegadadaaGreatBBbrU
import Derived.Test.YtkideobegadadaaGreatBSockB
import Derived.Test.YtkideobegadadaaGreatBSockC
import Derived.Test.YtkideobegadadaaGreatBSockE
import Derived.Test.YtkideobegadadaaGreatXw
import Derived.Test.YtkideobegadadaaGreatK
import Derived.Test.YtkideobegadadaaGreatF0
import Derived.Test.YtkideobegadadaaGreatF1
set_option linter.unusedVariables false
set_option linter.unusedSimpArgs false
set_option linter.unusedSectionVars false
namespace Go.X
open Go.Proofs
namespace SockF
open Arith ArithC Delays Board BbrM BbrMm SockA SockB SockM SockC SockD SockE
abbrev KR : Ks := [.int .u64, .int .u64]
theorem w_both {A B : WP} {w : World} (h : A w) (k : B w) : both A B w := ⟨h, k⟩
/-- After Again: a new segment is cut where nothing was lost, and the end. -/
def sndE (p n1 n9 n14 : Nat) (o : Int) (ag : Bool) (R : Rs.T [.agg KS, .lf (.int .i64)] → WP) : WP :=
  join [] (fun J15 =>
  ite' (!ag) (
  drw <|
  deref (some ⟨p, 0⟩) fun q17 =>
  ld [.ptr] ⟨q17.b, q17.o + 3⟩ fun (x18 : Option Pt) =>
  call Tryz.prog N_sock_Sock_Tso [.lf (.ptr (some ⟨p, 0⟩))] [.lf (.int .i64)] fun (r19 : Int) =>
  chk ⟨q17.b, q17.o + 3⟩ (Ks.mk [.ptr] x18) <|
  call Tryz.prog N_buffer_Buffer_Take [.lf (.ptr x18), .lf (.int .i64 r19)] [.agg [.int .u64, .int .u64], .lf .bool] fun (r20 : (Int × Int) × Bool) =>
  st ⟨n14, 0⟩ (Ks.mk [.int .u64, .int .u64] r20.1) <|
  drw <|
  ld K_u4b ⟨n9, 0⟩ fun (x21 : T_u4b) =>
  deref (some ⟨p, 0⟩) fun q22 =>
  ld [.int .u64] ⟨n14, 0⟩ fun (x23 : Int) =>
  ld [.int .u64] ⟨n14, 1⟩ fun (x24 : Int) =>
  ld [.ptr] ⟨q22.b, q22.o + 4⟩ fun (x25 : Option Pt) =>
  call Tryz.prog N_board_Board_Sent [.lf (.ptr x25), .lf (.int .u64 x23), .lf (.int .u64 x24), .agg (Ks.mk K_u4b x21)] [.lf (.int .i64)] fun (r26 : Int) =>
  J15 ()) <|
  J15 ()) fun (y16 : Unit) => finE p n1 n14 o ag R
def agnE (p n1 n9 : Nat) (o : Int) (R : Rs.T [.agg KS, .lf (.int .i64)] → WP) : WP :=
  drw <|
  ld K_u4b ⟨n9, 0⟩ fun (x10 : T_u4b) =>
  deref (some ⟨p, 0⟩) fun q11 =>
  ld [.ptr] ⟨q11.b, q11.o + 4⟩ fun (x12 : Option Pt) =>
  both (
  call Tryz.prog N_board_Board_Again [.lf (.ptr x12), .agg (Ks.mk K_u4b x10)] [.agg [.int .u64, .int .u64], .lf .bool] fun (r13 : (Int × Int) × Bool) =>
  new [.int .u64 (0:Int), .int .u64 (0:Int)] fun n14 =>
  chk ⟨q11.b, q11.o + 4⟩ (Ks.mk [.ptr] x12) <|
  chk ⟨n9, 0⟩ (Ks.mk K_u4b x10) <|
  st ⟨n14, 0⟩ (Ks.mk [.int .u64, .int .u64] r13.1) <|
  sndE p n1 n9 n14 o r13.2 R) <|
  new [.int .u64 (0:Int), .int .u64 (0:Int)] fun n49 =>
  chk ⟨q11.b, q11.o + 4⟩ (Ks.mk [.ptr] x12) <|
  chk ⟨n9, 0⟩ (Ks.mk K_u4b x10) <|
  call Tryz.prog N_board_Board_Again [.lf (.ptr x12), .agg (Ks.mk K_u4b x10)] [.agg [.int .u64, .int .u64], .lf .bool] fun (r50 : (Int × Int) × Bool) =>
  st ⟨n49, 0⟩ (Ks.mk [.int .u64, .int .u64] r50.1) <|
  sndE p n1 n9 n49 o r50.2 R
theorem tk_range {b : Bf} (hb : OkBf b) {m : Int} (hm : m ≤ 65536) : 0 ≤ (tkF b m).1.1.2 - (tkF b m).1.1.1 ∧ (tkF b m).1.1.2 - (tkF b m).1.1.1 ≤ 65536 := by
  have := hb.nw
  unfold tkF
  split
  · show 0 ≤ bN b + min (bW b - bN b) m - bN b ∧ bN b + min (bW b - bN b) m - bN b ≤ 65536
    omega
  · show (0:Int) ≤ 0 - 0 ∧ (0:Int) - 0 ≤ 65536
    omega
theorem w_snd {w0 w : World} {S0 R0 : Nat → Prop} {G : SP} {R : Rs.T [.agg KS, .lf (.int .i64)] → WP} {p n1 n9 n14 pb pd ps : Nat} {x : N7} {v : Sk} {now a b : Int} {sn : Snt} {ag : Bool} (hbf : OkBf v.bf) (hm : OkM v.md) (hn : U now) (hnx : U v.nx) (hab : ag = true → 0 ≤ b - a ∧ b - a ≤ 65536) (ho : 0 ≤ v.out ∧ v.out + 65536 < 18446744073709551616)
    (h : Own w0 S0 R0 w (blk n1 zS ^ blk n9 (Ks.mk K_u4b sn) ^ blk n14 [.int .u64 a, .int .u64 b] ^ (blk p (sL v pb pd ps x.1) ^ blk pb (Ks.mk KBf v.bf) ^ brd pd v.bd ^ blk ps (Ks.mk KSp v.sp) ^ mdl x v.md) ^ G))
    (k1 : ag = true → ∀ w', Own w0 S0 R0 w' (sck p (putS v (a, b) true now).2 ^ G) → R ((putS v (a, b) true now).1, 0) w')
    (k2 : ag = false → ∀ w', Own w0 S0 R0 w' (sck p (putS { v with bf := (tkF v.bf (skTso v)).2, bd := (sentF v.bd (tkF v.bf (skTso v)).1.1.1 (tkF v.bf (skTso v)).1.1.2 sn).2 } (tkF v.bf (skTso v)).1.1 false now).2 ^ G) → R ((putS { v with bf := (tkF v.bf (skTso v)).2, bd := (sentF v.bd (tkF v.bf (skTso v)).1.1.1 (tkF v.bf (skTso v)).1.1.2 sn).2 } (tkF v.bf (skTso v)).1.1 false now).1, 0) w') : sndE p n1 n9 n14 now ag R w := by
  have hts := tso_r v.md.rate v.mss hm.rate.1
  unfold sndE
  cases ag with
  | true =>
    refine w_join h (fun _ => blk n1 zS ^ blk n9 (Ks.mk K_u4b sn) ^ blk n14 [.int .u64 a, .int .u64 b] ^ (blk p (sL v pb pd ps x.1) ^ blk pb (Ks.mk KBf v.bf) ^ brd pd v.bd ^ blk ps (Ks.mk KSp v.sp) ^ mdl x v.md) ^ G) (fun _ => True) (fun _ w _ h => ?_) ?_
    · exact w_fin (G := G) (pb := pb) (pd := pd) (ps := ps) (x := x) hm hn hnx (hab rfl) ho h.fin (k1 rfl)
    · exact w_ite (fun c => by cases c) fun _ => ⟨trivial, h⟩
  | false =>
    refine w_join h (fun _ => blk n1 zS ^ blk n14 (Ks.mk KR (tkF v.bf (skTso v)).1.1) ^ (blk p (sL v pb pd ps x.1) ^ blk pb (Ks.mk KBf (tkF v.bf (skTso v)).2) ^ brd pd (sentF v.bd (tkF v.bf (skTso v)).1.1.1 (tkF v.bf (skTso v)).1.1.2 sn).2 ^ blk ps (Ks.mk KSp v.sp) ^ mdl x v.md) ^ G) (fun _ => True) (fun _ w _ h => ?_) ?_
    · exact w_fin (G := G) (v := { v with bf := (tkF v.bf (skTso v)).2, bd := (sentF v.bd (tkF v.bf (skTso v)).1.1.1 (tkF v.bf (skTso v)).1.1.2 sn).2 }) hm hn hnx (tk_range hbf hts.2) ho h (k2 rfl)
    · refine w_ite (fun _ => ?_) fun c => by cases c
      refine w_drw h fun w h => w_deref (w_ld h rfl (w_call (tsoO_tri p pb pd ps x v hm) h fun r w h => ?_))
      obtain ⟨hr, h⟩ := h.purP; rw [hr]
      refine w_chk h rfl (w_call (btake_tri pb v.bf hbf (skTso v) (by unfold skTso; omega)) h fun r w h => ?_)
      obtain ⟨hr, h⟩ := h.purP; rw [hr]
      refine w_setAll h (by rfl) fun w h => w_drw h fun w h => w_ldAll (b := n9) (x := sn) h rfl (w_deref (w_ld h rfl (w_ld h rfl (w_ld h rfl (w_call (Board.sent_tri pd _ _ sn v.bd) h fun r w h => ?_)))))
      obtain ⟨hr, h⟩ := h.purP
      exact ⟨trivial, h.fin⟩
/-- What Emit does once the stamp is taken. -/
def agS (v : Sk) (sn : Snt) (now : Int) : Sg × Sk :=
  if (lostF v.bd.1).2 then putS { v with bd := (againF v.bd.1 sn, v.bd.2) } (lostF v.bd.1).1 true now
  else putS { v with bf := (tkF v.bf (skTso v)).2, bd := (sentF v.bd (tkF v.bf (skTso v)).1.1.1 (tkF v.bf (skTso v)).1.1.2 sn).2 } (tkF v.bf (skTso v)).1.1 false now
theorem goS_agS (v : Sk) (now : Int) : goS v now = agS (touchS v now) (sentP v.sp now (skFl v)).1 now := rfl
theorem again_no {l : List Pc} (s : Snt) (h : (lostF l).2 = false) : againF l s = l := by
  unfold lostF at h
  unfold againF
  split at h
  · split at h
    · rename_i hc
      exact if_pos hc
    · cases h
  · rfl
theorem w_agn {w0 w : World} {S0 R0 : Nat → Prop} {G : SP} {R : Rs.T [.agg KS, .lf (.int .i64)] → WP} {p n1 n9 pb pd ps : Nat} {x : N7} {v : Sk} {now : Int} {sn : Snt} (hbf : OkBf v.bf) (hbl : v.bd.1.length ≤ 4294967296) (hm : OkM v.md) (hn : U now) (hnx : U v.nx) (hab : (lostF v.bd.1).2 = true → 0 ≤ (lostF v.bd.1).1.2 - (lostF v.bd.1).1.1 ∧ (lostF v.bd.1).1.2 - (lostF v.bd.1).1.1 ≤ 65536) (ho : 0 ≤ v.out ∧ v.out + 65536 < 18446744073709551616)
    (h : Own w0 S0 R0 w (blk n1 zS ^ blk n9 (Ks.mk K_u4b sn) ^ (blk p (sL v pb pd ps x.1) ^ blk pb (Ks.mk KBf v.bf) ^ brd pd v.bd ^ blk ps (Ks.mk KSp v.sp) ^ mdl x v.md) ^ G))
    (k : ∀ w', Own w0 S0 R0 w' (sck p (agS v sn now).2 ^ G) → R ((agS v sn now).1, 0) w') : agnE p n1 n9 now R w := by
  have t1 : ∀ {w : World} {n14 : Nat}, Own w0 S0 R0 w (blk n1 zS ^ blk n9 (Ks.mk K_u4b sn) ^ blk n14 (Ks.mk KR (lostF v.bd.1).1) ^ (blk p (sL v pb pd ps x.1) ^ blk pb (Ks.mk KBf v.bf) ^ brd pd (againF v.bd.1 sn, v.bd.2) ^ blk ps (Ks.mk KSp v.sp) ^ mdl x v.md) ^ G) → sndE p n1 n9 n14 now (lostF v.bd.1).2 R w := by
    intro w n14 h
    cases hl : (lostF v.bd.1).2 with
    | true =>
      have e : agS v sn now = putS { v with bd := (againF v.bd.1 sn, v.bd.2) } (lostF v.bd.1).1 true now := by unfold agS; rw [if_pos hl]
      rw [e] at k
      exact w_snd (G := G) (v := { v with bd := (againF v.bd.1 sn, v.bd.2) }) (pb := pb) (pd := pd) (ps := ps) (x := x) (sn := sn) hbf hm hn hnx (fun _ => hab hl) ho h (fun _ => k) (fun c => by cases c)
    | false =>
      have e : agS v sn now = putS { v with bf := (tkF v.bf (skTso v)).2, bd := (sentF v.bd (tkF v.bf (skTso v)).1.1.1 (tkF v.bf (skTso v)).1.1.2 sn).2 } (tkF v.bf (skTso v)).1.1 false now := by unfold agS; rw [if_neg (by rw [hl]; intro c; cases c)]
      rw [e] at k
      rw [again_no sn hl] at h
      exact w_snd (G := G) (v := v) (pb := pb) (pd := pd) (ps := ps) (x := x) (sn := sn) hbf hm hn hnx (fun c => by cases c) ho h (fun c => by cases c) (fun _ => k)
  unfold agnE
  refine w_drw h fun w h => w_ldAll (b := n9) (x := sn) h rfl (w_deref (w_ld h rfl (w_both ?_ ?_)))
  · refine w_call (Again_tri pd sn v.bd hbl) h fun r w h => ?_
    obtain ⟨hr, h⟩ := h.purP; rw [hr]
    refine w_new h fun n14 w h => w_chk h rfl (w_chkAll (b := n9) h (w_setAll h (by rfl) fun w h => ?_))
    exact t1 h.fin
  · refine w_new h fun n14 w h => w_chk h rfl (w_chkAll (b := n9) h (w_call (Again_tri pd sn v.bd hbl) h fun r w h => ?_))
    obtain ⟨hr, h⟩ := h.purP; rw [hr]
    refine w_setAll h (by rfl) fun w h => ?_
    exact t1 h.fin
end SockF

namespace SockG
open Arith ArithC Delays Board BbrM BbrMm SockA SockB SockM SockC SockD SockE SockF
/-- Every piece on the board is short. -/
def OkL (l : List Pc) : Prop := (lostF l).2 = true → 0 ≤ (lostF l).1.2 - (lostF l).1.1 ∧ (lostF l).1.2 - (lostF l).1.1 ≤ 65536
theorem below_le (rate tso most : Int) (ht : tso ≤ 65536) (hm : most ≤ 1073741824) : belowF rate tso most ≤ 1073741824 := by
  unfold belowF longI
  split <;> split <;> omega
theorem may_out {v : Sk} (hc : v.cap ≤ 1073741824) (hr : 0 ≤ v.md.rate) (h : (mayS v).1 = 0) : v.out < 1073741824 ∧ (mayS v).2 = v := by
  have hb := below_le v.md.rate (skTso v) v.cap (tso_r v.md.rate v.mss hr).2 hc
  unfold mayS at h ⊢
  by_cases c1 : (lostF v.bd.1).2 = false ∧ bW v.bf - bN v.bf = 0
  · rw [if_pos c1] at h; cases h
  · rw [if_neg c1] at h ⊢
    by_cases c2 : ¬ (skFl v < v.md.win ∧ v.out < belowF v.md.rate (skTso v) v.cap)
    · rw [if_pos c2] at h; cases h
    · rw [if_neg c2] at h ⊢
      have c2 := Classical.not_not.1 c2
      refine ⟨by omega, ?_⟩
      split <;> rfl
theorem emit_tri (p : Nat) (v : Sk) (hv : OkSk v) (hL : OkL v.bd.1) (now : Int) (hn : U now) : Tri Tryz.prog N_sock_Sock_Emit [.lf (.ptr (some ⟨p, 0⟩)), .lf (.int .u64 now)] [.agg KS, .lf (.int .i64)] (sck p v) (fun r => pur (r = (emitS v now).1) (sck p (emitS v now).2)) :=
  tri_0 (call_sock_Sock_Emit (some ⟨p, 0⟩) now) fun w0 S R h => by
    unfold W_sock_Sock_Emit
    have hbl : v.bd.1.length ≤ 4294967296 := by have := hv.bl; omega
    refine w_new h fun n1 w h => w_ite (fun c => (by simp at c)) fun _ => w_call (SockD.may_tri p v hv) h fun r w h => ?_
    obtain ⟨hr, h⟩ := h.purP; rw [hr]
    refine w_ite (fun c => ?_) fun c => ?_
    · have c : (mayS v).1 ≠ 0 := by simpa using c
      have e : emitS v now = ((noS, (mayS v).1), (mayS v).2) := by unfold emitS; rw [if_pos c]
      rw [e]
      refine w_setAll h (by rfl) fun w h => w_ldAll (b := n1) (x := noS) h rfl ?_
      have h : Own w0 S R w (sck p (mayS v).2 ^ blk n1 zS) := h.fin
      exact Own.retP rfl h.keep
    · have c : (mayS v).1 = 0 := by simpa using c
      have e : emitS v now = (((goS v now).1, 0), (goS v now).2) := by unfold emitS; rw [if_neg (by rw [c]; exact fun e => e rfl)]
      obtain ⟨ho, e2⟩ := may_out hv.cap.2 hv.md.rate.1 c
      rw [e2] at h
      rw [e, goS_agS]
      have ho2 : 0 ≤ v.out ∧ v.out + 65536 < 18446744073709551616 := ⟨hv.out.1, by omega⟩
      have t1 : ∀ {w : World} {n9 pb pd ps : Nat} {x : N7}, Own w0 S R w (blk n1 zS ^ blk n9 (Ks.mk K_u4b (sentP v.sp now (skFl v)).1) ^ (blk p (sL v pb pd ps x.1) ^ blk pb (Ks.mk KBf v.bf) ^ brd pd v.bd ^ blk ps (Ks.mk KSp (sentP v.sp now (skFl v)).2) ^ mdl x v.md) ^ emp) → agnE p n1 n9 now (fun r w => Own w0 S R w (pur (r = ((agS (touchS v now) (sentP v.sp now (skFl v)).1 now).1, 0)) (sck p (agS (touchS v now) (sentP v.sp now (skFl v)).1 now).2))) w := by
        intro w n9 pb pd ps x h
        exact w_agn (G := emp) (v := touchS v now) (pb := pb) (pd := pd) (ps := ps) (x := x) (sn := (sentP v.sp now (skFl v)).1) hv.bf hbl hv.md hn hv.nx hL ho2 h (fun w h => Own.retP rfl h.keep)
      obtain ⟨pb, pd, ps, x, h⟩ := (h.le (star_emp _)).sck p
      refine w_drw h fun w h => w_deref (w_ld h rfl (w_both ?_ ?_))
      · refine w_call (flightO_tri p pb pd ps x v hbl) h fun r w h => ?_
        obtain ⟨hr, h⟩ := h.purP; rw [hr]
        refine w_chk h rfl (w_both ?_ ?_)
        · refine w_call (SockB.sent_tri ps v.sp now (skFl v)) h fun r w h => ?_
          obtain ⟨hr, h⟩ := h.purP; rw [hr]
          refine w_new h fun n9 w h => w_chk h rfl (w_setAll h (by rfl) fun w h => ?_)
          exact t1 (pb := pb) (pd := pd) (ps := ps) (x := x) h.fin
        · refine w_new h fun n9 w h => w_chk h rfl (w_call (SockB.sent_tri ps v.sp now (skFl v)) h fun r w h => ?_)
          obtain ⟨hr, h⟩ := h.purP; rw [hr]
          refine w_setAll h (by rfl) fun w h => ?_
          exact t1 (pb := pb) (pd := pd) (ps := ps) (x := x) h.fin
      · refine w_new h fun n9 w h => w_chk h rfl (w_call (flightO_tri p pb pd ps x v hbl) h fun r w h => ?_)
        obtain ⟨hr, h⟩ := h.purP; rw [hr]
        refine w_chk h rfl (w_call (SockB.sent_tri ps v.sp now (skFl v)) h fun r w h => ?_)
        obtain ⟨hr, h⟩ := h.purP; rw [hr]
        refine w_setAll h (by rfl) fun w h => ?_
        exact t1 (pb := pb) (pd := pd) (ps := ps) (x := x) h.fin
end SockG


end Go.X
