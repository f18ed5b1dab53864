/- Contracts and plain facts: SockE SockF. -/
import Derived.Test.YtkideobegadadaaBArith
import Derived.Test.YtkideobegadadaaBDelays
import Derived.Test.YtkideobegadadaaBTarget
import Derived.Test.YtkideobegadadaaBBbrMm
import Derived.Test.YtkideobegadadaaBBbrW
import Derived.Test.YtkideobegadadaaBBbrL
import Derived.Test.YtkideobegadadaaBBbrO
import Derived.Test.YtkideobegadadaaBSockA
import Derived.Test.YtkideobegadadaaBSockM
import Derived.Test.YtkideobegadadaaBSockD
import Derived.Test.YtkideobegadadaaXw
import Derived.Test.YtkideobegadadaaK
import Derived.Test.YtkideobegadadaaF0
import Derived.Test.YtkideobegadadaaF1
set_option linter.unusedVariables false
set_option linter.unusedSimpArgs false
set_option linter.unusedSectionVars false
namespace Go.X
open Go.Proofs
namespace SockE
open Arith ArithC Delays Board BbrM BbrMm SockA SockB SockM SockC SockD
abbrev KS : Ks := [.int .i64, .int .u64, .int .i64, .int .u64, .bool]
abbrev zS : List Lf := [.int .i64 0, .int .u64 0, .int .i64 0, .int .u64 0, .bool false]
/-- What comes at an emission's end: the segment, the next stamp, what is below. -/
def finE (p n1 n14 : Nat) (o : Int) (ag : Bool) (R : Rs.T [.agg KS, .lf (.int .i64)] → WP) : WP :=
  drw <|
  deref (some ⟨p, 0⟩) fun q27 =>
  ld [.int .u64] ⟨n14, 0⟩ fun (x28 : Int) =>
  ld [.int .u64] ⟨n14, 1⟩ fun (x29 : Int) =>
  ld [.int .u64] ⟨n14, 0⟩ fun (x30 : Int) =>
  deref (some ⟨p, 0⟩) fun q31 =>
  ld [.int .i64] q27 fun (x32 : Int) =>
  ld [.int .u64] ⟨q31.b, q31.o + 8⟩ fun (x33 : Int) =>
  new [.int .i64 (0:Int), .int .u64 (0:Int), .int .i64 (0:Int), .int .u64 (0:Int), .bool false] fun n34 =>
  chk ⟨q31.b, q31.o + 8⟩ (Ks.mk [.int .u64] x33) <|
  chk q27 (Ks.mk [.int .i64] x32) <|
  chk ⟨n14, 0⟩ (Ks.mk [.int .u64] x30) <|
  chk ⟨n14, 1⟩ (Ks.mk [.int .u64] x29) <|
  chk ⟨n14, 0⟩ (Ks.mk [.int .u64] x28) <|
  st ⟨n34, 0⟩ [.int .i64 x32, .int .u64 x28, .int .i64 (IntKind.i64.wrap (IntKind.u64.wrap (x29 - x30))), .int .u64 (if x33 > o then x33 else o), .bool ag] <|
  drw <|
  ld [.int .u64] ⟨n34, 3⟩ fun (x35 : Int) =>
  ld [.int .i64] ⟨n34, 2⟩ fun (x36 : Int) =>
  deref (some ⟨p, 0⟩) fun q37 =>
  ld [.ptr] ⟨q37.b, q37.o + 6⟩ fun (x38 : Option Pt) =>
  call Try.prog N_bbr_Model_State [.lf (.ptr x38)] [.agg K_i2u6b2] fun (r39 : T_i2u6b2) =>
  chk ⟨n34, 2⟩ (Ks.mk [.int .i64] x36) <|
  chk ⟨n34, 3⟩ (Ks.mk [.int .u64] x35) <|
  call Try.prog N_delay_Of [.lf (.int .i64 x36), .lf (.int .u64 r39.2.2.1)] [.lf (.int .u64)] fun (r40 : Int) =>
  chk ⟨n34, 3⟩ (Ks.mk [.int .u64] x35) <|
  call Try.prog N_sat_Add [.lf (.int .u64 x35), .lf (.int .u64 r40)] [.lf (.int .u64)] fun (r41 : Int) =>
  deref (some ⟨p, 0⟩) fun q42 =>
  st ⟨q42.b, q42.o + 8⟩ [.int .u64 r41] <|
  drw <|
  deref (some ⟨p, 0⟩) fun q43 =>
  ld [.int .i64] ⟨n34, 2⟩ fun (x44 : Int) =>
  ld [.int .u64] ⟨q43.b, q43.o + 7⟩ fun (x45 : Int) =>
  deref (some ⟨p, 0⟩) fun q46 =>
  st ⟨q46.b, q46.o + 7⟩ [.int .u64 (IntKind.u64.wrap (x45 + (IntKind.u64.wrap x44)))] <|
  ld KS ⟨n34, 0⟩ fun (x47 : Ks.T KS) =>
  st ⟨n1, 0⟩ (Ks.mk KS x47) <|
  ld KS ⟨n1, 0⟩ fun (x48 : Ks.T KS) =>
  R (x48, (0:Int))
theorem w_fin {w0 w : World} {S0 R0 : Nat → Prop} {G : SP} {R : Rs.T [.agg KS, .lf (.int .i64)] → WP} {p n1 n14 pb pd ps : Nat} {x : N7} {v : Sk} {now a b : Int} {ag : Bool} (hm : OkM v.md) (hn : U now) (hnx : U v.nx) (hab : 0 ≤ b - a ∧ b - a ≤ 65536) (ho : 0 ≤ v.out ∧ v.out + 65536 < 18446744073709551616)
    (h : Own w0 S0 R0 w (blk n1 zS ^ blk n14 [.int .u64 a, .int .u64 b] ^ (blk p (sL v pb pd ps x.1) ^ blk pb (Ks.mk KBf v.bf) ^ brd pd v.bd ^ blk ps (Ks.mk KSp v.sp) ^ mdl x v.md) ^ G))
    (k : ∀ w', Own w0 S0 R0 w' (sck p (putS v (a, b) ag now).2 ^ G) → R ((putS v (a, b) ag now).1, 0) w') : finE p n1 n14 now ag R w := by
  unfold finE
  have e1 : IntKind.u64.wrap (b - a) = b - a := wu (by omega) (by omega)
  have e2 : IntKind.i64.wrap (b - a) = b - a := wi (by omega) (by omega)
  have hst : U (if v.nx > now then v.nx else now) := by split; exact hnx; exact hn
  have hD : U (delayI (b - a) v.md.rate) := U_delay (by omega) hm.rate
  refine w_drw h fun w h => w_deref (w_ld h rfl (w_ld h rfl (w_ld h rfl (w_deref (w_ld h rfl (w_ld h rfl (w_new h fun n34 w h => ?_)))))))
  refine w_chk h rfl (w_chk h rfl (w_chk h rfl (w_chk h rfl (w_chk h rfl ?_))))
  rw [e1, e2]
  refine w_setAll h (by rfl) fun w h => w_drw h fun w h => w_ld h rfl (w_ld h rfl (w_deref (w_ld h rfl (w_call (mst_tri x v.md) h fun r w h => ?_))))
  obtain ⟨hr, h⟩ := h.purP; rw [hr]
  refine w_chk h rfl (w_chk h rfl (w_call (delay_tri (b - a) v.md.rate (by omega) hm.rate) h fun r w h => ?_))
  obtain ⟨hr, h⟩ := h.purP; rw [hr]
  refine w_chk h rfl (w_call (satadd_tri _ _ hst hD) h fun r w h => ?_)
  obtain ⟨hr, h⟩ := h.purP; rw [hr]
  refine w_deref (w_setTo h p (sL { v with nx := addI (if v.nx > now then v.nx else now) (delayI (b - a) v.md.rate) } pb pd ps x.1) rfl rfl rfl fun w h => ?_)
  have e3 : IntKind.u64.wrap (v.out + IntKind.u64.wrap (b - a)) = v.out + (b - a) := by rw [e1]; exact wu (by omega) (by omega)
  refine w_drw h fun w h => w_deref (w_ld h rfl (w_ld (x := v.out) h rfl (w_deref ?_)))
  rw [e3]
  refine w_setTo h p (sL { v with nx := addI (if v.nx > now then v.nx else now) (delayI (b - a) v.md.rate), out := v.out + (b - a) } pb pd ps x.1) rfl rfl rfl fun w h => ?_
  refine w_ldAll (b := n34) (x := (putS v (a, b) ag now).1) h rfl (w_setAll h (by rfl) fun w h => w_ldAll (b := n1) (x := (putS v (a, b) ag now).1) h rfl ?_)
  have h2 : Own w0 S0 R0 w (sck p { v with nx := addI (if v.nx > now then v.nx else now) (delayI (b - a) v.md.rate), out := v.out + (b - a) } ^ G) := (h.mkSck p pb pd ps x { v with nx := addI (if v.nx > now then v.nx else now) (delayI (b - a) v.md.rate), out := v.out + (b - a) }).fin
  exact k w h2
end SockE

namespace SockF
open Arith ArithC Delays Board BbrM BbrMm SockA SockB SockM SockC SockD SockE
abbrev KR : Ks := [.int .u64, .int .u64]
theorem w_both {A B : WP} {w : World} (h : A w) (k : B w) : both A B w := ⟨h, k⟩
/-- After Again: a new segment is cut where nothing was lost, and the end. -/
def sndE (p n1 n9 n14 : Nat) (o : Int) (ag : Bool) (R : Rs.T [.agg KS, .lf (.int .i64)] → WP) : WP :=
  join [] (fun J15 =>
  ite' (!ag) (
  drw <|
  deref (some ⟨p, 0⟩) fun q17 =>
  ld [.ptr] ⟨q17.b, q17.o + 3⟩ fun (x18 : Option Pt) =>
  call Try.prog N_sock_Sock_Tso [.lf (.ptr (some ⟨p, 0⟩))] [.lf (.int .i64)] fun (r19 : Int) =>
  chk ⟨q17.b, q17.o + 3⟩ (Ks.mk [.ptr] x18) <|
  call Try.prog N_buffer_Buffer_Take [.lf (.ptr x18), .lf (.int .i64 r19)] [.agg [.int .u64, .int .u64], .lf .bool] fun (r20 : (Int × Int) × Bool) =>
  st ⟨n14, 0⟩ (Ks.mk [.int .u64, .int .u64] r20.1) <|
  drw <|
  ld K_u4b ⟨n9, 0⟩ fun (x21 : T_u4b) =>
  deref (some ⟨p, 0⟩) fun q22 =>
  ld [.int .u64] ⟨n14, 0⟩ fun (x23 : Int) =>
  ld [.int .u64] ⟨n14, 1⟩ fun (x24 : Int) =>
  ld [.ptr] ⟨q22.b, q22.o + 4⟩ fun (x25 : Option Pt) =>
  call Try.prog N_board_Board_Sent [.lf (.ptr x25), .lf (.int .u64 x23), .lf (.int .u64 x24), .agg (Ks.mk K_u4b x21)] [.lf (.int .i64)] fun (r26 : Int) =>
  J15 ()) <|
  J15 ()) fun (y16 : Unit) => finE p n1 n14 o ag R
def agnE (p n1 n9 : Nat) (o : Int) (R : Rs.T [.agg KS, .lf (.int .i64)] → WP) : WP :=
  drw <|
  ld K_u4b ⟨n9, 0⟩ fun (x10 : T_u4b) =>
  deref (some ⟨p, 0⟩) fun q11 =>
  ld [.ptr] ⟨q11.b, q11.o + 4⟩ fun (x12 : Option Pt) =>
  both (
  call Try.prog N_board_Board_Again [.lf (.ptr x12), .agg (Ks.mk K_u4b x10)] [.agg [.int .u64, .int .u64], .lf .bool] fun (r13 : (Int × Int) × Bool) =>
  new [.int .u64 (0:Int), .int .u64 (0:Int)] fun n14 =>
  chk ⟨q11.b, q11.o + 4⟩ (Ks.mk [.ptr] x12) <|
  chk ⟨n9, 0⟩ (Ks.mk K_u4b x10) <|
  st ⟨n14, 0⟩ (Ks.mk [.int .u64, .int .u64] r13.1) <|
  sndE p n1 n9 n14 o r13.2 R) <|
  new [.int .u64 (0:Int), .int .u64 (0:Int)] fun n49 =>
  chk ⟨q11.b, q11.o + 4⟩ (Ks.mk [.ptr] x12) <|
  chk ⟨n9, 0⟩ (Ks.mk K_u4b x10) <|
  call Try.prog N_board_Board_Again [.lf (.ptr x12), .agg (Ks.mk K_u4b x10)] [.agg [.int .u64, .int .u64], .lf .bool] fun (r50 : (Int × Int) × Bool) =>
  st ⟨n49, 0⟩ (Ks.mk [.int .u64, .int .u64] r50.1) <|
  sndE p n1 n9 n49 o r50.2 R
theorem tk_range {b : Bf} (hb : OkBf b) {m : Int} (hm : m ≤ 65536) : 0 ≤ (tkF b m).1.1.2 - (tkF b m).1.1.1 ∧ (tkF b m).1.1.2 - (tkF b m).1.1.1 ≤ 65536 := by
  have := hb.nw
  unfold tkF
  split
  · show 0 ≤ bN b + min (bW b - bN b) m - bN b ∧ bN b + min (bW b - bN b) m - bN b ≤ 65536
    omega
  · show (0:Int) ≤ 0 - 0 ∧ (0:Int) - 0 ≤ 65536
    omega
theorem w_snd {w0 w : World} {S0 R0 : Nat → Prop} {G : SP} {R : Rs.T [.agg KS, .lf (.int .i64)] → WP} {p n1 n9 n14 pb pd ps : Nat} {x : N7} {v : Sk} {now a b : Int} {sn : Snt} {ag : Bool} (hbf : OkBf v.bf) (hm : OkM v.md) (hn : U now) (hnx : U v.nx) (hab : ag = true → 0 ≤ b - a ∧ b - a ≤ 65536) (ho : 0 ≤ v.out ∧ v.out + 65536 < 18446744073709551616)
    (h : Own w0 S0 R0 w (blk n1 zS ^ blk n9 (Ks.mk K_u4b sn) ^ blk n14 [.int .u64 a, .int .u64 b] ^ (blk p (sL v pb pd ps x.1) ^ blk pb (Ks.mk KBf v.bf) ^ brd pd v.bd ^ blk ps (Ks.mk KSp v.sp) ^ mdl x v.md) ^ G))
    (k1 : ag = true → ∀ w', Own w0 S0 R0 w' (sck p (putS v (a, b) true now).2 ^ G) → R ((putS v (a, b) true now).1, 0) w')
    (k2 : ag = false → ∀ w', Own w0 S0 R0 w' (sck p (putS { v with bf := (tkF v.bf (skTso v)).2, bd := (sentF v.bd (tkF v.bf (skTso v)).1.1.1 (tkF v.bf (skTso v)).1.1.2 sn).2 } (tkF v.bf (skTso v)).1.1 false now).2 ^ G) → R ((putS { v with bf := (tkF v.bf (skTso v)).2, bd := (sentF v.bd (tkF v.bf (skTso v)).1.1.1 (tkF v.bf (skTso v)).1.1.2 sn).2 } (tkF v.bf (skTso v)).1.1 false now).1, 0) w') : sndE p n1 n9 n14 now ag R w := by
  have hts := tso_r v.md.rate v.mss hm.rate.1
  unfold sndE
  cases ag with
  | true =>
    refine w_join h (fun _ => blk n1 zS ^ blk n9 (Ks.mk K_u4b sn) ^ blk n14 [.int .u64 a, .int .u64 b] ^ (blk p (sL v pb pd ps x.1) ^ blk pb (Ks.mk KBf v.bf) ^ brd pd v.bd ^ blk ps (Ks.mk KSp v.sp) ^ mdl x v.md) ^ G) (fun _ => True) (fun _ w _ h => ?_) ?_
    · exact w_fin (G := G) (pb := pb) (pd := pd) (ps := ps) (x := x) hm hn hnx (hab rfl) ho h.fin (k1 rfl)
    · exact w_ite (fun c => by cases c) fun _ => ⟨trivial, h⟩
  | false =>
    refine w_join h (fun _ => blk n1 zS ^ blk n14 (Ks.mk KR (tkF v.bf (skTso v)).1.1) ^ (blk p (sL v pb pd ps x.1) ^ blk pb (Ks.mk KBf (tkF v.bf (skTso v)).2) ^ brd pd (sentF v.bd (tkF v.bf (skTso v)).1.1.1 (tkF v.bf (skTso v)).1.1.2 sn).2 ^ blk ps (Ks.mk KSp v.sp) ^ mdl x v.md) ^ G) (fun _ => True) (fun _ w _ h => ?_) ?_
    · exact w_fin (G := G) (v := { v with bf := (tkF v.bf (skTso v)).2, bd := (sentF v.bd (tkF v.bf (skTso v)).1.1.1 (tkF v.bf (skTso v)).1.1.2 sn).2 }) hm hn hnx (tk_range hbf hts.2) ho h (k2 rfl)
    · refine w_ite (fun _ => ?_) fun c => by cases c
      refine w_drw h fun w h => w_deref (w_ld h rfl (w_call (tsoO_tri p pb pd ps x v hm) h fun r w h => ?_))
      obtain ⟨hr, h⟩ := h.purP; rw [hr]
      refine w_chk h rfl (w_call (btake_tri pb v.bf hbf (skTso v) (by unfold skTso; omega)) h fun r w h => ?_)
      obtain ⟨hr, h⟩ := h.purP; rw [hr]
      refine w_setAll h (by rfl) fun w h => w_drw h fun w h => w_ldAll (b := n9) (x := sn) h rfl (w_deref (w_ld h rfl (w_ld h rfl (w_ld h rfl (w_call (Board.sent_tri pd _ _ sn v.bd) h fun r w h => ?_)))))
      obtain ⟨hr, h⟩ := h.purP
      exact ⟨trivial, h.fin⟩
/-- What Emit does once the stamp is taken. -/
def agS (v : Sk) (sn : Snt) (now : Int) : Sg × Sk :=
  if (lostF v.bd.1).2 then putS { v with bd := (againF v.bd.1 sn, v.bd.2) } (lostF v.bd.1).1 true now
  else putS { v with bf := (tkF v.bf (skTso v)).2, bd := (sentF v.bd (tkF v.bf (skTso v)).1.1.1 (tkF v.bf (skTso v)).1.1.2 sn).2 } (tkF v.bf (skTso v)).1.1 false now
theorem goS_agS (v : Sk) (now : Int) : goS v now = agS (touchS v now) (sentP v.sp now (skFl v)).1 now := rfl
theorem again_no {l : List Pc} (s : Snt) (h : (lostF l).2 = false) : againF l s = l := by
  unfold lostF at h
  unfold againF
  split at h
  · split at h
    · rename_i hc
      exact if_pos hc
    · cases h
  · rfl
theorem w_agn {w0 w : World} {S0 R0 : Nat → Prop} {G : SP} {R : Rs.T [.agg KS, .lf (.int .i64)] → WP} {p n1 n9 pb pd ps : Nat} {x : N7} {v : Sk} {now : Int} {sn : Snt} (hbf : OkBf v.bf) (hbl : v.bd.1.length ≤ 4294967296) (hm : OkM v.md) (hn : U now) (hnx : U v.nx) (hab : (lostF v.bd.1).2 = true → 0 ≤ (lostF v.bd.1).1.2 - (lostF v.bd.1).1.1 ∧ (lostF v.bd.1).1.2 - (lostF v.bd.1).1.1 ≤ 65536) (ho : 0 ≤ v.out ∧ v.out + 65536 < 18446744073709551616)
    (h : Own w0 S0 R0 w (blk n1 zS ^ blk n9 (Ks.mk K_u4b sn) ^ (blk p (sL v pb pd ps x.1) ^ blk pb (Ks.mk KBf v.bf) ^ brd pd v.bd ^ blk ps (Ks.mk KSp v.sp) ^ mdl x v.md) ^ G))
    (k : ∀ w', Own w0 S0 R0 w' (sck p (agS v sn now).2 ^ G) → R ((agS v sn now).1, 0) w') : agnE p n1 n9 now R w := by
  have t1 : ∀ {w : World} {n14 : Nat}, Own w0 S0 R0 w (blk n1 zS ^ blk n9 (Ks.mk K_u4b sn) ^ blk n14 (Ks.mk KR (lostF v.bd.1).1) ^ (blk p (sL v pb pd ps x.1) ^ blk pb (Ks.mk KBf v.bf) ^ brd pd (againF v.bd.1 sn, v.bd.2) ^ blk ps (Ks.mk KSp v.sp) ^ mdl x v.md) ^ G) → sndE p n1 n9 n14 now (lostF v.bd.1).2 R w := by
    intro w n14 h
    cases hl : (lostF v.bd.1).2 with
    | true =>
      have e : agS v sn now = putS { v with bd := (againF v.bd.1 sn, v.bd.2) } (lostF v.bd.1).1 true now := by unfold agS; rw [if_pos hl]
      rw [e] at k
      exact w_snd (G := G) (v := { v with bd := (againF v.bd.1 sn, v.bd.2) }) (pb := pb) (pd := pd) (ps := ps) (x := x) (sn := sn) hbf hm hn hnx (fun _ => hab hl) ho h (fun _ => k) (fun c => by cases c)
    | false =>
      have e : agS v sn now = putS { v with bf := (tkF v.bf (skTso v)).2, bd := (sentF v.bd (tkF v.bf (skTso v)).1.1.1 (tkF v.bf (skTso v)).1.1.2 sn).2 } (tkF v.bf (skTso v)).1.1 false now := by unfold agS; rw [if_neg (by rw [hl]; intro c; cases c)]
      rw [e] at k
      rw [again_no sn hl] at h
      exact w_snd (G := G) (v := v) (pb := pb) (pd := pd) (ps := ps) (x := x) (sn := sn) hbf hm hn hnx (fun c => by cases c) ho h (fun c => by cases c) (fun _ => k)
  unfold agnE
  refine w_drw h fun w h => w_ldAll (b := n9) (x := sn) h rfl (w_deref (w_ld h rfl (w_both ?_ ?_)))
  · refine w_call (Again_tri pd sn v.bd hbl) h fun r w h => ?_
    obtain ⟨hr, h⟩ := h.purP; rw [hr]
    refine w_new h fun n14 w h => w_chk h rfl (w_chkAll (b := n9) h (w_setAll h (by rfl) fun w h => ?_))
    exact t1 h.fin
  · refine w_new h fun n14 w h => w_chk h rfl (w_chkAll (b := n9) h (w_call (Again_tri pd sn v.bd hbl) h fun r w h => ?_))
    obtain ⟨hr, h⟩ := h.purP; rw [hr]
    refine w_setAll h (by rfl) fun w h => ?_
    exact t1 h.fin
end SockF


end Go.X
