/- Contracts and plain facts: EgE EgF EgG EgH EgJ EgK EgL EgN. -/
import Derived.Test.YtaimlgfepkopkaaGreatB0
import Derived.Test.YtaimlgfepkopkaaGreatB1
import Derived.Test.YtaimlgfepkopkaaGreatB2
import Derived.Test.YtaimlgfepkopkaaGreatB3
import Derived.Test.YtaimlgfepkopkaaGreatB4
import Derived.Test.YtaimlgfepkopkaaGreatB5
import Derived.Test.YtaimlgfepkopkaaGreatB6
import Derived.Test.YtaimlgfepkopkaaGreatB7
import Derived.Test.YtaimlgfepkopkaaGreatB8
import Derived.Test.YtaimlgfepkopkaaGreatK
import Derived.Test.YtaimlgfepkopkaaGreatF0
import Derived.Test.YtaimlgfepkopkaaGreatF1
import Derived.Test.YtaimlgfepkopkaaGreatF2
set_option linter.unusedVariables false
set_option linter.unusedSimpArgs false
set_option linter.unusedSectionVars false
namespace Go.X
open Go.Proofs
namespace EgE
open Arith ArithC TreeF FqM FqC SockC EgM EgA EgB EgC EgD
open SockM (Sk emitS doneS writeS loseS newS skFl skTso mayS)
open SockO (IvS)
open SockV (IvB)
theorem new_tri (c : Cf) : Tri Tryz.prog N_egress_New [.agg (Ks.mk KC c)] [.lf .ptr, .lf (.int .i64)] emp (fun r => ex fun b : Nat => pur (r = if may c then (some ⟨b, 0⟩, 0) else (none, 13)) (if may c then mach b (newM c) else emp)) :=
 tri_0 (call_egress_New c) fun w0 S R h => by
  unfold W_egress_New
  refine w_new (h.le (star_emp _)) fun n1 w h => w_ldAll (b := n1) (x := c) h rfl (w_call (FqE.new_tri c) h fun r w h => ?_)
  obtain ⟨q, h⟩ := h.exP
  obtain ⟨hr, h⟩ := h.purP
  by_cases hm : may c = true
  ·rw [if_pos hm] at hr h
   rw [hr]
   refine w_ite (fun cc => (by cases cc)) fun _ => ?_
   refine w_drw h fun w h => w_ldAll (b := n1) (x := c) h rfl (w_call cnew_tri (h.le ((star_emp _).trans (star_comm _ _))) fun r w h => ?_)
   obtain ⟨ck, h⟩ := h.exP
   obtain ⟨hr, h⟩ := h.purP; rw [hr]
   refine w_chkAll (b := n1) h (w_call lnew_tri (h.le ((star_emp _).trans (star_comm _ _))) fun r w h => ?_)
   obtain ⟨l, h⟩ := h.exP
   obtain ⟨hr, h⟩ := h.purP; rw [hr]
   refine w_chkAll (b := n1) h (w_new h fun n7 w h => ?_)
   have h : Own w0 S R w (blk n7 (mL c ck (fun _ => none) q l) ^ _) := h
   have e : AllK (fun _ => none) (fun _ => none) = bigS (fun _ => pur ((none : Option Pt) = none) emp) 8 := rfl
   have hall : ∀ n, Le emp (bigS (fun _ => pur ((none : Option Pt) = none) emp) n) := fun n => by
    induction n with
    | zero => exact Le.rfl
    | succ n ih => exact (star_emp emp).trans (star_mono (fun _ _ _ h => ⟨rfl, h⟩) ih)
   have h : Own w0 S R w (AllK (fun _ => none) (fun _ => none) ^ _) := (h.le ((star_emp _).trans (star_comm _ _))).le (star_mono (by rw [e]; exact hall 8) Le.rfl)
   have h := h.mkMach n7 (fun _ => none) ck q l (newM c)
   refine Own.retE n7 (Own.retP (by rw [if_pos hm]) ?_)
   rw [if_pos hm]
   exact h.keep
  ·rw [if_neg hm] at hr h
   rw [hr]
   refine w_ite (fun _ => ?_) fun cc => (by cases cc)
   refine Own.retE 0 (Own.retP (by rw [if_neg hm]) ?_)
   rw [if_neg hm]
   exact h.emp'
theorem set_tri (b : Nat) (v : Mc) (c : Cf) : Tri Tryz.prog N_egress_Machine_set [.lf (.ptr (some ⟨b, 0⟩)), .agg (Ks.mk KC c)] [.lf (.int .i64)] (mach b v) (fun r => pur (r = (setM v c).1) (mach b (setM v c).2)) :=
 tri_0 (call_egress_Machine_set (some ⟨b, 0⟩) c) fun w0 S R h => by
  unfold W_egress_Machine_set
  refine w_new (h.le (star_emp _)) fun n1 w h => ?_
  obtain ⟨p, ck, q, l, h⟩ := h.mach b
  refine w_drw h fun w h => w_ldAll (b := n1) (x := c) h rfl (w_deref (w_ld (x := some ⟨q, 0⟩) h rfl (w_call (FqE.set_tri q v.q c) h fun r w h => ?_)))
  obtain ⟨hr, h⟩ := h.purP; rw [hr]
  refine w_ite (fun cc => ?_) fun cc => ?_
  ·have cc : (setF v.q c).1 = 0 := by simpa using cc
   refine w_ldAll (b := n1) (x := c) h rfl (w_deref (w_setTo h b (mL c ck p q l) rfl rfl rfl fun w h => ?_))
   rw [show setM v c = (0, { v with q := (setF v.q c).2, c := c }) by unfold setM; rw [if_pos cc]]
   exact Own.retP cc (h.mkMach b p ck q l { v with q := (setF v.q c).2, c := c }).fin
  ·have cc : ¬ (setF v.q c).1 = 0 := by simpa using cc
   rw [show setM v c = ((setF v.q c).1, { v with q := (setF v.q c).2 }) by unfold setM; rw [if_neg cc]]
   exact Own.retP rfl (h.mkMach b p ck q l { v with q := (setF v.q c).2 }).fin
theorem drops_app (l : Nat → Ct) (o : Ou) (a : List Sg) (s : Sg) : dropsF l o (a ++ [s]) = dropF (dropsF l o a).2 (dropsF l o a).1 s 5 := by
 induction a generalizing l o with
 | nil => rfl
 | cons x a ih => exact ih _ _
theorem drops_len (l : Nat → Ct) (o : Ou) (a : List Sg) : (dropsF l o a).1.dr.length = o.dr.length + a.length ∧ (dropsF l o a).1.ft.length = o.ft.length + a.length := by
 induction a generalizing l o with
 | nil => exact ⟨rfl, rfl⟩
 | cons x a ih =>
  obtain ⟨h1, h2⟩ := ih (dropF l o x 5).2 (dropF l o x 5).1
  have e1 : (dropF l o x 5).1.dr.length = o.dr.length + 1 := by show (o.dr ++ [x]).length = _; simp
  have e2 : (dropF l o x 5).1.ft.length = o.ft.length + 1 := by show (o.ft ++ [5]).length = _; simp
  rw [List.length_cons]
  show (dropsF (dropF l o x 5).2 (dropF l o x 5).1 a).1.dr.length = _ ∧ (dropsF (dropF l o x 5).2 (dropF l o x 5).1 a).1.ft.length = _
  omega
theorem close_len {v : Qm} (hv : OkQ v) (i : Int) : (closeF v i).1.length ≤ 512 := by
 unfold closeF
 split
 ·show ([] : List Sg).length ≤ 512; decide
 ·split
  ·show ([] : List Sg).length ≤ 512; decide
  ·rename_i f hf; exact (hv.len hf).2
theorem shut_tri (b a : Nat) (k : Int) (v : Mc) (hv : OkMc k v) (i : Nat) (hi : i < 8) (o : Ou) (hl : o.dr.length ≤ 400 ∧ o.ft.length ≤ 400) : Tri Tryz.prog N_egress_Machine_shut [.lf (.ptr (some ⟨b, 0⟩)), .lf (.int .i64 (i : Int)), .lf (.ptr (some ⟨a, 0⟩))] [] (mach b v ^ outp a o) (fun _ => mach b (shutM v i o).2 ^ outp a (shutM v i o).1) :=
 tri_0 (call_egress_Machine_shut (some ⟨b, 0⟩) (i : Int) (some ⟨a, 0⟩)) fun w0 S R h => by
  unfold W_egress_Machine_shut
  obtain ⟨p, ck, q, l, h⟩ := (h.le (star_emp _)).mach b
  have eit : ((i : Nat) : Int).toNat = i := Int.toNat_natCast i
  have h : Own w0 S R w0 (ButK p v.so i ^ blk b (mL v.c ck p q l) ^ blk ck [.int .u64 v.now] ^ que q v.q ^ led l v.l ^ outp a o ^ emp) := by
   cases hs : v.so i with
   | none => exact (h.noK p v.so hi hs).2.fin
   | some x => obtain ⟨ap, _, h⟩ := h.outK p v.so hi hs; exact h.drop.fin
  refine w_deref ⟨by omega, ?_⟩
  rw [eit]
  refine w_setTo h b (mL v.c ck (upP p i none) q l) rfl (by rcases lt8 hi with rfl | rfl | rfl | rfl | rfl | rfl | rfl | rfl <;> rfl) (mL_up v.c ck p q l i hi none) fun w h => ?_
  have h := h.inKN p v.so hi (upP p i none) (upL v.so i none) (fun j hj => upP_ne p none hj) (fun j hj => upL_ne v.so none hj) (upP_same p i none) (upL_same v.so i none)
  refine w_deref (w_ld (x := some ⟨q, 0⟩) h rfl (w_call (FqE.close_tri q v.q hv.q (i : Int)) h fun r w h => ?_))
  obtain ⟨cl, hcl⟩ : ∃ cl, cl = (closeF v.q (i : Int)).1 := ⟨_, rfl⟩
  have hcn : cl.length ≤ 512 := by rw [hcl]; exact close_len hv.q i
  have hrl := (h.rd (s := r)).2
  rw [← hcl] at hrl h
  have h : Own w0 S R w (led l (dropsF v.l o (cl.take (0 : Int).toNat)).2 ^ outp a (dropsF v.l o (cl.take (0 : Int).toNat)).1 ^ arr r KS cl ^ blk b (mL v.c ck (upP p i none) q l) ^ blk ck [.int .u64 v.now] ^ que q (closeF v.q (i : Int)).2 ^ AllK (upP p i none) (upL v.so i none) ^ emp) := h.fin (A := led l v.l ^ outp a o ^ arr r KS cl ^ blk b (mL v.c ck (upP p i none) q l) ^ blk ck [.int .u64 v.now] ^ que q (closeF v.q (i : Int)).2 ^ AllK (upP p i none) (upL v.so i none) ^ emp)
  refine w_loopE (fun (y : Int) (_ : Unit) => led l (dropsF v.l o (cl.take y.toNat)).2 ^ outp a (dropsF v.l o (cl.take y.toNat)).1 ^ arr r KS cl ^ blk b (mL v.c ck (upP p i none) q l) ^ blk ck [.int .u64 v.now] ^ que q (closeF v.q (i : Int)).2 ^ AllK (upP p i none) (upL v.so i none) ^ emp) (fun (y : Int) _ => 0 ≤ y ∧ y ≤ cl.length) (fun (y : Int) _ => (cl.length - y.toNat)) () h ⟨by decide, by omega⟩ ?_
  rintro K (y : Int) _ w ⟨h0, h1⟩ h next
  refine w_ite (fun c => ?_) fun c => ?_
  ·have c : y < ((r.len : Nat) : Int) := of_decide_eq_true c
   have hy : y.toNat < cl.length := by omega
   have hwi : IntKind.i64.wrap (y + 1) = y + 1 := wi (by omega) (by omega)
   have hin : (y + 1).toNat = y.toNat + 1 := by omega
   obtain ⟨s, hs⟩ : ∃ s, cl[y.toNat]? = some s := ⟨_, List.getElem?_eq_getElem hy⟩
   obtain ⟨d1, d2⟩ := drops_len v.l o (cl.take y.toNat)
   have dt : (cl.take y.toNat).length ≤ 512 := by rw [List.length_take]; omega
   refine w_idx (s := r) h h0 hy (w_ldE h r y.toNat hs rfl (w_new h fun n9 w h => w_setAll h (by rfl) fun w h => w_ldAll (b := n9) (x := s) h rfl ?_))
   refine w_call (drop_tri b a v.c (upP p i none) ck q l (dropsF v.l o (cl.take y.toNat)).2 (dropsF v.l o (cl.take y.toNat)).1 s 5 (by omega)) h fun _ w h => ?_
   have e : dropsF v.l o (cl.take (y + 1).toNat) = dropF (dropsF v.l o (cl.take y.toNat)).2 (dropsF v.l o (cl.take y.toNat)).1 s 5 := by
    rw [hin, List.take_add_one, hs]; exact drops_app _ _ _ _
   rw [← e] at h
   rw [hwi]
   exact next (y + 1) () w ⟨by omega, by omega⟩ h.fin (by show cl.length - (y + 1).toNat < cl.length - y.toNat; omega)
  ·have c : ¬ y < ((r.len : Nat) : Int) := of_decide_eq_false c
   rw [List.take_of_length_le (by omega)] at h
   have h := h.mkMach b (upP p i none) ck q l { v with so := upL v.so i none, q := (closeF v.q (i : Int)).2, l := (dropsF v.l o cl).2 }
   rw [show shutM v i o = ((dropsF v.l o cl).1, { v with so := upL v.so i none, q := (closeF v.q (i : Int)).2, l := (dropsF v.l o cl).2 }) by unfold shutM; rw [← hcl]]
   exact h.fin
abbrev KR : Ks := [.int .u64, .int .u64]
structure OkD (d : Dd) : Prop where
 l : dL d < 9223372036854775808
 u : U (dU d)
 a : U (dA d)
 c : 0 ≤ cH (dC d) ∧ U (cR (dC d))
theorem told_tri (ap : Nat) (k : Int) (x : Sk) (hx : IvB k x) (now : Int) (hn : U now) (d : Dd) (hd : OkD d) (xs : List (Ks.T KR)) (hxl : xs.length ≤ 4294967296) : Tri Tryz.prog N_egress_told [.lf (.ptr (some ⟨ap, 0⟩)), .agg (Ks.mk KD d), .lf (.int .u64 now)] [.lf (.int .i64)] (sck ap x ^ rarr (dR d) KR xs) (fun r => pur (r = (toldF x now d xs).1) (sck ap (toldF x now d xs).2)) :=
 tri_0 (call_egress_told (some ⟨ap, 0⟩) d now) fun w0 S R h => by
  unfold W_egress_told
  refine w_new (h.le (star_emp _)) fun n1 w h => w_ld (x := dK d) h rfl (w_ite (fun c => ?_) fun c => ?_)
  ·have c : dK d = 2 := by simpa using c
   refine w_ld (x := dL d) h rfl (w_call (write_tri ap x hx.i.ok.bf (dL d) hd.l) h fun r w h => ?_)
   obtain ⟨hr, h⟩ := h.purP; rw [hr]
   rw [show toldF x now d xs = writeS x (dL d) by unfold toldF; rw [if_pos c]]
   exact Own.retP rfl h.fin
  have c : ¬ dK d = 2 := by simpa using c
  refine w_ite (fun c3 => ?_) fun c3 => ?_
  ·have c3 : dK d = 3 := by simpa using c3
   refine w_ld (x := dU d) h rfl (w_ld (x := dR d) h rfl ?_)
   refine w_callL (A := sck ap x) (Q := rarr (dR d) KR xs) (SockN.sack_tri ap x hx.i.ok hx.i.ps now (dU d) hn (dR d) xs hxl) h fun r w h => ?_
   obtain ⟨hr, h⟩ := h.purP; rw [hr]
   rw [show toldF x now d xs = SockL.ackS x now (dU d) xs by unfold toldF; rw [if_neg c, if_pos c3]]
   exact Own.retP rfl h.fin
  have c3 : ¬ dK d = 3 := by simpa using c3
  refine w_ite (fun c4 => ?_) fun c4 => ?_
  ·have c4 : dK d = 4 := by simpa using c4
   refine w_call (SockJ.slose_tri ap x hx.i.ok now hn) h fun r w h => ?_
   obtain ⟨hr, h⟩ := h.purP; rw [hr]
   rw [show toldF x now d xs = (0, loseS x now) by unfold toldF; rw [if_neg c, if_neg c3, if_pos c4]]
   exact Own.retP rfl h.fin
  ·have c4 : ¬ dK d = 4 := by simpa using c4
   refine w_ld (x := dL d) h rfl (w_call (SockC.done_tri ap x hx.i.ok.out (dL d) hd.l) h fun r w h => ?_)
   obtain ⟨hr, h⟩ := h.purP; rw [hr]
   rw [show toldF x now d xs = doneS x (dL d) by unfold toldF; rw [if_neg c, if_neg c3, if_neg c4]]
   exact Own.retP rfl h.fin
end EgE

namespace EgF
open Arith ArithC TreeF FqM FqC SockC EgM EgA EgB EgC EgD EgE
open SockM (Sk emitS doneS writeS loseS newS skFl skTso mayS)
open SockO (IvS)
open SockV (IvB)
theorem upL_upL {α : Type} (l : Nat → α) (i : Nat) (x y : α) : upL (upL l i x) i y = upL l i y := funext fun j => by unfold upL; split <;> rfl
theorem ivB_le {k j : Int} {v : Sk} (h : IvB k v) (hj : k ≤ j) (hj2 : j ≤ 1000000) : IvB j v :=
 { i := h.i.le hj, kr := by have := h.kr; omega, g := h.g, b := SockV.Bd_le h.b (by omega) }
theorem OkMc_le {k j : Int} {v : Mc} (h : OkMc k v) (hj : k ≤ j) (hj2 : j ≤ 1000000) : OkMc j v :=
 { c := h.c, now := h.now, q := h.q, so := fun i x hx => ⟨ivB_le (h.so i x hx).1 hj hj2, (h.so i x hx).2⟩, kr := by have := h.kr; omega }
theorem told_ok {k : Int} {x : Sk} (hx : IvB k x) (hk : k < 1000000) {now : Int} (hn : U now) (d : Dd) (xs : List (Int × Int)) : IvB (k + 1) (toldF x now d xs).2 ∧ (toldF x now d xs).2.id = x.id := by
 unfold toldF
 split
 ·exact ⟨hx.write hk _, rfl⟩
 ·split
  ·exact ⟨hx.ack hk hn _ _, by unfold SockL.ackS; split <;> rfl⟩
  ·split
   ·exact ⟨hx.lose hk hn, rfl⟩
   ·exact ⟨hx.done hk _, by unfold doneS; split <;> rfl⟩
theorem upS_ok {k : Int} {v : Mc} (hv : OkMc k v) {i : Nat} (hi : i < 8) {x : Sk} (hx : IvB k x) (hid : x.id = (i : Int)) : OkMc k { v with so := upL v.so i (some x) } := by
 have hso : ∀ j y, upL v.so i (some x) j = some y → IvB k y ∧ y.id = (j : Int) ∧ j < 8 := fun j y hy => by
  by_cases e : j = i
  ·subst e
   rw [upL_same] at hy
   cases hy; exact ⟨hx, hid, hi⟩
  ·rw [upL_ne _ _ e] at hy; exact hv.so j y hy
 exact { hv with so := hso }
theorem upN_ok {k : Int} {v : Mc} (hv : OkMc k v) (i : Nat) : OkMc k { v with so := upL v.so i none } := by
 have hso : ∀ j y, upL v.so i none j = some y → IvB k y ∧ y.id = (j : Int) ∧ j < 8 := fun j y hy => by
  by_cases e : j = i
  ·subst e
   rw [upL_same] at hy; cases hy
  ·rw [upL_ne _ _ e] at hy; exact hv.so j y hy
 exact { hv with so := hso }
theorem one_tri (b a : Nat) (k : Int) (v : Mc) (hv : OkMc k v) (hk : k < 1000000) (d : Dd) (hd : OkD d) (xs : List (Ks.T KR)) (hxl : xs.length ≤ 4294967296) (o : Ou) (hl : o.dr.length ≤ 400 ∧ o.ft.length ≤ 400) :
  Tri Tryz.prog N_egress_Machine_one [.lf (.ptr (some ⟨b, 0⟩)), .agg (Ks.mk KD d), .lf (.ptr (some ⟨a, 0⟩))] [.lf (.int .i64)] ((mach b v ^ outp a o) ^ rarr (dR d) KR xs) (fun r => pur (r = (oneM v d xs o).1) (mach b (oneM v d xs o).2.2 ^ outp a (oneM v d xs o).2.1)) :=
 tri_0 (call_egress_Machine_one (some ⟨b, 0⟩) d (some ⟨a, 0⟩)) fun w0 S R h => by
  unfold W_egress_Machine_one
  refine w_new (h.le (star_emp _)) fun n1 w h => w_ld (x := dS d) h rfl (w_call (is_tri (dS d)) (h.le ((star_emp _).trans (star_comm _ _))) fun r w h => ?_)
  obtain ⟨hr, h⟩ := h.purP; rw [hr]
  have h : Own w0 S R w (blk n1 (Ks.mk KD d) ^ mach b v ^ outp a o ^ rarr (dR d) KR xs ^ emp) := h.fin
  refine w_ite (fun c => ?_) fun c => ?_
  ·have c : ¬ (0 ≤ dS d ∧ dS d < 8) := fun hh => by rw [decide_eq_true hh] at c; cases c
   rw [show oneM v d xs o = (8, o, v) by unfold oneM; rw [if_pos c]]
   exact Own.retP rfl h.fin
  have c : 0 ≤ dS d ∧ dS d < 8 := by
   by_cases hh : 0 ≤ dS d ∧ dS d < 8
   ·exact hh
   ·rw [decide_eq_false hh] at c; cases c
  obtain ⟨i, hi⟩ : ∃ i : Nat, dS d = (i : Int) := ⟨(dS d).toNat, by omega⟩
  have hi8 : i < 8 := by omega
  have eit : ((i : Nat) : Int).toNat = i := Int.toNat_natCast i
  have hone : oneM v d xs o = match v.so i with
    | none => if dK d = 1 then (0, o, { v with so := upL v.so i (some (newS (i : Int) (cMss v.c) (cCap v.c))) }) else (10, o, v)
    | some x => if dK d = 1 then (9, o, v) else if dK d = 9 then (0, (shutM v i o).1, (shutM v i o).2)
     else if (toldF x v.now d xs).1 = 0 then (0, (pumpM v i (toldF x v.now d xs).2 o).1, (pumpM v i (toldF x v.now d xs).2 o).2)
     else ((toldF x v.now d xs).1, o, { v with so := upL v.so i (some (toldF x v.now d xs).2) }) := by
   unfold oneM
   rw [if_neg (fun hh => hh c), hi, eit]
   cases v.so i <;> rfl
  obtain ⟨p, ck, q, l, h⟩ := h.mach b
  have hsn := isNK h p v.so hi8
  have hat : Ks.un [.ptr] (((mL v.c ck p q l).drop (0 + 10 + (dS d).toNat * 1)).take 1) = some (p i) := by rw [hi, eit, mL_at v.c ck p q l i hi8]
  refine w_drw h fun w h => w_ld (x := dS d) h rfl (w_deref ⟨c, w_ld h hat (w_ld (x := dK d) h rfl ?_)⟩)
  cases hs : v.so i with
  | none =>
   rw [hs] at hsn hone
   have hpn : p i = none := by simpa using hsn
   rw [hpn]
   refine w_ite (fun cc => (by simp at cc)) fun _ => w_ld (x := dK d) h rfl (w_ite (fun c1 => ?_) fun c1 => ?_)
   ·have c1 : dK d = 1 := by simpa using c1
    dsimp only at hone
    rw [if_pos c1] at hone
    rw [hone]
    refine w_drw h fun w h => w_ld (x := dS d) h rfl (w_ld (x := dS d) h rfl (w_deref (w_deref (w_ld (x := v.c) h rfl ?_))))
    rw [hi]
    refine w_call (SockK.snew_tri (i : Int) v.c) (h.le ((star_emp _).trans (star_comm _ _))) fun r w h => ?_
    obtain ⟨ap, h⟩ := h.exP
    obtain ⟨hr, h⟩ := h.purP; rw [hr]
    have h : Own w0 S R w (sck ap (newS (i : Int) (cMss v.c) (cCap v.c)) ^ blk n1 (Ks.mk KD d) ^ (blk b (mL v.c ck p q l) ^ blk ck [.int .u64 v.now] ^ que q v.q ^ led l v.l ^ AllK p v.so) ^ outp a o ^ emp) := h.fin
    refine w_chk h (by show [Lf.int IntKind.i64 (dS d)] = _; rw [hi]; rfl) ⟨by omega, ?_⟩
    rw [eit]
    obtain ⟨_, h⟩ := h.noK p v.so hi8 hs
    refine w_setTo h b (mL v.c ck (upP p i (some ⟨ap, 0⟩)) q l) rfl (by rcases lt8 hi8 with rfl | rfl | rfl | rfl | rfl | rfl | rfl | rfl <;> rfl) (mL_up v.c ck p q l i hi8 (some ⟨ap, 0⟩)) fun w h => ?_
    have h := h.inK p v.so hi8 (upP p i (some ⟨ap, 0⟩)) (upL v.so i (some (newS (i : Int) (cMss v.c) (cCap v.c)))) ap (newS (i : Int) (cMss v.c) (cCap v.c)) (fun j hj => upP_ne p _ hj) (fun j hj => upL_ne v.so _ hj) (upP_same p i _) (upL_same v.so i _)
    have h := h.mkMach b (upP p i (some ⟨ap, 0⟩)) ck q l { v with so := upL v.so i (some (newS (i : Int) (cMss v.c) (cCap v.c))) }
    exact Own.retP rfl h.fin
   ·have c1 : ¬ dK d = 1 := by simpa using c1
    dsimp only at hone
    rw [if_neg c1] at hone
    rw [hone]
    refine w_ite (fun _ => ?_) fun cc => (by simp at cc)
    have h := h.mkMach b p ck q l v
    exact Own.retP rfl h.fin
  | some x =>
   obtain ⟨hx, hid, _⟩ := hv.so i x hs
   rw [hs] at hsn hone
   obtain ⟨ap, hp, h⟩ := h.outK p v.so hi8 hs
   rw [hp]
   refine w_ite (fun c1 => ?_) fun c1 => ?_
   ·have c1 : dK d = 1 := by simpa using c1
    dsimp only at hone
    rw [if_pos c1] at hone
    rw [hone]
    have h := h.inK p v.so hi8 p v.so ap x (fun _ _ => rfl) (fun _ _ => rfl) hp hs
    have h := h.mkMach b p ck q l v
    exact Own.retP rfl h.fin
   have c1 : ¬ dK d = 1 := by simpa using c1
   dsimp only at hone
   rw [if_neg c1] at hone
   refine w_ld (x := dK d) h rfl (w_ite (fun cc => (by simp at cc; exact absurd cc c1)) fun _ => w_ite (fun cc => (by simp at cc)) fun _ => w_ld (x := dK d) h rfl (w_ite (fun c9 => ?_) fun c9 => ?_))
   ·have c9 : dK d = 9 := by simpa using c9
    rw [if_pos c9] at hone
    rw [hone]
    have h := h.inK p v.so hi8 p v.so ap x (fun _ _ => rfl) (fun _ _ => rfl) hp hs
    have h := h.mkMach b p ck q l v
    refine w_ld (x := dS d) h rfl ?_
    rw [hi]
    refine w_call (shut_tri b a k v hv i hi8 o hl) h fun _ w h => ?_
    exact Own.retP rfl h.fin
   have c9 : ¬ dK d = 9 := by simpa using c9
   rw [if_neg c9] at hone
   refine w_drw h fun w h => w_ldAll (b := n1) (x := d) h rfl (w_call (mnowO_tri b v.c p ck q l v.now) h fun r w h => ?_)
   obtain ⟨hr, h⟩ := h.purP; rw [hr]
   refine w_chkAll (b := n1) h ?_
   refine w_callL (A := sck ap x) (Q := rarr (dR d) KR xs) (told_tri ap k x hx v.now hv.un d hd xs hxl) h fun r w h => ?_
   obtain ⟨hr, h⟩ := h.purP; rw [hr]
   obtain ⟨hx2, hid2⟩ := told_ok hx hk hv.un d xs
   have h := h.inK p v.so hi8 p (upL v.so i (some (toldF x v.now d xs).2)) ap (toldF x v.now d xs).2 (fun _ _ => rfl) (fun j hj => upL_ne v.so _ hj) hp (upL_same v.so i _)
   have h := h.mkMach b p ck q l { v with so := upL v.so i (some (toldF x v.now d xs).2) }
   have hv2 : OkMc (k + 1) { v with so := upL v.so i (some (toldF x v.now d xs).2) } := upS_ok (OkMc_le hv (by omega) (by omega)) hi8 hx2 (hid2.trans hid)
   refine w_ite (fun c0 => ?_) fun c0 => ?_
   ·have c0 : (toldF x v.now d xs).1 = 0 := by simpa using c0
    rw [if_pos c0] at hone
    rw [hone]
    refine w_ld (x := dS d) h rfl ?_
    rw [hi]
    refine w_call (pump_tri b a (k + 1) { v with so := upL v.so i (some (toldF x v.now d xs).2) } hv2 i (toldF x v.now d xs).2 (upL_same v.so i _) o (by omega)) h fun _ w h => ?_
    have e : pumpM { v with so := upL v.so i (some (toldF x v.now d xs).2) } i (toldF x v.now d xs).2 o = pumpM v i (toldF x v.now d xs).2 o := by
     unfold pumpM
     dsimp only
     rw [upL_upL]
    rw [e] at h
    exact Own.retP c0 h.fin
   ·have c0 : ¬ (toldF x v.now d xs).1 = 0 := by simpa using c0
    rw [if_neg c0] at hone
    rw [hone]
    exact Own.retP rfl h.fin
abbrev KOu : Ks := [.sl, .sl, .sl, .int .u64]
def outR (r : Ks.T KOu) (o : Ou) : SP := pur (r.2.2.2 = o.wd) (arr r.1 KS o.dep ^ arr r.2.1 KS o.dr ^ arr r.2.2.1 KI o.ft)
theorem do_tri (b : Nat) (k : Int) (v : Mc) (hv : OkMc k v) (hk : k < 1000000) (d : Dd) (hd : OkD d) (xs : List (Ks.T KR)) (hxl : xs.length ≤ 4294967296) :
  Tri Tryz.prog N_egress_Machine_Do [.lf (.ptr (some ⟨b, 0⟩)), .agg (Ks.mk KD d)] [.agg KOu, .lf (.int .i64)] (mach b v ^ rarr (dR d) KR xs) (fun r => pur (r.2 = (doF v d xs).1.2) (mach b (doF v d xs).2 ^ outR r.1 (doF v d xs).1.1)) :=
 tri_0 (call_egress_Machine_Do (some ⟨b, 0⟩) d) fun w0 S R h => by
  unfold W_egress_Machine_Do
  refine w_new (h.le (star_emp _)) fun n1 w h => w_new h fun n2 w h => w_ite (fun c => (by simp at c)) fun _ => w_new h fun n4 w h => ?_
  have h := h.nil KS
  have h := h.nil KS
  have h := h.nil KI
  have h := h.mkOutp n4 ⟨none, 0, 0⟩ ⟨none, 0, 0⟩ ⟨none, 0, 0⟩ ou0
  have h : Own w0 S R w (blk n1 (Ks.mk KD d) ^ outp n4 ou0 ^ mach b v ^ rarr (dR d) KR xs ^ blk n2 [.sl ⟨none, 0, 0⟩, .sl ⟨none, 0, 0⟩, .sl ⟨none, 0, 0⟩, .int .u64 0] ^ emp) := h.fin
  refine w_join h (fun _ => outp n4 (stepM v d xs).2.1 ^ mach b (stepM v d xs).2.2 ^ blk n2 [.sl ⟨none, 0, 0⟩, .sl ⟨none, 0, 0⟩, .sl ⟨none, 0, 0⟩, .int .u64 0] ^ emp) (fun y : Int => y = (stepM v d xs).1) (fun (y : Int) w hy h => ?_) ?_
  ·rw [hy]
   refine w_ite (fun c => ?_) fun c => ?_
   ·have c : (stepM v d xs).1 ≠ 0 := by simpa using c
    rw [show doF v d xs = ((ou0, (stepM v d xs).1), (stepM v d xs).2.2) by unfold doF; rw [if_pos c]]
    refine w_setAll h (by rfl) fun w h => w_ldAll (b := n2) (x := ((⟨none, 0, 0⟩, ⟨none, 0, 0⟩, ⟨none, 0, 0⟩, 0) : Ks.T KOu)) h rfl ?_
    have h := h.nil KS
    have h := h.nil KS
    have h := h.nil KI
    have h : Own w0 S R w (outR (⟨none, 0, 0⟩, ⟨none, 0, 0⟩, ⟨none, 0, 0⟩, 0) ou0 ^ mach b (stepM v d xs).2.2 ^ emp) := Own.toPur (p := ((⟨none, 0, 0⟩, ⟨none, 0, 0⟩, ⟨none, 0, 0⟩, 0) : Ks.T KOu).2.2.2 = ou0.wd) (A := arr ⟨none, 0, 0⟩ KS [] ^ arr ⟨none, 0, 0⟩ KS [] ^ arr ⟨none, 0, 0⟩ KI []) rfl h.fin
    exact Own.retP rfl h.fin
   ·have c : (stepM v d xs).1 = 0 := by simpa using c
    rw [show doF v d xs = (((stepM v d xs).2.1, 0), (stepM v d xs).2.2) by unfold doF; rw [if_neg (fun x => x c)]]
    obtain ⟨s1, s2, s3, h⟩ := h.outp n4
    refine w_ldAll (b := n4) (x := ((s1, s2, s3, (stepM v d xs).2.1.wd) : Ks.T KOu)) h rfl (w_setAll h (by rfl) fun w h => w_ldAll (b := n2) (x := ((s1, s2, s3, (stepM v d xs).2.1.wd) : Ks.T KOu)) h rfl ?_)
    have h : Own w0 S R w (outR (s1, s2, s3, (stepM v d xs).2.1.wd) (stepM v d xs).2.1 ^ mach b (stepM v d xs).2.2 ^ emp) := Own.toPur (p := ((s1, s2, s3, (stepM v d xs).2.1.wd) : Ks.T KOu).2.2.2 = (stepM v d xs).2.1.wd) (A := arr s1 KS (stepM v d xs).2.1.dep ^ arr s2 KS (stepM v d xs).2.1.dr ^ arr s3 KI (stepM v d xs).2.1.ft) rfl h.fin
    exact Own.retP rfl h.fin
  ·refine w_ld (x := dK d) h rfl (w_ite (fun c5 => ?_) fun c5 => ?_)
   ·have c5 : dK d = 5 := by simpa using c5
    rw [show stepM v d xs = ((moveF v.now (dA d)).1, ou0, { v with now := (moveF v.now (dA d)).2 }) by unfold stepM; rw [if_pos c5]]
    obtain ⟨p, ck, q, l, h⟩ := h.mach b
    refine w_drw h fun w h => w_deref (w_ld (x := dA d) h rfl (w_ld (x := some ⟨ck, 0⟩) h rfl (w_call (move_tri ck v.now (dA d)) h fun r w h => ?_)))
    obtain ⟨hr, h⟩ := h.purP; rw [hr]
    have h := h.mkMach b p ck q l { v with now := (moveF v.now (dA d)).2 }
    exact ⟨rfl, h.fin⟩
   have c5 : ¬ dK d = 5 := by simpa using c5
   refine w_ite (fun c6 => ?_) fun c6 => ?_
   ·have c6 : dK d = 6 := by simpa using c6
    rw [show stepM v d xs = (0, (pullF v ou0).1, (pullF v ou0).2) by unfold stepM; rw [if_neg c5, if_pos c6]]
    refine w_call (pull_tri b n4 k v hv ou0) h fun _ w h => ?_
    exact ⟨rfl, h.fin⟩
   have c6 : ¬ dK d = 6 := by simpa using c6
   refine w_ite (fun c8 => ?_) fun c8 => ?_
   ·have c8 : dK d = 8 := by simpa using c8
    rw [show stepM v d xs = ((setM v (dC d)).1, ou0, (setM v (dC d)).2) by unfold stepM; rw [if_neg c5, if_neg c6, if_pos c8]]
    refine w_ld (x := dC d) h rfl (w_call (set_tri b v (dC d)) h fun r w h => ?_)
    obtain ⟨hr, h⟩ := h.purP; rw [hr]
    exact ⟨rfl, h.fin⟩
   have c8 : ¬ dK d = 8 := by simpa using c8
   have estep : stepM v d xs = if isOne (dK d) then oneM v d xs ou0 else (12, ou0, v) := by unfold stepM; rw [if_neg c5, if_neg c6, if_neg c8]
   refine w_join h (fun _ => blk n1 (Ks.mk KD d) ^ outp n4 ou0 ^ mach b v ^ rarr (dR d) KR xs ^ blk n2 [.sl ⟨none, 0, 0⟩, .sl ⟨none, 0, 0⟩, .sl ⟨none, 0, 0⟩, .int .u64 0] ^ emp) (fun y : Bool => y = isOne (dK d)) (fun (y : Bool) w hy h => ?_) ?_
   ·rw [hy]
    refine w_ite (fun c => ?_) fun c => ?_
    ·rw [if_pos c] at estep
     rw [estep]
     refine w_ldAll (b := n1) (x := d) h rfl ?_
     refine w_callL (A := mach b v ^ outp n4 ou0) (Q := rarr (dR d) KR xs) (one_tri b n4 k v hv hk d hd xs hxl ou0 ⟨by show (0:Nat) ≤ 400; decide, by show (0:Nat) ≤ 400; decide⟩) h fun r w h => ?_
     obtain ⟨hr, h⟩ := h.purP; rw [hr]
     exact ⟨rfl, h.fin⟩
    ·rw [if_neg (by rw [c]; simp)] at estep
     rw [estep]
     exact ⟨rfl, h.fin⟩
   ·unfold isOne
    refine w_ite (fun c => ⟨by rw [c]; rfl, h⟩) fun d1 => ?_
    refine w_ite (fun c => ⟨by rw [d1, c]; rfl, h⟩) fun d2 => ?_
    refine w_ite (fun c => ⟨by rw [d1, d2, c]; rfl, h⟩) fun d3 => ?_
    refine w_ite (fun c => ⟨by rw [d1, d2, d3, c]; rfl, h⟩) fun d4 => ?_
    refine w_ite (fun c => ⟨by rw [d1, d2, d3, d4, c]; rfl, h⟩) fun d5 => ?_
    exact ⟨by rw [d1, d2, d3, d4, d5]; rfl, h⟩
end EgF

namespace EgG
open Arith ArithC FqM EgM
abbrev KR : Ks := [.int .u64, .int .u64]
end EgG

namespace EgH
open Arith ArithC TreeF FqM FqC SockC EgM EgA EgB EgC EgD EgE EgF
open SockM (Sk emitS doneS writeS loseS newS skFl skTso mayS)
open SockO (IvS)
open SockV (IvB)
theorem pump_ok {k : Int} {v : Mc} (hv : OkMc k v) {i : Nat} (hi : i < 8) {x : Sk} (hx : IvB k x) (hid : x.id = (i : Int)) (o : Ou) : OkMc k (pumpM v i x o).2 := by
 have h := pumpN_ok hv.un (fresh x + 1) ⟨x, v.q, v.l, o⟩ (⟨hx, hid, hv.q⟩ : OkPm k i ⟨x, v.q, v.l, o⟩)
 have h2 := upS_ok hv hi (x := (pumpF i v.now ⟨x, v.q, v.l, o⟩).v) h.v h.id
 exact { h2 with q := h.q }
theorem shut_ok {k : Int} {v : Mc} (hv : OkMc k v) (i : Nat) (o : Ou) : OkMc k (shutM v i o).2 := by
 have h := upN_ok hv i
 exact { h with q := hv.q.close _ }
theorem pull_ok {k : Int} {v : Mc} (hv : OkMc k v) (o : Ou) : OkMc k (pullF v o).2 := by
 have h := FqN.deq_ok hv.q hv.un (rates_U hv)
 unfold pullF
 split
 ·rename_i s q e; rw [e] at h; exact { hv with q := h }
 ·rename_i q e; rw [e] at h; exact { hv with q := h }
theorem set_ok {k : Int} {v : Mc} (hv : OkMc k v) {c : Cf} (hc : 0 ≤ cH c ∧ U (cR c)) : OkMc k (setM v c).2 := by
 have h := hv.q.set hc
 unfold setM
 split
 ·rename_i h0
  refine { hv with q := h, c := ?_ }
  unfold setF at h0
  by_cases hm : may c = true
  ·exact may_ok hm hc.1 hc.2
  ·rw [if_neg hm] at h0; cases h0
 ·exact { hv with q := h }
theorem one_ok {k : Int} {v : Mc} (hv : OkMc k v) (hk : k < 1000000) (d : Dd) (xs : List (Int × Int)) (o : Ou) : OkMc (k + 1) (oneM v d xs o).2.2 := by
 have h1 := OkMc_le hv (j := k + 1) (by omega) (by omega)
 have hc := hv.c.cap
 unfold oneM
 split
 ·exact h1
 ·rename_i hi
  have hi : 0 ≤ dS d ∧ dS d < 8 := Classical.not_not.1 hi
  have hi8 : (dS d).toNat < 8 := by omega
  split
  ·split
   ·have hn := SockV.new_ivB (dS d) (cMss v.c) (cCap v.c) ⟨by omega, hc.2⟩
    exact upS_ok h1 hi8 (ivB_le hn h1.kr.1 (by omega)) (by show dS d = _; omega)
   ·exact h1
  ·rename_i x hx
   obtain ⟨hxi, hxd, _⟩ := hv.so _ x hx
   split
   ·exact h1
   ·split
    ·exact shut_ok h1 _ _
    ·obtain ⟨a, b⟩ := told_ok hxi hk hv.un d xs
     split
     ·exact pump_ok h1 hi8 a (b.trans hxd) o
     ·exact upS_ok h1 hi8 a (b.trans hxd)
theorem do_ok {k : Int} {v : Mc} (hv : OkMc k v) (hk : k < 1000000) {d : Dd} (hd : OkD d) (xs : List (Int × Int)) : OkMc (k + 1) (doF v d xs).2 := by
 have h1 := OkMc_le hv (j := k + 1) (by omega) (by omega)
 have e : (doF v d xs).2 = (stepM v d xs).2.2 := by unfold doF; split <;> rfl
 rw [e]
 unfold stepM
 split
 ·have hn := hv.now
  have ha := hd.a
  unfold U at ha
  refine { h1 with now := ?_ }
  show 0 ≤ (moveF v.now (dA d)).2 ∧ (moveF v.now (dA d)).2 ≤ 4611686018427387904
  unfold moveF
  split
  ·exact hn
  ·split
   ·exact hn
   ·exact ⟨ha.1, by show dA d ≤ _; omega⟩
 ·split
  ·exact pull_ok h1 _
  ·split
   ·exact set_ok h1 hd.c
   ·split
    ·exact one_ok hv hk d xs ou0
    ·exact h1
theorem new_ok {c : Cf} (hc : OkC c) : OkMc 0 (newM c) where
 c := hc
 now := by show (0:Int) ≤ 0 ∧ (0:Int) ≤ 4611686018427387904; decide
 q := OkQ.new hc
 so := fun i x h => by cases h
 kr := by decide
theorem _root_.Go.X.Own.outR {w0 w : World} {S0 R0 : Nat → Prop} {F G : SP} (h : Own w0 S0 R0 w F) (r : Ks.T KOu) {o : Ou} [tk : TakeK EgF.outR r F o G] : r.2.2.2 = o.wd ∧ Own w0 S0 R0 w (arr r.1 KS o.dep ^ arr r.2.1 KS o.dr ^ arr r.2.2.1 KI o.ft ^ G) := by
 have h : Own w0 S0 R0 w (pur (r.2.2.2 = o.wd) (arr r.1 KS o.dep ^ arr r.2.1 KS o.dr ^ arr r.2.2.1 KI o.ft) ^ G) := h.le tk.le
 obtain ⟨hr, h⟩ := h.purP
 exact ⟨hr, h.fin⟩
theorem nil_rarr (A : SP) (K : Ks) : Le A (A ^ rarr ⟨none, 0, 0⟩ K []) :=
 (star_emp A).trans (star_mono Le.rfl fun w S R h => ⟨⟨⟨by simp [flat], fun _ => rfl, fun q hq => by cases hq⟩, rfl⟩, h.1, fun k => ⟨fun hk => absurd hk (h.2 k), fun hk => absurd rfl hk.2⟩⟩)
theorem do0_tri (b : Nat) (k : Int) (v : Mc) (hv : OkMc k v) (hk : k < 1000000) (d : Dd) (hd : OkD d) (hR : dR d = ⟨none, 0, 0⟩) :
  Tri Tryz.prog N_egress_Machine_Do [.lf (.ptr (some ⟨b, 0⟩)), .agg (Ks.mk KD d)] [.agg KOu, .lf (.int .i64)] (mach b v) (fun r => pur (r.2 = (doF v d []).1.2) (mach b (doF v d []).2 ^ outR r.1 (doF v d []).1.1)) :=
 (do_tri b k v hv hk d hd [] (by simp)).le (by rw [hR]; exact nil_rarr _ _) (fun _ => Le.rfl)
abbrev plainC : Cf := (3000, 15000, 100, 50, 10000000000, 0, false, 100000, 1000)
theorem plain_ok : OkC plainC := FqH.plain_ok
abbrev dOpen (s : Int) : Dd := (1, s, 0, 0, 0, ⟨none, 0, 0⟩, 0, 0, 0, 0, 0, 0, false, 0, 0)
abbrev dSend (s n : Int) : Dd := (2, s, n, 0, 0, ⟨none, 0, 0⟩, 0, 0, 0, 0, 0, 0, false, 0, 0)
abbrev dPull : Dd := (6, 0, 0, 0, 0, ⟨none, 0, 0⟩, 0, 0, 0, 0, 0, 0, false, 0, 0)
theorem dOpen_ok (s : Int) : OkD (dOpen s) := ⟨(by decide : (0:Int) < 9223372036854775808), U_lit 0, U_lit 0, (by decide : (0:Int) ≤ 0), U_lit 0⟩
theorem dSend_ok (s n : Int) (h : n < 9223372036854775808) : OkD (dSend s n) := ⟨h, U_lit 0, U_lit 0, (by decide : (0:Int) ≤ 0), U_lit 0⟩
theorem dPull_ok : OkD dPull := ⟨(by decide : (0:Int) < 9223372036854775808), U_lit 0, U_lit 0, (by decide : (0:Int) ≤ 0), U_lit 0⟩
abbrev aw1 : Mc := (doF (newM plainC) (dOpen 0) []).2
abbrev aw2 : Mc := (doF aw1 (dSend 0 1000) []).2
theorem awake_eq : (doF aw1 (dSend 0 1000) []).1.2 = 0 ∧ (doF aw2 dPull []).1.2 = 0 ∧ (doF aw2 dPull []).1.1.dep = [(0, 0, 1000, 0, false)] := by decide +kernel
theorem awake_tri : Tri Tryz.prog N_canterlaw26_awake [] [.lf .bool] emp (fun r => pur (r = true) emp) :=
 tri_0 call_canterlaw26_awake fun w0 S R h => by
  unfold W_canterlaw26_awake
  obtain ⟨h1, h2, h3⟩ := awake_eq
  have o0 := new_ok plain_ok
  have o1 := do_ok o0 (by decide) (dOpen_ok 0) []
  have o2 := do_ok o1 (by decide) (dSend_ok 0 1000 (by decide)) []
  refine w_call FqH.plain_tri (h.le (star_emp _)) fun r w h => ?_
  obtain ⟨hr, h⟩ := h.purP; rw [hr]
  refine w_call (EgE.new_tri plainC) h fun r w h => ?_
  obtain ⟨b, h⟩ := h.exP
  obtain ⟨hr, h⟩ := h.purP
  rw [if_pos FqH.plain_may] at hr h
  rw [hr]
  have h : Own w0 S R w (mach b (newM plainC) ^ emp) := h.fin
  refine w_join h (fun _ => mach b (newM plainC) ^ emp) (fun _ => True) (fun _ w _ h => ?_) ?_
  ·refine w_call (do0_tri b 0 (newM plainC) o0 (by decide) (dOpen 0) (dOpen_ok 0) rfl) h fun r w h => ?_
   obtain ⟨_, h⟩ := h.purP
   have h : Own w0 S R w (mach b aw1 ^ emp) := h.fin
   refine w_call (do0_tri b (0 + 1) aw1 o1 (by decide) (dSend 0 1000) (dSend_ok 0 1000 (by decide)) rfl) h fun r w h => ?_
   obtain ⟨hr, h⟩ := h.purP; rw [hr, h1]
   have h : Own w0 S R w (mach b aw2 ^ emp) := h.fin
   refine w_new h fun n8 w h => w_setAll h (by rfl) fun w h => ?_
   refine w_call (do0_tri b (0 + 1 + 1) aw2 o2 (by decide) dPull dPull_ok rfl) h fun r w h => ?_
   obtain ⟨⟨s1, s2, s3, wd⟩, e⟩ := r
   obtain ⟨hr, h⟩ := h.purP
   dsimp only at hr h ⊢
   rw [hr, h2]
   obtain ⟨_, h⟩ := h.outR (s1, s2, s3, wd)
   dsimp only at h
   rw [h3] at h
   have hl := (h.rd (s := s1)).2
   refine w_new h fun n10 w h => w_setAll h (by rfl) fun w h => w_ite (fun _ => ?_) fun c => (by cases c)
   refine w_ld (x := s1) h rfl (w_ite (fun _ => ?_) fun c => (by rw [hl] at c; cases c))
   refine w_ld (x := s1) h rfl (w_idx (s := s1) h (by decide) (by show 0 < 1; decide) (w_ldA h s1 0 2 ((0, 0, 1000, 0, false) : Sg) rfl rfl (by decide) (x := (1000 : Int)) rfl ?_))
   exact Own.retP rfl h.emp'
  ·refine w_ite (fun c => (by cases c)) fun _ => ?_
   refine w_call (queued_tri b (newM plainC)) h fun r w h => ?_
   obtain ⟨hr, h⟩ := h.purP; rw [hr]
   refine w_ite (fun c => (by cases c)) fun _ => ⟨trivial, h⟩
end EgH

namespace EgJ
open Arith ArithC TreeF FqM FqC SockC EgM EgA EgB EgC EgD EgE EgF EgG EgH
open SockM (Sk emitS doneS writeS loseS newS skFl skTso mayS)
open SockO (IvS)
open SockV (IvB)
abbrev b0 (c : Ct) : Int := c.2.1
abbrev b1 (c : Ct) : Int := c.2.2.1
abbrev b2 (c : Ct) : Int := c.2.2.2.1
abbrev b3 (c : Ct) : Int := c.2.2.2.2.1
abbrev b4 (c : Ct) : Int := c.2.2.2.2.2.1
abbrev b5 (c : Ct) : Int := c.2.2.2.2.2.2.1
end EgJ

namespace EgK
open Arith ArithC TreeF FqM FqC SockC EgM EgA EgB EgC EgD EgE EgF EgG EgH EgJ
open SockM (Sk emitS doneS writeS loseS newS skFl skTso mayS)
section
variable {w0 w : World} {S R : Nat → Prop}
end
abbrev c8 (c : Ct) : List Int := [c.1, b0 c, b1 c, b2 c, b3 c, b4 c, b5 c, cWt c]
end EgK

namespace EgL
open Arith ArithC TreeF FqM FqC SockC EgM EgA EgB EgC EgD EgE EgF EgG EgH EgJ EgK
open SockM (Sk emitS doneS writeS loseS newS skFl skTso mayS)
section
variable {w0 w : World} {S R : Nat → Prop} {F G : SP}
theorem w_do0 {b : Nat} {v : Mc} {k : Int} {d : Dd} (h : Own w0 S R w F) [tk : TakeK EgB.mach b F v G] (hv : OkMc k v) (hk : k < 1000000) (hd : OkD d) (hR : dR d = ⟨none, 0, 0⟩)
  {A : Rs.T [.agg KOu, .lf (.int .i64)] → WP} (hA : ∀ (r : Rs.T [.agg KOu, .lf (.int .i64)]) (w : World), r.2 = (doF v d []).1.2 → Own w0 S R w (mach b (doF v d []).2 ^ outR r.1 (doF v d []).1.1 ^ G) → A r w) :
  call Tryz.prog N_egress_Machine_Do [.lf (.ptr (some ⟨b, 0⟩)), .agg (Ks.mk KD d)] [.agg KOu, .lf (.int .i64)] A w := by
 refine w_call (do0_tri b k v hv hk d hd hR) (h.le tk.le) fun r w h => ?_
 obtain ⟨hre, h⟩ := h.purP
 exact hA r w hre (h.le (star_assoc _ _ _))
end
abbrev dOne (k s n : Int) : Dd := (k, s, n, 0, 0, ⟨none, 0, 0⟩, 0, 0, 0, 0, 0, 0, false, 0, 0)
theorem dOne_ok (k s n : Int) (h : n < 9223372036854775808) : OkD (dOne k s n) := ⟨h, U_lit 0, U_lit 0, (by decide : (0:Int) ≤ 0), U_lit 0⟩
end EgL

namespace EgN
open Arith ArithC TreeF FqM FqC SockC EgM EgA EgB EgC EgD EgE EgF EgG EgH EgJ EgK EgL
open SockM (Sk emitS doneS writeS loseS newS skFl skTso mayS)
abbrev limC (n : Int) : Cf := (3000, 15000, n, 50, 10000000000, 0, false, 100000, 1000)
abbrev dr1 (n : Int) : Mc := (doF (newM (limC n)) (dOne 1 1 0) []).2
def drN (n : Int) : Nat → Mc
 | 0 => dr1 n
 | k + 1 => (doF (drN n k) (dOne 2 1 500) []).2
abbrev drE (n : Int) : (Ou × Int) × Mc := doF (drN n n.toNat) (dOne 2 1 500) []
def drFine (n : Int) : Bool :=
 (List.range n.toNat).all (fun k => (doF (drN n k) (dOne 2 1 500) []).1.2 == 0 && (doF (drN n k) (dOne 2 1 500) []).1.1.dr.length == 0)
  && (drE n).1.2 == 0 && (drE n).2.q.n == n && ((drE n).1.1.dr.map sFr) == [500 * n] && (drE n).1.1.ft == [2]
  && (stO (openS (drE n).2 1)).1 == 500 * n && (stO (openS (drE n).2 1)).2.1 == 500 * n + 500 && b2 (countL (drE n).2.l 1) == 1
theorem fine1 : drFine 1 = true := by decide +kernel
theorem fine2 : drFine 2 = true := by decide +kernel
theorem limC_ok {n : Int} (h : n = 1 ∨ n = 2) : OkC (limC n) ∧ may (limC n) = true := by
 rcases h with rfl | rfl
 ·exact ⟨may_ok (by decide) (by decide) (U_lit 0), by decide⟩
 ·exact ⟨may_ok (by decide) (by decide) (U_lit 0), by decide⟩
theorem drN_ok {n : Int} (h : n = 1 ∨ n = 2) : ∀ k : Nat, k ≤ 5 → OkMc (1 + (k : Int)) (drN n k)
 | 0, _ => do_ok (new_ok (limC_ok h).1) (by decide) (dOne_ok 1 1 0 (by decide)) []
 | k + 1, hk => by
  have := do_ok (drN_ok h k (by omega)) (by omega) (dOne_ok 2 1 500 (by decide)) []
  rw [show 1 + (k : Int) + 1 = 1 + ((k + 1 : Nat) : Int) by omega] at this
  exact this
theorem drops_tri (d : Int) : Tri Tryz.prog N_canterlaw26_EgressDrops [.lf (.int .i64 d)] [.lf .bool] emp (fun r => pur (r = true) emp) :=
 tri_0 (call_canterlaw26_EgressDrops d) fun w0 S R h => by
  unfold W_canterlaw26_EgressDrops
  have hud : U (IntKind.u64.wrap d) := U_wrap d
  unfold U at hud
  have hmod : (IntKind.u64.wrap d).tmod 2 = 0 ∨ (IntKind.u64.wrap d).tmod 2 = 1 := by
   rw [Int.tmod_eq_emod_of_nonneg hud.1]; omega
  obtain ⟨n, hn⟩ : ∃ n, n = IntKind.i64.wrap (1 + IntKind.i64.wrap ((IntKind.u64.wrap d).tmod 2)) := ⟨_, rfl⟩
  have hn2 : n = 1 ∨ n = 2 := by
   rw [hn]
   rcases hmod with e | e <;> rw [e]
   ·left; rfl
   ·right; rfl
  have hfine : drFine n = true := by
   rcases hn2 with rfl | rfl
   ·exact fine1
   ·exact fine2
  rw [← hn]
  unfold drFine at hfine
  simp only [Bool.and_eq_true, beq_iff_eq, List.all_eq_true, List.mem_range] at hfine
  obtain ⟨⟨⟨⟨⟨⟨⟨f1, f2⟩, f3⟩, f4⟩, f5⟩, f6⟩, f7⟩, f8⟩ := hfine
  have hC := limC_ok hn2
  refine w_call FqH.plain_tri (h.le (star_emp _)) fun r w h => ?_
  obtain ⟨hr, h⟩ := h.purP; rw [hr]
  refine w_new h fun n2 w h => w_setAll h (by rfl) fun w h => w_setTo h n2 (Ks.mk KC (limC n)) rfl rfl rfl fun w h => ?_
  refine w_ldAll (b := n2) (x := limC n) h rfl (w_call (EgE.new_tri (limC n)) (h.le ((star_emp _).trans (star_comm _ _))) fun r w h => ?_)
  obtain ⟨b, h⟩ := h.exP
  obtain ⟨hr, h⟩ := h.purP
  rw [if_pos hC.2] at hr h
  rw [hr]
  refine w_call awake_tri (h.le ((star_emp _).trans (star_comm _ _))) fun r w h => ?_
  obtain ⟨hr, h⟩ := h.purP; rw [hr]
  refine w_ite (fun c => (by cases c)) fun _ => ?_
  have h : Own w0 S R w (mach b (newM (limC n)) ^ blk n2 (Ks.mk KC (limC n)) ^ emp) := h.fin
  refine w_do0 (d := dOne 1 1 0) h (new_ok hC.1) (by decide) (dOne_ok 1 1 0 (by decide)) rfl fun r w _ h => ?_
  rw [show (doF (newM (limC n)) (dOne 1 1 0) []).2 = drN n 0 from rfl] at h
  have h : Own w0 S R w (mach b (drN n 0) ^ blk n2 (Ks.mk KC (limC n)) ^ emp) := h.fin
  refine w_loop (fun y : Int => mach b (drN n y.toNat) ^ blk n2 (Ks.mk KC (limC n)) ^ emp) (fun y : Int => 0 ≤ y ∧ y ≤ n) (fun y : Int => (n - y).toNat) h ⟨Int.le_refl 0, by omega⟩ ?_
  rintro (y : Int) w hy h
  refine w_ld (x := n) h rfl (w_ite (fun c => ?_) fun c => ?_)
  ·have c : y < n := of_decide_eq_true c
   obtain ⟨g1, g2⟩ := f1 y.toNat (by omega)
   refine w_do0 (d := dOne 2 1 500) h (drN_ok hn2 y.toNat (by omega)) (by omega) (dOne_ok 2 1 500 (by decide)) rfl fun r w hr h => ?_
   obtain ⟨⟨t1, t2, t3, t4⟩, re⟩ := r
   dsimp only at hr h ⊢
   rw [hr, g1]
   rw [show (doF (drN n y.toNat) (dOne 2 1 500) []).2 = drN n (y.toNat + 1) from rfl] at h
   obtain ⟨_, h⟩ := h.outR (t1, t2, t3, t4)
   dsimp only at h
   have ht2 := (h.rd (s := t2)).2
   rw [g2] at ht2
   have h : Own w0 S R w (mach b (drN n (y.toNat + 1)) ^ blk n2 (Ks.mk KC (limC n)) ^ emp) := h.fin
   refine w_new h fun n11 w h => w_setAll h (by rfl) fun w h => w_ite (fun c => (by cases c)) fun _ => ?_
   refine w_ld (x := t2) h rfl (w_ite (fun c => (by rw [ht2] at c; cases c)) fun _ => ?_)
   have hw : IntKind.i64.wrap (y + 1) = y + 1 := wi (by omega) (by omega)
   rw [hw]
   refine ⟨⟨⟨by omega, by omega⟩, ?_⟩, by show (n - (y + 1)).toNat < (n - y).toNat; omega⟩
   show Own w0 S R w (mach b (drN n (y + 1).toNat) ^ _)
   rw [show (y + 1).toNat = y.toNat + 1 by omega]
   exact h.fin
  ·have c : ¬ y < n := of_decide_eq_false c
   have hyn : y = n := by omega
   rw [hyn] at h
   refine w_do0 (d := dOne 2 1 500) h (drN_ok hn2 n.toNat (by omega)) (by omega) (dOne_ok 2 1 500 (by decide)) rfl fun r w hr h => ?_
   have hok := do_ok (drN_ok hn2 n.toNat (by omega)) (by omega) (dOne_ok 2 1 500 (by decide)) []
   obtain ⟨v, hv⟩ : ∃ v, v = (drE n).2 := ⟨_, rfl⟩
   obtain ⟨o, ho⟩ : ∃ o, o = (drE n).1.1 := ⟨_, rfl⟩
   rw [← hv] at h hok f3 f6 f7 f8
   rw [← ho] at h f4 f5
   obtain ⟨⟨t1, t2, t3, t4⟩, re⟩ := r
   dsimp only at hr h ⊢
   rw [hr, f2]
   obtain ⟨_, h⟩ := h.outR (t1, t2, t3, t4)
   dsimp only at h
   rw [f5] at h
   have hlen : o.dr.length = 1 := by have := congrArg List.length f4; simpa using this
   obtain ⟨s0, hs0⟩ : ∃ s, o.dr = [s] := List.length_eq_one_iff.1 hlen
   rw [hs0] at h f4
   have f4 : sFr s0 = 500 * n := by simpa using f4
   have ht2 := (h.rd (s := t2)).2
   have ht3 := (h.rd (s := t3)).2
   refine w_new h fun n14 w h => w_setAll h (by rfl) fun w h => ?_
   have h : Own w0 S R w (blk n14 (Ks.mk KOu (t1, t2, t3, t4)) ^ mach b v ^ arr t2 KS [s0] ^ arr t3 KI [2] ^ blk n2 (Ks.mk KC (limC n)) ^ emp) := h.fin
   refine w_join h (fun _ => blk n14 (Ks.mk KOu (t1, t2, t3, t4)) ^ mach b v ^ arr t2 KS [s0] ^ arr t3 KI [2] ^ blk n2 (Ks.mk KC (limC n)) ^ emp) (fun z : Bool => z = false) (fun z w hz h => ?_) ?_
   rotate_left
   ·refine w_drw h fun w h => w_ite (fun c => (by cases c)) fun _ => w_ld (x := n) h rfl (w_call (queued_tri b v) h fun r w h => ?_)
    obtain ⟨hr, h⟩ := h.purP; rw [hr, f3]
    refine w_chk h rfl (w_ite (fun c => (by simp at c)) fun _ => ?_)
    refine w_ld (x := t2) h rfl (w_ite (fun c => (by rw [ht2] at c; cases c)) fun _ => ?_)
    refine w_ld (x := t3) h rfl (w_ite (fun c => (by rw [ht3] at c; cases c)) fun _ => ?_)
    refine w_ld (x := t3) h rfl (w_idx (s := t3) h (by decide) (by show 0 < 1; decide) (w_ldE h t3 0 (y := (2 : Int)) rfl rfl ?_))
    exact ⟨rfl, h.fin⟩
   rw [hz]
   refine w_ite (fun c => (by cases c)) fun _ => ?_
   obtain ⟨A, hA⟩ : ∃ A, A = stO (openS v 1) := ⟨_, rfl⟩
   rw [← hA] at f6 f7
   refine w_call (state_tri b _ v hok 1) h fun r w h => ?_
   obtain ⟨hr, h⟩ := h.purP; rw [hr, ← hA]
   have u1 : IntKind.u64.wrap (IntKind.i64.wrap (500 * n)) = 500 * n := by rw [wi (by omega) (by omega), wu (by omega) (by omega)]
   have u2 : IntKind.u64.wrap (500 * n + 500) = 500 * n + 500 := wu (by omega) (by omega)
   refine w_new h fun n25 w h => w_setTo h n25 (Ks.mk K_u3i A) rfl rfl rfl fun w h => ?_
   refine w_ld (x := n) h rfl (w_ld (x := A.1) h rfl (w_ite (fun _ => ?_) fun c => (by rw [f6, u1] at c; simp at c)))
   refine w_ld (x := A.2.1) h rfl (w_ite (fun _ => ?_) fun c => (by rw [f7, u1, u2] at c; simp at c))
   refine w_ld (x := t2) h rfl (w_idx (s := t2) h (by decide) (by show 0 < 1; decide) (w_ldA h t2 0 1 s0 rfl rfl (by decide) (x := sFr s0) rfl (w_ite (fun _ => ?_) fun c => (by rw [f4, u1] at c; simp at c))))
   refine w_call (mcount_tri b v 1) h fun r w h => ?_
   obtain ⟨hr, h⟩ := h.purP; rw [hr]
   refine Own.retP ?_ h.emp'
   show (b2 (countL v.l 1) == 1) = true
   rw [f8]; rfl
end EgN

end Go.X
