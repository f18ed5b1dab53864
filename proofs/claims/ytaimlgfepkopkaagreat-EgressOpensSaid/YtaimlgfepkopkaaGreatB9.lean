/- Contracts and plain facts: EgE EgF EgG EgH EgI EgJ EgK EgL EgO. -/
import Derived.Test.YtaimlgfepkopkaaGreatB0
import Derived.Test.YtaimlgfepkopkaaGreatB1
import Derived.Test.YtaimlgfepkopkaaGreatB2
import Derived.Test.YtaimlgfepkopkaaGreatB3
import Derived.Test.YtaimlgfepkopkaaGreatB4
import Derived.Test.YtaimlgfepkopkaaGreatB5
import Derived.Test.YtaimlgfepkopkaaGreatB6
import Derived.Test.YtaimlgfepkopkaaGreatB7
import Derived.Test.YtaimlgfepkopkaaGreatB8
import Derived.Test.YtaimlgfepkopkaaGreatK
import Derived.Test.YtaimlgfepkopkaaGreatF0
import Derived.Test.YtaimlgfepkopkaaGreatF1
import Derived.Test.YtaimlgfepkopkaaGreatF2
set_option linter.unusedVariables false
set_option linter.unusedSimpArgs false
set_option linter.unusedSectionVars false
namespace Go.X
open Go.Proofs
namespace EgE
open Arith ArithC TreeF FqM FqC SockC EgM EgA EgB EgC EgD
open SockM (Sk emitS doneS writeS loseS newS skFl skTso mayS)
open SockO (IvS)
open SockV (IvB)
theorem new_tri (c : Cf) : Tri Tryz.prog N_egress_New [.agg (Ks.mk KC c)] [.lf .ptr, .lf (.int .i64)] emp (fun r => ex fun b : Nat => pur (r = if may c then (some ⟨b, 0⟩, 0) else (none, 13)) (if may c then mach b (newM c) else emp)) :=
 tri_0 (call_egress_New c) fun w0 S R h => by
  unfold W_egress_New
  refine w_new (h.le (star_emp _)) fun n1 w h => w_ldAll (b := n1) (x := c) h rfl (w_call (FqE.new_tri c) h fun r w h => ?_)
  obtain ⟨q, h⟩ := h.exP
  obtain ⟨hr, h⟩ := h.purP
  by_cases hm : may c = true
  ·rw [if_pos hm] at hr h
   rw [hr]
   refine w_ite (fun cc => (by cases cc)) fun _ => ?_
   refine w_drw h fun w h => w_ldAll (b := n1) (x := c) h rfl (w_call cnew_tri (h.le ((star_emp _).trans (star_comm _ _))) fun r w h => ?_)
   obtain ⟨ck, h⟩ := h.exP
   obtain ⟨hr, h⟩ := h.purP; rw [hr]
   refine w_chkAll (b := n1) h (w_call lnew_tri (h.le ((star_emp _).trans (star_comm _ _))) fun r w h => ?_)
   obtain ⟨l, h⟩ := h.exP
   obtain ⟨hr, h⟩ := h.purP; rw [hr]
   refine w_chkAll (b := n1) h (w_new h fun n7 w h => ?_)
   have h : Own w0 S R w (blk n7 (mL c ck (fun _ => none) q l) ^ _) := h
   have e : AllK (fun _ => none) (fun _ => none) = bigS (fun _ => pur ((none : Option Pt) = none) emp) 8 := rfl
   have hall : ∀ n, Le emp (bigS (fun _ => pur ((none : Option Pt) = none) emp) n) := fun n => by
    induction n with
    | zero => exact Le.rfl
    | succ n ih => exact (star_emp emp).trans (star_mono (fun _ _ _ h => ⟨rfl, h⟩) ih)
   have h : Own w0 S R w (AllK (fun _ => none) (fun _ => none) ^ _) := (h.le ((star_emp _).trans (star_comm _ _))).le (star_mono (by rw [e]; exact hall 8) Le.rfl)
   have h := h.mkMach n7 (fun _ => none) ck q l (newM c)
   refine Own.retE n7 (Own.retP (by rw [if_pos hm]) ?_)
   rw [if_pos hm]
   exact h.keep
  ·rw [if_neg hm] at hr h
   rw [hr]
   refine w_ite (fun _ => ?_) fun cc => (by cases cc)
   refine Own.retE 0 (Own.retP (by rw [if_neg hm]) ?_)
   rw [if_neg hm]
   exact h.emp'
theorem set_tri (b : Nat) (v : Mc) (c : Cf) : Tri Tryz.prog N_egress_Machine_set [.lf (.ptr (some ⟨b, 0⟩)), .agg (Ks.mk KC c)] [.lf (.int .i64)] (mach b v) (fun r => pur (r = (setM v c).1) (mach b (setM v c).2)) :=
 tri_0 (call_egress_Machine_set (some ⟨b, 0⟩) c) fun w0 S R h => by
  unfold W_egress_Machine_set
  refine w_new (h.le (star_emp _)) fun n1 w h => ?_
  obtain ⟨p, ck, q, l, h⟩ := h.mach b
  refine w_drw h fun w h => w_ldAll (b := n1) (x := c) h rfl (w_deref (w_ld (x := some ⟨q, 0⟩) h rfl (w_call (FqE.set_tri q v.q c) h fun r w h => ?_)))
  obtain ⟨hr, h⟩ := h.purP; rw [hr]
  refine w_ite (fun cc => ?_) fun cc => ?_
  ·have cc : (setF v.q c).1 = 0 := by simpa using cc
   refine w_ldAll (b := n1) (x := c) h rfl (w_deref (w_setTo h b (mL c ck p q l) rfl rfl rfl fun w h => ?_))
   rw [show setM v c = (0, { v with q := (setF v.q c).2, c := c }) by unfold setM; rw [if_pos cc]]
   exact Own.retP cc (h.mkMach b p ck q l { v with q := (setF v.q c).2, c := c }).fin
  ·have cc : ¬ (setF v.q c).1 = 0 := by simpa using cc
   rw [show setM v c = ((setF v.q c).1, { v with q := (setF v.q c).2 }) by unfold setM; rw [if_neg cc]]
   exact Own.retP rfl (h.mkMach b p ck q l { v with q := (setF v.q c).2 }).fin
theorem drops_app (l : Nat → Ct) (o : Ou) (a : List Sg) (s : Sg) : dropsF l o (a ++ [s]) = dropF (dropsF l o a).2 (dropsF l o a).1 s 5 := by
 induction a generalizing l o with
 | nil => rfl
 | cons x a ih => exact ih _ _
theorem drops_len (l : Nat → Ct) (o : Ou) (a : List Sg) : (dropsF l o a).1.dr.length = o.dr.length + a.length ∧ (dropsF l o a).1.ft.length = o.ft.length + a.length := by
 induction a generalizing l o with
 | nil => exact ⟨rfl, rfl⟩
 | cons x a ih =>
  obtain ⟨h1, h2⟩ := ih (dropF l o x 5).2 (dropF l o x 5).1
  have e1 : (dropF l o x 5).1.dr.length = o.dr.length + 1 := by show (o.dr ++ [x]).length = _; simp
  have e2 : (dropF l o x 5).1.ft.length = o.ft.length + 1 := by show (o.ft ++ [5]).length = _; simp
  rw [List.length_cons]
  show (dropsF (dropF l o x 5).2 (dropF l o x 5).1 a).1.dr.length = _ ∧ (dropsF (dropF l o x 5).2 (dropF l o x 5).1 a).1.ft.length = _
  omega
theorem close_len {v : Qm} (hv : OkQ v) (i : Int) : (closeF v i).1.length ≤ 512 := by
 unfold closeF
 split
 ·show ([] : List Sg).length ≤ 512; decide
 ·split
  ·show ([] : List Sg).length ≤ 512; decide
  ·rename_i f hf; exact (hv.len hf).2
theorem shut_tri (b a : Nat) (k : Int) (v : Mc) (hv : OkMc k v) (i : Nat) (hi : i < 8) (o : Ou) (hl : o.dr.length ≤ 400 ∧ o.ft.length ≤ 400) : Tri Tryz.prog N_egress_Machine_shut [.lf (.ptr (some ⟨b, 0⟩)), .lf (.int .i64 (i : Int)), .lf (.ptr (some ⟨a, 0⟩))] [] (mach b v ^ outp a o) (fun _ => mach b (shutM v i o).2 ^ outp a (shutM v i o).1) :=
 tri_0 (call_egress_Machine_shut (some ⟨b, 0⟩) (i : Int) (some ⟨a, 0⟩)) fun w0 S R h => by
  unfold W_egress_Machine_shut
  obtain ⟨p, ck, q, l, h⟩ := (h.le (star_emp _)).mach b
  have eit : ((i : Nat) : Int).toNat = i := Int.toNat_natCast i
  have h : Own w0 S R w0 (ButK p v.so i ^ blk b (mL v.c ck p q l) ^ blk ck [.int .u64 v.now] ^ que q v.q ^ led l v.l ^ outp a o ^ emp) := by
   cases hs : v.so i with
   | none => exact (h.noK p v.so hi hs).2.fin
   | some x => obtain ⟨ap, _, h⟩ := h.outK p v.so hi hs; exact h.drop.fin
  refine w_deref ⟨by omega, ?_⟩
  rw [eit]
  refine w_setTo h b (mL v.c ck (upP p i none) q l) rfl (by rcases lt8 hi with rfl | rfl | rfl | rfl | rfl | rfl | rfl | rfl <;> rfl) (mL_up v.c ck p q l i hi none) fun w h => ?_
  have h := h.inKN p v.so hi (upP p i none) (upL v.so i none) (fun j hj => upP_ne p none hj) (fun j hj => upL_ne v.so none hj) (upP_same p i none) (upL_same v.so i none)
  refine w_deref (w_ld (x := some ⟨q, 0⟩) h rfl (w_call (FqE.close_tri q v.q hv.q (i : Int)) h fun r w h => ?_))
  obtain ⟨cl, hcl⟩ : ∃ cl, cl = (closeF v.q (i : Int)).1 := ⟨_, rfl⟩
  have hcn : cl.length ≤ 512 := by rw [hcl]; exact close_len hv.q i
  have hrl := (h.rd (s := r)).2
  rw [← hcl] at hrl h
  have h : Own w0 S R w (led l (dropsF v.l o (cl.take (0 : Int).toNat)).2 ^ outp a (dropsF v.l o (cl.take (0 : Int).toNat)).1 ^ arr r KS cl ^ blk b (mL v.c ck (upP p i none) q l) ^ blk ck [.int .u64 v.now] ^ que q (closeF v.q (i : Int)).2 ^ AllK (upP p i none) (upL v.so i none) ^ emp) := h.fin (A := led l v.l ^ outp a o ^ arr r KS cl ^ blk b (mL v.c ck (upP p i none) q l) ^ blk ck [.int .u64 v.now] ^ que q (closeF v.q (i : Int)).2 ^ AllK (upP p i none) (upL v.so i none) ^ emp)
  refine w_loopE (fun (y : Int) (_ : Unit) => led l (dropsF v.l o (cl.take y.toNat)).2 ^ outp a (dropsF v.l o (cl.take y.toNat)).1 ^ arr r KS cl ^ blk b (mL v.c ck (upP p i none) q l) ^ blk ck [.int .u64 v.now] ^ que q (closeF v.q (i : Int)).2 ^ AllK (upP p i none) (upL v.so i none) ^ emp) (fun (y : Int) _ => 0 ≤ y ∧ y ≤ cl.length) (fun (y : Int) _ => (cl.length - y.toNat)) () h ⟨by decide, by omega⟩ ?_
  rintro K (y : Int) _ w ⟨h0, h1⟩ h next
  refine w_ite (fun c => ?_) fun c => ?_
  ·have c : y < ((r.len : Nat) : Int) := of_decide_eq_true c
   have hy : y.toNat < cl.length := by omega
   have hwi : IntKind.i64.wrap (y + 1) = y + 1 := wi (by omega) (by omega)
   have hin : (y + 1).toNat = y.toNat + 1 := by omega
   obtain ⟨s, hs⟩ : ∃ s, cl[y.toNat]? = some s := ⟨_, List.getElem?_eq_getElem hy⟩
   obtain ⟨d1, d2⟩ := drops_len v.l o (cl.take y.toNat)
   have dt : (cl.take y.toNat).length ≤ 512 := by rw [List.length_take]; omega
   refine w_idx (s := r) h h0 hy (w_ldE h r y.toNat hs rfl (w_new h fun n9 w h => w_setAll h (by rfl) fun w h => w_ldAll (b := n9) (x := s) h rfl ?_))
   refine w_call (drop_tri b a v.c (upP p i none) ck q l (dropsF v.l o (cl.take y.toNat)).2 (dropsF v.l o (cl.take y.toNat)).1 s 5 (by omega)) h fun _ w h => ?_
   have e : dropsF v.l o (cl.take (y + 1).toNat) = dropF (dropsF v.l o (cl.take y.toNat)).2 (dropsF v.l o (cl.take y.toNat)).1 s 5 := by
    rw [hin, List.take_add_one, hs]; exact drops_app _ _ _ _
   rw [← e] at h
   rw [hwi]
   exact next (y + 1) () w ⟨by omega, by omega⟩ h.fin (by show cl.length - (y + 1).toNat < cl.length - y.toNat; omega)
  ·have c : ¬ y < ((r.len : Nat) : Int) := of_decide_eq_false c
   rw [List.take_of_length_le (by omega)] at h
   have h := h.mkMach b (upP p i none) ck q l { v with so := upL v.so i none, q := (closeF v.q (i : Int)).2, l := (dropsF v.l o cl).2 }
   rw [show shutM v i o = ((dropsF v.l o cl).1, { v with so := upL v.so i none, q := (closeF v.q (i : Int)).2, l := (dropsF v.l o cl).2 }) by unfold shutM; rw [← hcl]]
   exact h.fin
abbrev KR : Ks := [.int .u64, .int .u64]
structure OkD (d : Dd) : Prop where
 l : dL d < 9223372036854775808
 u : U (dU d)
 a : U (dA d)
 c : 0 ≤ cH (dC d) ∧ U (cR (dC d))
theorem told_tri (ap : Nat) (k : Int) (x : Sk) (hx : IvB k x) (now : Int) (hn : U now) (d : Dd) (hd : OkD d) (xs : List (Ks.T KR)) (hxl : xs.length ≤ 4294967296) : Tri Tryz.prog N_egress_told [.lf (.ptr (some ⟨ap, 0⟩)), .agg (Ks.mk KD d), .lf (.int .u64 now)] [.lf (.int .i64)] (sck ap x ^ rarr (dR d) KR xs) (fun r => pur (r = (toldF x now d xs).1) (sck ap (toldF x now d xs).2)) :=
 tri_0 (call_egress_told (some ⟨ap, 0⟩) d now) fun w0 S R h => by
  unfold W_egress_told
  refine w_new (h.le (star_emp _)) fun n1 w h => w_ld (x := dK d) h rfl (w_ite (fun c => ?_) fun c => ?_)
  ·have c : dK d = 2 := by simpa using c
   refine w_ld (x := dL d) h rfl (w_call (write_tri ap x hx.i.ok.bf (dL d) hd.l) h fun r w h => ?_)
   obtain ⟨hr, h⟩ := h.purP; rw [hr]
   rw [show toldF x now d xs = writeS x (dL d) by unfold toldF; rw [if_pos c]]
   exact Own.retP rfl h.fin
  have c : ¬ dK d = 2 := by simpa using c
  refine w_ite (fun c3 => ?_) fun c3 => ?_
  ·have c3 : dK d = 3 := by simpa using c3
   refine w_ld (x := dU d) h rfl (w_ld (x := dR d) h rfl ?_)
   refine w_callL (A := sck ap x) (Q := rarr (dR d) KR xs) (SockN.sack_tri ap x hx.i.ok hx.i.ps now (dU d) hn (dR d) xs hxl) h fun r w h => ?_
   obtain ⟨hr, h⟩ := h.purP; rw [hr]
   rw [show toldF x now d xs = SockL.ackS x now (dU d) xs by unfold toldF; rw [if_neg c, if_pos c3]]
   exact Own.retP rfl h.fin
  have c3 : ¬ dK d = 3 := by simpa using c3
  refine w_ite (fun c4 => ?_) fun c4 => ?_
  ·have c4 : dK d = 4 := by simpa using c4
   refine w_call (SockJ.slose_tri ap x hx.i.ok now hn) h fun r w h => ?_
   obtain ⟨hr, h⟩ := h.purP; rw [hr]
   rw [show toldF x now d xs = (0, loseS x now) by unfold toldF; rw [if_neg c, if_neg c3, if_pos c4]]
   exact Own.retP rfl h.fin
  ·have c4 : ¬ dK d = 4 := by simpa using c4
   refine w_ld (x := dL d) h rfl (w_call (SockC.done_tri ap x hx.i.ok.out (dL d) hd.l) h fun r w h => ?_)
   obtain ⟨hr, h⟩ := h.purP; rw [hr]
   rw [show toldF x now d xs = doneS x (dL d) by unfold toldF; rw [if_neg c, if_neg c3, if_neg c4]]
   exact Own.retP rfl h.fin
end EgE

namespace EgF
open Arith ArithC TreeF FqM FqC SockC EgM EgA EgB EgC EgD EgE
open SockM (Sk emitS doneS writeS loseS newS skFl skTso mayS)
open SockO (IvS)
open SockV (IvB)
theorem upL_upL {α : Type} (l : Nat → α) (i : Nat) (x y : α) : upL (upL l i x) i y = upL l i y := funext fun j => by unfold upL; split <;> rfl
theorem ivB_le {k j : Int} {v : Sk} (h : IvB k v) (hj : k ≤ j) (hj2 : j ≤ 1000000) : IvB j v :=
 { i := h.i.le hj, kr := by have := h.kr; omega, g := h.g, b := SockV.Bd_le h.b (by omega) }
theorem OkMc_le {k j : Int} {v : Mc} (h : OkMc k v) (hj : k ≤ j) (hj2 : j ≤ 1000000) : OkMc j v :=
 { c := h.c, now := h.now, q := h.q, so := fun i x hx => ⟨ivB_le (h.so i x hx).1 hj hj2, (h.so i x hx).2⟩, kr := by have := h.kr; omega }
theorem told_ok {k : Int} {x : Sk} (hx : IvB k x) (hk : k < 1000000) {now : Int} (hn : U now) (d : Dd) (xs : List (Int × Int)) : IvB (k + 1) (toldF x now d xs).2 ∧ (toldF x now d xs).2.id = x.id := by
 unfold toldF
 split
 ·exact ⟨hx.write hk _, rfl⟩
 ·split
  ·exact ⟨hx.ack hk hn _ _, by unfold SockL.ackS; split <;> rfl⟩
  ·split
   ·exact ⟨hx.lose hk hn, rfl⟩
   ·exact ⟨hx.done hk _, by unfold doneS; split <;> rfl⟩
theorem upS_ok {k : Int} {v : Mc} (hv : OkMc k v) {i : Nat} (hi : i < 8) {x : Sk} (hx : IvB k x) (hid : x.id = (i : Int)) : OkMc k { v with so := upL v.so i (some x) } := by
 have hso : ∀ j y, upL v.so i (some x) j = some y → IvB k y ∧ y.id = (j : Int) ∧ j < 8 := fun j y hy => by
  by_cases e : j = i
  ·subst e
   rw [upL_same] at hy
   cases hy; exact ⟨hx, hid, hi⟩
  ·rw [upL_ne _ _ e] at hy; exact hv.so j y hy
 exact { hv with so := hso }
theorem upN_ok {k : Int} {v : Mc} (hv : OkMc k v) (i : Nat) : OkMc k { v with so := upL v.so i none } := by
 have hso : ∀ j y, upL v.so i none j = some y → IvB k y ∧ y.id = (j : Int) ∧ j < 8 := fun j y hy => by
  by_cases e : j = i
  ·subst e
   rw [upL_same] at hy; cases hy
  ·rw [upL_ne _ _ e] at hy; exact hv.so j y hy
 exact { hv with so := hso }
theorem one_tri (b a : Nat) (k : Int) (v : Mc) (hv : OkMc k v) (hk : k < 1000000) (d : Dd) (hd : OkD d) (xs : List (Ks.T KR)) (hxl : xs.length ≤ 4294967296) (o : Ou) (hl : o.dr.length ≤ 400 ∧ o.ft.length ≤ 400) :
  Tri Tryz.prog N_egress_Machine_one [.lf (.ptr (some ⟨b, 0⟩)), .agg (Ks.mk KD d), .lf (.ptr (some ⟨a, 0⟩))] [.lf (.int .i64)] ((mach b v ^ outp a o) ^ rarr (dR d) KR xs) (fun r => pur (r = (oneM v d xs o).1) (mach b (oneM v d xs o).2.2 ^ outp a (oneM v d xs o).2.1)) :=
 tri_0 (call_egress_Machine_one (some ⟨b, 0⟩) d (some ⟨a, 0⟩)) fun w0 S R h => by
  unfold W_egress_Machine_one
  refine w_new (h.le (star_emp _)) fun n1 w h => w_ld (x := dS d) h rfl (w_call (is_tri (dS d)) (h.le ((star_emp _).trans (star_comm _ _))) fun r w h => ?_)
  obtain ⟨hr, h⟩ := h.purP; rw [hr]
  have h : Own w0 S R w (blk n1 (Ks.mk KD d) ^ mach b v ^ outp a o ^ rarr (dR d) KR xs ^ emp) := h.fin
  refine w_ite (fun c => ?_) fun c => ?_
  ·have c : ¬ (0 ≤ dS d ∧ dS d < 8) := fun hh => by rw [decide_eq_true hh] at c; cases c
   rw [show oneM v d xs o = (8, o, v) by unfold oneM; rw [if_pos c]]
   exact Own.retP rfl h.fin
  have c : 0 ≤ dS d ∧ dS d < 8 := by
   by_cases hh : 0 ≤ dS d ∧ dS d < 8
   ·exact hh
   ·rw [decide_eq_false hh] at c; cases c
  obtain ⟨i, hi⟩ : ∃ i : Nat, dS d = (i : Int) := ⟨(dS d).toNat, by omega⟩
  have hi8 : i < 8 := by omega
  have eit : ((i : Nat) : Int).toNat = i := Int.toNat_natCast i
  have hone : oneM v d xs o = match v.so i with
    | none => if dK d = 1 then (0, o, { v with so := upL v.so i (some (newS (i : Int) (cMss v.c) (cCap v.c))) }) else (10, o, v)
    | some x => if dK d = 1 then (9, o, v) else if dK d = 9 then (0, (shutM v i o).1, (shutM v i o).2)
     else if (toldF x v.now d xs).1 = 0 then (0, (pumpM v i (toldF x v.now d xs).2 o).1, (pumpM v i (toldF x v.now d xs).2 o).2)
     else ((toldF x v.now d xs).1, o, { v with so := upL v.so i (some (toldF x v.now d xs).2) }) := by
   unfold oneM
   rw [if_neg (fun hh => hh c), hi, eit]
   cases v.so i <;> rfl
  obtain ⟨p, ck, q, l, h⟩ := h.mach b
  have hsn := isNK h p v.so hi8
  have hat : Ks.un [.ptr] (((mL v.c ck p q l).drop (0 + 10 + (dS d).toNat * 1)).take 1) = some (p i) := by rw [hi, eit, mL_at v.c ck p q l i hi8]
  refine w_drw h fun w h => w_ld (x := dS d) h rfl (w_deref ⟨c, w_ld h hat (w_ld (x := dK d) h rfl ?_)⟩)
  cases hs : v.so i with
  | none =>
   rw [hs] at hsn hone
   have hpn : p i = none := by simpa using hsn
   rw [hpn]
   refine w_ite (fun cc => (by simp at cc)) fun _ => w_ld (x := dK d) h rfl (w_ite (fun c1 => ?_) fun c1 => ?_)
   ·have c1 : dK d = 1 := by simpa using c1
    dsimp only at hone
    rw [if_pos c1] at hone
    rw [hone]
    refine w_drw h fun w h => w_ld (x := dS d) h rfl (w_ld (x := dS d) h rfl (w_deref (w_deref (w_ld (x := v.c) h rfl ?_))))
    rw [hi]
    refine w_call (SockK.snew_tri (i : Int) v.c) (h.le ((star_emp _).trans (star_comm _ _))) fun r w h => ?_
    obtain ⟨ap, h⟩ := h.exP
    obtain ⟨hr, h⟩ := h.purP; rw [hr]
    have h : Own w0 S R w (sck ap (newS (i : Int) (cMss v.c) (cCap v.c)) ^ blk n1 (Ks.mk KD d) ^ (blk b (mL v.c ck p q l) ^ blk ck [.int .u64 v.now] ^ que q v.q ^ led l v.l ^ AllK p v.so) ^ outp a o ^ emp) := h.fin
    refine w_chk h (by show [Lf.int IntKind.i64 (dS d)] = _; rw [hi]; rfl) ⟨by omega, ?_⟩
    rw [eit]
    obtain ⟨_, h⟩ := h.noK p v.so hi8 hs
    refine w_setTo h b (mL v.c ck (upP p i (some ⟨ap, 0⟩)) q l) rfl (by rcases lt8 hi8 with rfl | rfl | rfl | rfl | rfl | rfl | rfl | rfl <;> rfl) (mL_up v.c ck p q l i hi8 (some ⟨ap, 0⟩)) fun w h => ?_
    have h := h.inK p v.so hi8 (upP p i (some ⟨ap, 0⟩)) (upL v.so i (some (newS (i : Int) (cMss v.c) (cCap v.c)))) ap (newS (i : Int) (cMss v.c) (cCap v.c)) (fun j hj => upP_ne p _ hj) (fun j hj => upL_ne v.so _ hj) (upP_same p i _) (upL_same v.so i _)
    have h := h.mkMach b (upP p i (some ⟨ap, 0⟩)) ck q l { v with so := upL v.so i (some (newS (i : Int) (cMss v.c) (cCap v.c))) }
    exact Own.retP rfl h.fin
   ·have c1 : ¬ dK d = 1 := by simpa using c1
    dsimp only at hone
    rw [if_neg c1] at hone
    rw [hone]
    refine w_ite (fun _ => ?_) fun cc => (by simp at cc)
    have h := h.mkMach b p ck q l v
    exact Own.retP rfl h.fin
  | some x =>
   obtain ⟨hx, hid, _⟩ := hv.so i x hs
   rw [hs] at hsn hone
   obtain ⟨ap, hp, h⟩ := h.outK p v.so hi8 hs
   rw [hp]
   refine w_ite (fun c1 => ?_) fun c1 => ?_
   ·have c1 : dK d = 1 := by simpa using c1
    dsimp only at hone
    rw [if_pos c1] at hone
    rw [hone]
    have h := h.inK p v.so hi8 p v.so ap x (fun _ _ => rfl) (fun _ _ => rfl) hp hs
    have h := h.mkMach b p ck q l v
    exact Own.retP rfl h.fin
   have c1 : ¬ dK d = 1 := by simpa using c1
   dsimp only at hone
   rw [if_neg c1] at hone
   refine w_ld (x := dK d) h rfl (w_ite (fun cc => (by simp at cc; exact absurd cc c1)) fun _ => w_ite (fun cc => (by simp at cc)) fun _ => w_ld (x := dK d) h rfl (w_ite (fun c9 => ?_) fun c9 => ?_))
   ·have c9 : dK d = 9 := by simpa using c9
    rw [if_pos c9] at hone
    rw [hone]
    have h := h.inK p v.so hi8 p v.so ap x (fun _ _ => rfl) (fun _ _ => rfl) hp hs
    have h := h.mkMach b p ck q l v
    refine w_ld (x := dS d) h rfl ?_
    rw [hi]
    refine w_call (shut_tri b a k v hv i hi8 o hl) h fun _ w h => ?_
    exact Own.retP rfl h.fin
   have c9 : ¬ dK d = 9 := by simpa using c9
   rw [if_neg c9] at hone
   refine w_drw h fun w h => w_ldAll (b := n1) (x := d) h rfl (w_call (mnowO_tri b v.c p ck q l v.now) h fun r w h => ?_)
   obtain ⟨hr, h⟩ := h.purP; rw [hr]
   refine w_chkAll (b := n1) h ?_
   refine w_callL (A := sck ap x) (Q := rarr (dR d) KR xs) (told_tri ap k x hx v.now hv.un d hd xs hxl) h fun r w h => ?_
   obtain ⟨hr, h⟩ := h.purP; rw [hr]
   obtain ⟨hx2, hid2⟩ := told_ok hx hk hv.un d xs
   have h := h.inK p v.so hi8 p (upL v.so i (some (toldF x v.now d xs).2)) ap (toldF x v.now d xs).2 (fun _ _ => rfl) (fun j hj => upL_ne v.so _ hj) hp (upL_same v.so i _)
   have h := h.mkMach b p ck q l { v with so := upL v.so i (some (toldF x v.now d xs).2) }
   have hv2 : OkMc (k + 1) { v with so := upL v.so i (some (toldF x v.now d xs).2) } := upS_ok (OkMc_le hv (by omega) (by omega)) hi8 hx2 (hid2.trans hid)
   refine w_ite (fun c0 => ?_) fun c0 => ?_
   ·have c0 : (toldF x v.now d xs).1 = 0 := by simpa using c0
    rw [if_pos c0] at hone
    rw [hone]
    refine w_ld (x := dS d) h rfl ?_
    rw [hi]
    refine w_call (pump_tri b a (k + 1) { v with so := upL v.so i (some (toldF x v.now d xs).2) } hv2 i (toldF x v.now d xs).2 (upL_same v.so i _) o (by omega)) h fun _ w h => ?_
    have e : pumpM { v with so := upL v.so i (some (toldF x v.now d xs).2) } i (toldF x v.now d xs).2 o = pumpM v i (toldF x v.now d xs).2 o := by
     unfold pumpM
     dsimp only
     rw [upL_upL]
    rw [e] at h
    exact Own.retP c0 h.fin
   ·have c0 : ¬ (toldF x v.now d xs).1 = 0 := by simpa using c0
    rw [if_neg c0] at hone
    rw [hone]
    exact Own.retP rfl h.fin
abbrev KOu : Ks := [.sl, .sl, .sl, .int .u64]
def outR (r : Ks.T KOu) (o : Ou) : SP := pur (r.2.2.2 = o.wd) (arr r.1 KS o.dep ^ arr r.2.1 KS o.dr ^ arr r.2.2.1 KI o.ft)
theorem one_k {k : Int} (h : isOne k = true) : k = 1 ∨ k = 2 ∨ k = 3 ∨ k = 4 ∨ k = 7 ∨ k = 9 := by
 unfold isOne at h; simp only [Bool.or_eq_true, beq_iff_eq] at h; omega
theorem do_tri (b : Nat) (k : Int) (v : Mc) (hv : OkMc k v) (hk : k < 1000000) (d : Dd) (hd : OkD d) (xs : List (Ks.T KR)) (hxl : xs.length ≤ 4294967296) :
  Tri Tryz.prog N_egress_Machine_Do [.lf (.ptr (some ⟨b, 0⟩)), .agg (Ks.mk KD d)] [.agg KOu, .lf (.int .i64)] (mach b v ^ rarr (dR d) KR xs) (fun r => pur (r.2 = (doF v d xs).1.2) (mach b (doF v d xs).2 ^ outR r.1 (doF v d xs).1.1)) :=
 tri_0 (call_egress_Machine_Do (some ⟨b, 0⟩) d) fun w0 S R h => by
  unfold W_egress_Machine_Do
  refine w_new (h.le (star_emp _)) fun n1 w h => w_new h fun n2 w h => w_ite (fun c => (by simp at c)) fun _ => w_new h fun n4 w h => ?_
  have h := h.nil KS
  have h := h.nil KS
  have h := h.nil KI
  have h := h.mkOutp n4 ⟨none, 0, 0⟩ ⟨none, 0, 0⟩ ⟨none, 0, 0⟩ ou0
  have h : Own w0 S R w (blk n1 (Ks.mk KD d) ^ outp n4 ou0 ^ mach b v ^ rarr (dR d) KR xs ^ blk n2 [.sl ⟨none, 0, 0⟩, .sl ⟨none, 0, 0⟩, .sl ⟨none, 0, 0⟩, .int .u64 0] ^ emp) := h.fin
  refine w_join h (fun _ => outp n4 (stepM v d xs).2.1 ^ mach b (stepM v d xs).2.2 ^ blk n2 [.sl ⟨none, 0, 0⟩, .sl ⟨none, 0, 0⟩, .sl ⟨none, 0, 0⟩, .int .u64 0] ^ emp) (fun y : Int => y = (stepM v d xs).1) (fun (y : Int) w hy h => ?_) ?_
  ·rw [hy]
   refine w_ite (fun c => ?_) fun c => ?_
   ·have c : (stepM v d xs).1 ≠ 0 := by simpa using c
    rw [show doF v d xs = ((ou0, (stepM v d xs).1), (stepM v d xs).2.2) by unfold doF; rw [if_pos c]]
    refine w_setAll h (by rfl) fun w h => w_ldAll (b := n2) (x := ((⟨none, 0, 0⟩, ⟨none, 0, 0⟩, ⟨none, 0, 0⟩, 0) : Ks.T KOu)) h rfl ?_
    have h := h.nil KS
    have h := h.nil KS
    have h := h.nil KI
    have h : Own w0 S R w (outR (⟨none, 0, 0⟩, ⟨none, 0, 0⟩, ⟨none, 0, 0⟩, 0) ou0 ^ mach b (stepM v d xs).2.2 ^ emp) := Own.toPur (p := ((⟨none, 0, 0⟩, ⟨none, 0, 0⟩, ⟨none, 0, 0⟩, 0) : Ks.T KOu).2.2.2 = ou0.wd) (A := arr ⟨none, 0, 0⟩ KS [] ^ arr ⟨none, 0, 0⟩ KS [] ^ arr ⟨none, 0, 0⟩ KI []) rfl h.fin
    exact Own.retP rfl h.fin
   ·have c : (stepM v d xs).1 = 0 := by simpa using c
    rw [show doF v d xs = (((stepM v d xs).2.1, 0), (stepM v d xs).2.2) by unfold doF; rw [if_neg (fun x => x c)]]
    obtain ⟨s1, s2, s3, h⟩ := h.outp n4
    refine w_ldAll (b := n4) (x := ((s1, s2, s3, (stepM v d xs).2.1.wd) : Ks.T KOu)) h rfl (w_setAll h (by rfl) fun w h => w_ldAll (b := n2) (x := ((s1, s2, s3, (stepM v d xs).2.1.wd) : Ks.T KOu)) h rfl ?_)
    have h : Own w0 S R w (outR (s1, s2, s3, (stepM v d xs).2.1.wd) (stepM v d xs).2.1 ^ mach b (stepM v d xs).2.2 ^ emp) := Own.toPur (p := ((s1, s2, s3, (stepM v d xs).2.1.wd) : Ks.T KOu).2.2.2 = (stepM v d xs).2.1.wd) (A := arr s1 KS (stepM v d xs).2.1.dep ^ arr s2 KS (stepM v d xs).2.1.dr ^ arr s3 KI (stepM v d xs).2.1.ft) rfl h.fin
    exact Own.retP rfl h.fin
  ·refine w_ld (x := dK d) h rfl (w_ite (fun c5 => ?_) fun c5 => ?_)
   ·have c5 : dK d = 5 := by simpa using c5
    rw [show stepM v d xs = ((moveF v.now (dA d)).1, ou0, { v with now := (moveF v.now (dA d)).2 }) by unfold stepM; rw [if_pos c5]]
    obtain ⟨p, ck, q, l, h⟩ := h.mach b
    refine w_drw h fun w h => w_deref (w_ld (x := dA d) h rfl (w_ld (x := some ⟨ck, 0⟩) h rfl (w_call (move_tri ck v.now (dA d)) h fun r w h => ?_)))
    obtain ⟨hr, h⟩ := h.purP; rw [hr]
    have h := h.mkMach b p ck q l { v with now := (moveF v.now (dA d)).2 }
    exact ⟨rfl, h.fin⟩
   have c5 : ¬ dK d = 5 := by simpa using c5
   refine w_ite (fun c6 => ?_) fun c6 => ?_
   ·have c6 : dK d = 6 := by simpa using c6
    rw [show stepM v d xs = (0, (pullF v ou0).1, (pullF v ou0).2) by unfold stepM; rw [if_neg c5, if_pos c6]]
    refine w_call (pull_tri b n4 k v hv ou0) h fun _ w h => ?_
    exact ⟨rfl, h.fin⟩
   have c6 : ¬ dK d = 6 := by simpa using c6
   refine w_ite (fun c8 => ?_) fun c8 => ?_
   ·have c8 : dK d = 8 := by simpa using c8
    rw [show stepM v d xs = ((setM v (dC d)).1, ou0, (setM v (dC d)).2) by unfold stepM; rw [if_neg c5, if_neg c6, if_pos c8]]
    refine w_ld (x := dC d) h rfl (w_call (set_tri b v (dC d)) h fun r w h => ?_)
    obtain ⟨hr, h⟩ := h.purP; rw [hr]
    exact ⟨rfl, h.fin⟩
   have c8 : ¬ dK d = 8 := by simpa using c8
   have estep : stepM v d xs = if isOne (dK d) then oneM v d xs ou0 else (12, ou0, v) := by unfold stepM; rw [if_neg c5, if_neg c6, if_neg c8]
   refine w_join h (fun _ => blk n1 (Ks.mk KD d) ^ outp n4 ou0 ^ mach b v ^ rarr (dR d) KR xs ^ blk n2 [.sl ⟨none, 0, 0⟩, .sl ⟨none, 0, 0⟩, .sl ⟨none, 0, 0⟩, .int .u64 0] ^ emp) (fun y : Bool => y = isOne (dK d)) (fun (y : Bool) w hy h => ?_) ?_
   ·rw [hy]
    refine w_ite (fun c => ?_) fun c => ?_
    ·rw [if_pos c] at estep
     rw [estep]
     refine w_ldAll (b := n1) (x := d) h rfl ?_
     refine w_callL (A := mach b v ^ outp n4 ou0) (Q := rarr (dR d) KR xs) (one_tri b n4 k v hv hk d hd xs hxl ou0 ⟨by show (0:Nat) ≤ 400; decide, by show (0:Nat) ≤ 400; decide⟩) h fun r w h => ?_
     obtain ⟨hr, h⟩ := h.purP; rw [hr]
     exact ⟨rfl, h.fin⟩
    ·rw [if_neg (by rw [c]; simp)] at estep
     rw [estep]
     exact ⟨rfl, h.fin⟩
   ·unfold isOne
    refine w_ite (fun c => ⟨by rw [c]; rfl, h⟩) fun d1 => ?_
    refine w_ite (fun c => ⟨by rw [d1, c]; rfl, h⟩) fun d2 => ?_
    refine w_ite (fun c => ⟨by rw [d1, d2, c]; rfl, h⟩) fun d3 => ?_
    refine w_ite (fun c => ⟨by rw [d1, d2, d3, c]; rfl, h⟩) fun d4 => ?_
    refine w_ite (fun c => ⟨by rw [d1, d2, d3, d4, c]; rfl, h⟩) fun d5 => ?_
    exact ⟨by rw [d1, d2, d3, d4, d5]; rfl, h⟩
end EgF

namespace EgG
open Arith ArithC FqM EgM
abbrev KR : Ks := [.int .u64, .int .u64]
end EgG

namespace EgH
open Arith ArithC TreeF FqM FqC SockC EgM EgA EgB EgC EgD EgE EgF
open SockM (Sk emitS doneS writeS loseS newS skFl skTso mayS)
open SockO (IvS)
open SockV (IvB)
theorem pump_ok {k : Int} {v : Mc} (hv : OkMc k v) {i : Nat} (hi : i < 8) {x : Sk} (hx : IvB k x) (hid : x.id = (i : Int)) (o : Ou) : OkMc k (pumpM v i x o).2 := by
 have h := pumpN_ok hv.un (fresh x + 1) ⟨x, v.q, v.l, o⟩ (⟨hx, hid, hv.q⟩ : OkPm k i ⟨x, v.q, v.l, o⟩)
 have h2 := upS_ok hv hi (x := (pumpF i v.now ⟨x, v.q, v.l, o⟩).v) h.v h.id
 exact { h2 with q := h.q }
theorem shut_ok {k : Int} {v : Mc} (hv : OkMc k v) (i : Nat) (o : Ou) : OkMc k (shutM v i o).2 := by
 have h := upN_ok hv i
 exact { h with q := hv.q.close _ }
theorem pull_ok {k : Int} {v : Mc} (hv : OkMc k v) (o : Ou) : OkMc k (pullF v o).2 := by
 have h := FqN.deq_ok hv.q hv.un (rates_U hv)
 unfold pullF
 split
 ·rename_i s q e; rw [e] at h; exact { hv with q := h }
 ·rename_i q e; rw [e] at h; exact { hv with q := h }
theorem set_ok {k : Int} {v : Mc} (hv : OkMc k v) {c : Cf} (hc : 0 ≤ cH c ∧ U (cR c)) : OkMc k (setM v c).2 := by
 have h := hv.q.set hc
 unfold setM
 split
 ·rename_i h0
  refine { hv with q := h, c := ?_ }
  unfold setF at h0
  by_cases hm : may c = true
  ·exact may_ok hm hc.1 hc.2
  ·rw [if_neg hm] at h0; cases h0
 ·exact { hv with q := h }
theorem one_ok {k : Int} {v : Mc} (hv : OkMc k v) (hk : k < 1000000) (d : Dd) (xs : List (Int × Int)) (o : Ou) : OkMc (k + 1) (oneM v d xs o).2.2 := by
 have h1 := OkMc_le hv (j := k + 1) (by omega) (by omega)
 have hc := hv.c.cap
 unfold oneM
 split
 ·exact h1
 ·rename_i hi
  have hi : 0 ≤ dS d ∧ dS d < 8 := Classical.not_not.1 hi
  have hi8 : (dS d).toNat < 8 := by omega
  split
  ·split
   ·have hn := SockV.new_ivB (dS d) (cMss v.c) (cCap v.c) ⟨by omega, hc.2⟩
    exact upS_ok h1 hi8 (ivB_le hn h1.kr.1 (by omega)) (by show dS d = _; omega)
   ·exact h1
  ·rename_i x hx
   obtain ⟨hxi, hxd, _⟩ := hv.so _ x hx
   split
   ·exact h1
   ·split
    ·exact shut_ok h1 _ _
    ·obtain ⟨a, b⟩ := told_ok hxi hk hv.un d xs
     split
     ·exact pump_ok h1 hi8 a (b.trans hxd) o
     ·exact upS_ok h1 hi8 a (b.trans hxd)
theorem do_ok {k : Int} {v : Mc} (hv : OkMc k v) (hk : k < 1000000) {d : Dd} (hd : OkD d) (xs : List (Int × Int)) : OkMc (k + 1) (doF v d xs).2 := by
 have h1 := OkMc_le hv (j := k + 1) (by omega) (by omega)
 have e : (doF v d xs).2 = (stepM v d xs).2.2 := by unfold doF; split <;> rfl
 rw [e]
 unfold stepM
 split
 ·have hn := hv.now
  have ha := hd.a
  unfold U at ha
  refine { h1 with now := ?_ }
  show 0 ≤ (moveF v.now (dA d)).2 ∧ (moveF v.now (dA d)).2 ≤ 4611686018427387904
  unfold moveF
  split
  ·exact hn
  ·split
   ·exact hn
   ·exact ⟨ha.1, by show dA d ≤ _; omega⟩
 ·split
  ·exact pull_ok h1 _
  ·split
   ·exact set_ok h1 hd.c
   ·split
    ·exact one_ok hv hk d xs ou0
    ·exact h1
theorem new_ok {c : Cf} (hc : OkC c) : OkMc 0 (newM c) where
 c := hc
 now := by show (0:Int) ≤ 0 ∧ (0:Int) ≤ 4611686018427387904; decide
 q := OkQ.new hc
 so := fun i x h => by cases h
 kr := by decide
theorem _root_.Go.X.Own.outR {w0 w : World} {S0 R0 : Nat → Prop} {F G : SP} (h : Own w0 S0 R0 w F) (r : Ks.T KOu) {o : Ou} [tk : TakeK EgF.outR r F o G] : r.2.2.2 = o.wd ∧ Own w0 S0 R0 w (arr r.1 KS o.dep ^ arr r.2.1 KS o.dr ^ arr r.2.2.1 KI o.ft ^ G) := by
 have h : Own w0 S0 R0 w (pur (r.2.2.2 = o.wd) (arr r.1 KS o.dep ^ arr r.2.1 KS o.dr ^ arr r.2.2.1 KI o.ft) ^ G) := h.le tk.le
 obtain ⟨hr, h⟩ := h.purP
 exact ⟨hr, h.fin⟩
theorem nil_rarr (A : SP) (K : Ks) : Le A (A ^ rarr ⟨none, 0, 0⟩ K []) :=
 (star_emp A).trans (star_mono Le.rfl fun w S R h => ⟨⟨⟨by simp [flat], fun _ => rfl, fun q hq => by cases hq⟩, rfl⟩, h.1, fun k => ⟨fun hk => absurd hk (h.2 k), fun hk => absurd rfl hk.2⟩⟩)
theorem do0_tri (b : Nat) (k : Int) (v : Mc) (hv : OkMc k v) (hk : k < 1000000) (d : Dd) (hd : OkD d) (hR : dR d = ⟨none, 0, 0⟩) :
  Tri Tryz.prog N_egress_Machine_Do [.lf (.ptr (some ⟨b, 0⟩)), .agg (Ks.mk KD d)] [.agg KOu, .lf (.int .i64)] (mach b v) (fun r => pur (r.2 = (doF v d []).1.2) (mach b (doF v d []).2 ^ outR r.1 (doF v d []).1.1)) :=
 (do_tri b k v hv hk d hd [] (by simp)).le (by rw [hR]; exact nil_rarr _ _) (fun _ => Le.rfl)
abbrev plainC : Cf := (3000, 15000, 100, 50, 10000000000, 0, false, 100000, 1000)
theorem plain_ok : OkC plainC := FqH.plain_ok
abbrev dOpen (s : Int) : Dd := (1, s, 0, 0, 0, ⟨none, 0, 0⟩, 0, 0, 0, 0, 0, 0, false, 0, 0)
abbrev dSend (s n : Int) : Dd := (2, s, n, 0, 0, ⟨none, 0, 0⟩, 0, 0, 0, 0, 0, 0, false, 0, 0)
abbrev dPull : Dd := (6, 0, 0, 0, 0, ⟨none, 0, 0⟩, 0, 0, 0, 0, 0, 0, false, 0, 0)
theorem dOpen_ok (s : Int) : OkD (dOpen s) := ⟨(by decide : (0:Int) < 9223372036854775808), U_lit 0, U_lit 0, (by decide : (0:Int) ≤ 0), U_lit 0⟩
theorem dSend_ok (s n : Int) (h : n < 9223372036854775808) : OkD (dSend s n) := ⟨h, U_lit 0, U_lit 0, (by decide : (0:Int) ≤ 0), U_lit 0⟩
theorem dPull_ok : OkD dPull := ⟨(by decide : (0:Int) < 9223372036854775808), U_lit 0, U_lit 0, (by decide : (0:Int) ≤ 0), U_lit 0⟩
abbrev aw1 : Mc := (doF (newM plainC) (dOpen 0) []).2
abbrev aw2 : Mc := (doF aw1 (dSend 0 1000) []).2
theorem awake_eq : (doF aw1 (dSend 0 1000) []).1.2 = 0 ∧ (doF aw2 dPull []).1.2 = 0 ∧ (doF aw2 dPull []).1.1.dep = [(0, 0, 1000, 0, false)] := by decide +kernel
theorem awake_tri : Tri Tryz.prog N_canterlaw26_awake [] [.lf .bool] emp (fun r => pur (r = true) emp) :=
 tri_0 call_canterlaw26_awake fun w0 S R h => by
  unfold W_canterlaw26_awake
  obtain ⟨h1, h2, h3⟩ := awake_eq
  have o0 := new_ok plain_ok
  have o1 := do_ok o0 (by decide) (dOpen_ok 0) []
  have o2 := do_ok o1 (by decide) (dSend_ok 0 1000 (by decide)) []
  refine w_call FqH.plain_tri (h.le (star_emp _)) fun r w h => ?_
  obtain ⟨hr, h⟩ := h.purP; rw [hr]
  refine w_call (EgE.new_tri plainC) h fun r w h => ?_
  obtain ⟨b, h⟩ := h.exP
  obtain ⟨hr, h⟩ := h.purP
  rw [if_pos FqH.plain_may] at hr h
  rw [hr]
  have h : Own w0 S R w (mach b (newM plainC) ^ emp) := h.fin
  refine w_join h (fun _ => mach b (newM plainC) ^ emp) (fun _ => True) (fun _ w _ h => ?_) ?_
  ·refine w_call (do0_tri b 0 (newM plainC) o0 (by decide) (dOpen 0) (dOpen_ok 0) rfl) h fun r w h => ?_
   obtain ⟨_, h⟩ := h.purP
   have h : Own w0 S R w (mach b aw1 ^ emp) := h.fin
   refine w_call (do0_tri b (0 + 1) aw1 o1 (by decide) (dSend 0 1000) (dSend_ok 0 1000 (by decide)) rfl) h fun r w h => ?_
   obtain ⟨hr, h⟩ := h.purP; rw [hr, h1]
   have h : Own w0 S R w (mach b aw2 ^ emp) := h.fin
   refine w_new h fun n8 w h => w_setAll h (by rfl) fun w h => ?_
   refine w_call (do0_tri b (0 + 1 + 1) aw2 o2 (by decide) dPull dPull_ok rfl) h fun r w h => ?_
   obtain ⟨⟨s1, s2, s3, wd⟩, e⟩ := r
   obtain ⟨hr, h⟩ := h.purP
   dsimp only at hr h ⊢
   rw [hr, h2]
   obtain ⟨_, h⟩ := h.outR (s1, s2, s3, wd)
   dsimp only at h
   rw [h3] at h
   have hl := (h.rd (s := s1)).2
   refine w_new h fun n10 w h => w_setAll h (by rfl) fun w h => w_ite (fun _ => ?_) fun c => (by cases c)
   refine w_ld (x := s1) h rfl (w_ite (fun _ => ?_) fun c => (by rw [hl] at c; cases c))
   refine w_ld (x := s1) h rfl (w_idx (s := s1) h (by decide) (by show 0 < 1; decide) (w_ldA h s1 0 2 ((0, 0, 1000, 0, false) : Sg) rfl rfl (by decide) (x := (1000 : Int)) rfl ?_))
   exact Own.retP rfl h.emp'
  ·refine w_ite (fun c => (by cases c)) fun _ => ?_
   refine w_call (queued_tri b (newM plainC)) h fun r w h => ?_
   obtain ⟨hr, h⟩ := h.purP; rw [hr]
   refine w_ite (fun c => (by cases c)) fun _ => ⟨trivial, h⟩
end EgH

namespace EgI
open Arith ArithC TreeF FqM FqC SockC EgM EgA EgB EgC EgD EgE EgF EgG EgH
open SockM (Sk emitS doneS writeS loseS newS skFl skTso mayS)
theorem do_step (v : Mc) (d : Dd) (xs : List (Int × Int)) : (doF v d xs).2 = (stepM v d xs).2.2 := by unfold doF; split <;> rfl
end EgI

namespace EgJ
open Arith ArithC TreeF FqM FqC SockC EgM EgA EgB EgC EgD EgE EgF EgG EgH EgI
open SockM (Sk emitS doneS writeS loseS newS skFl skTso mayS)
open SockO (IvS)
open SockV (IvB)
def sgO (x : Option Fl) : List Sg := match x with
 | none => []
 | some f => f.sg
theorem cnt_sg (x : Option Fl) : cnt x = ((sgO x).length : Int) := by cases x <;> rfl
theorem coll_sg (v : Qm) (t : Int) (j : Nat) : sgO ((collectF v t).fl j) = sgO (v.fl j) := by
 show sgO (if _ then _ else _) = _
 split
 ·rename_i e
  obtain ⟨f, hf, hs, _⟩ := FqM.idle_some e
  rw [hf]
  exact hs.symm
 ·rfl
theorem enq_sg (v : Qm) (s : Sg) (t : Int) (hk : 0 ≤ sK s ∧ sK s ≤ 7) (hl : 1 ≤ sLn s ∧ sLn s ≤ 65536) : ((enqF v s t).1 = (0, 0) ∧ ∀ j, sgO ((enqF v s t).2.fl j) = sgO (v.fl j) ++ if j = (sK s).toNat then [drawn v s t] else []) ∨
  (((enqF v s t).1 = (2, 0) ∨ (enqF v s t).1 = (3, 0) ∨ (enqF v s t).1 = (4, 0)) ∧ ∀ j, sgO ((enqF v s t).2.fl j) = sgO (v.fl j)) := by
 unfold enqF
 rw [if_neg (fun h => h hk), if_neg (fun h => h hl)]
 split
 ·refine .inl ⟨rfl, fun j => ?_⟩
  dsimp only
  rw [FqM.add_eq]
  show sgO (upF (collectF v t).fl (sK s).toNat _ j) = _
  by_cases e : j = (sK s).toNat
  ·rw [e, upF_same, if_pos rfl]
   show ((woken (collectF v t) (sK s).toNat t).sg ++ [drawn v s t]) = _
   rw [woken_sg, ← coll_sg v t]
   cases (collectF v t).fl (sK s).toNat <;> rfl
  ·rw [upF_ne _ _ e, if_neg e, coll_sg, List.append_nil]
 ·rename_i hf
  refine .inr ⟨?_, coll_sg v t⟩
  rcases FqT.fate_ne hf with h | h | h
  ·left; show (_, (0:Int)) = _; rw [h]
  ·right; left; show (_, (0:Int)) = _; rw [h]
  ·right; right; show (_, (0:Int)) = _; rw [h]
theorem same_sg {u v : Qm} (h : FqQ.Same u v) (j : Nat) : sgO (v.fl j) = sgO (u.fl j) := by
 have := h j
 cases hu : u.fl j with
 | none =>
  rw [hu] at this
  cases hv : v.fl j with
  | none => rfl
  | some g => rw [hv] at this; cases this
 | some f =>
  obtain ⟨g, hg, _, hs, _⟩ := h.to hu
  rw [hg]
  exact hs
theorem deq_sg {v : Qm} (hv : OkQ v) {t : Int} (ut : U t) {rates : List Int} (hr : ∀ x ∈ rates, U x) :
  ((deqF v t rates).1 = none ∧ ∀ j, sgO ((deqF v t rates).2.fl j) = sgO (v.fl j)) ∨ ∃ (i : Nat) (s : Sg), (deqF v t rates).1 = some s ∧ (sK s = (i : Int) ∧ i < 8) ∧ ∀ j, sgO (v.fl j) = (if j = i then [s] else []) ++ sgO ((deqF v t rates).2.fl j) := by
 obtain ⟨u, hu, hc⟩ := FqQ.ran hv ut hr
 rcases hc with ⟨_, he⟩ | ⟨i, f, s, l, hA, hcr, hs, htf, he⟩
 ·left
  rw [he]
  exact ⟨rfl, same_sg hu.same⟩
 ·right
  have hF := (hu.ok.fl i f hA.fl).2
  obtain ⟨hsk, hso⟩ := hF.sg s (by rw [hs]; simp)
  rw [he]
  refine ⟨i, s, rfl, ⟨hsk, hA.lt⟩, fun j => ?_⟩
  rw [← same_sg hu.same j]
  show _ = _ ++ sgO (upF u.fl i _ j)
  by_cases e : j = i
  ·rw [e, upF_same, if_pos rfl, hA.fl]
   show f.sg = _
   rw [hs]; rfl
  ·rw [upF_ne _ _ e, if_neg e]
   rfl
theorem close_sg (v : Qm) (i : Nat) (hi : i < 8) : (closeF v (i : Int)).1 = sgO (v.fl i) ∧ ∀ j, sgO ((closeF v (i : Int)).2.fl j) = if j = i then [] else sgO (v.fl j) := by
 cases hf : v.fl i with
 | none =>
  have e : closeF v (i : Int) = ([], v) := by unfold closeF; rw [if_neg (by omega), Int.toNat_natCast, hf]
  rw [e]
  refine ⟨rfl, fun j => ?_⟩
  by_cases ej : j = i
  ·rw [if_pos ej, ej]; show sgO (v.fl i) = _; rw [hf]; rfl
  ·rw [if_neg ej]
 | some f =>
  have e : (closeF v (i : Int)).1 = f.sg ∧ (closeF v (i : Int)).2.fl = upF v.fl i none := by unfold closeF; rw [if_neg (by omega), Int.toNat_natCast, hf]; exact ⟨rfl, rfl⟩
  rw [e.1, e.2]
  refine ⟨rfl, fun j => ?_⟩
  by_cases ej : j = i
  ·rw [ej, upF_same, if_pos rfl]; rfl
  ·rw [upF_ne _ _ ej, if_neg ej]
theorem sg_id {v : Qm} (hv : OkQ v) {i : Nat} {s : Sg} (h : s ∈ sgO (v.fl i)) : sK s = (i : Int) := by
 cases hf : v.fl i with
 | none => rw [hf] at h; cases h
 | some f => rw [hf] at h; exact ((hv.fl i f hf).2.sg s h).1
abbrev b0 (c : Ct) : Int := c.2.1
abbrev b1 (c : Ct) : Int := c.2.2.1
abbrev b2 (c : Ct) : Int := c.2.2.2.1
abbrev b3 (c : Ct) : Int := c.2.2.2.2.1
abbrev b4 (c : Ct) : Int := c.2.2.2.2.2.1
abbrev b5 (c : Ct) : Int := c.2.2.2.2.2.2.1
structure Bk (B : Int) (c : Ct) (n : Int) : Prop where
 z : c.1 = 0
 p1 : 0 ≤ b1 c
 p2 : 0 ≤ b2 c
 p3 : 0 ≤ b3 c
 p4 : 0 ≤ b4 c
 p5 : 0 ≤ b5 c
 q : cWt c = n
 nn : 0 ≤ n
 s : b0 c = b1 c + b2 c + b3 c + b4 c + b5 c + n
 b : b0 c ≤ B
theorem Bk.le {B D : Int} {c : Ct} {n : Int} (h : Bk B c n) (hb : B ≤ D) : Bk D c n := { h with b := Int.le_trans h.b hb }
theorem inc_eq {n : Int} (h : 0 ≤ n ∧ n < 4611686018427387904) : inc n = n + 1 := wi (by omega) (by omega)
theorem dec_eq {n : Int} (h : 0 ≤ n ∧ n < 4611686018427387904) : dec n = n - 1 := wi (by omega) (by omega)
theorem bk_in {B : Int} {c : Ct} {n : Int} (h : Bk B c n) (hB : B < 1152921504606846976) : Bk (B + 1) (note1 c 0).2 (n + 1) ∧ b5 (note1 c 0).2 = b5 c ∧ b1 (note1 c 0).2 = b1 c ∧ b0 (note1 c 0).2 = b0 c + 1 := by
 obtain ⟨z, p1, p2, p3, p4, p5, q, hn, s, b⟩ := h
 have e : note1 c 0 = (0, (c.1, inc (b0 c), b1 c, b2 c, b3 c, b4 c, b5 c, inc (cWt c))) := rfl
 rw [e, inc_eq (n := b0 c) (by omega), inc_eq (n := cWt c) (by omega)]
 exact ⟨⟨z, p1, p2, p3, p4, p5, by show cWt c + 1 = n + 1; omega, by omega, by show b0 c + 1 = _; show b0 c + 1 = b1 c + b2 c + b3 c + b4 c + b5 c + (n + 1); omega, by show b0 c + 1 ≤ B + 1; omega⟩, rfl, rfl, rfl⟩
theorem bk_out {B : Int} {c : Ct} {n : Int} (h : Bk B c n) (hB : B < 1152921504606846976) (hn : 1 ≤ n) {f : Int} (hf : 1 ≤ f ∧ f ≤ 5) : Bk B (note1 c f).2 (n - 1) ∧ (f = 5 → b5 (note1 c f).2 = b5 c + 1) ∧ (f ≠ 5 → b5 (note1 c f).2 = b5 c) ∧ (f = 1 → b1 (note1 c f).2 = b1 c + 1) ∧ (f ≠ 1 → b1 (note1 c f).2 = b1 c) ∧ b0 (note1 c f).2 = b0 c := by
 obtain ⟨z, p1, p2, p3, p4, p5, q, hn0, s, b⟩ := h
 have e : note1 c f = (0, bump (wait c (dec (cWt c))) f) := by
  unfold note1
  rw [if_neg (by omega), if_neg (by omega), if_neg (by omega)]
 have d := dec_eq (n := cWt c) (by omega)
 have i1 := inc_eq (n := b1 c) (by omega)
 have i2 := inc_eq (n := b2 c) (by omega)
 have i3 := inc_eq (n := b3 c) (by omega)
 have i4 := inc_eq (n := b4 c) (by omega)
 have i5 := inc_eq (n := b5 c) (by omega)
 rw [e, d]
 have : f = 1 ∨ f = 2 ∨ f = 3 ∨ f = 4 ∨ f = 5 := by omega
 rcases this with rfl | rfl | rfl | rfl | rfl
 ·have e2 : bump (wait c (cWt c - 1)) 1 = (c.1, b0 c, inc (b1 c), b2 c, b3 c, b4 c, b5 c, cWt c - 1) := rfl
  rw [e2, i1]
  exact ⟨⟨z, (by show 0 ≤ b1 c + 1; omega), p2, p3, p4, p5, (by show cWt c - 1 = n - 1; omega), by omega, (by show b0 c = b1 c + 1 + b2 c + b3 c + b4 c + b5 c + (n - 1); omega), b⟩, fun x => (by cases x), fun _ => rfl, fun _ => rfl, fun x => absurd rfl x, rfl⟩
 ·have e2 : bump (wait c (cWt c - 1)) 2 = (c.1, b0 c, b1 c, inc (b2 c), b3 c, b4 c, b5 c, cWt c - 1) := rfl
  rw [e2, i2]
  exact ⟨⟨z, p1, (by show 0 ≤ b2 c + 1; omega), p3, p4, p5, (by show cWt c - 1 = n - 1; omega), by omega, (by show b0 c = b1 c + (b2 c + 1) + b3 c + b4 c + b5 c + (n - 1); omega), b⟩, fun x => (by cases x), fun _ => rfl, fun x => (by cases x), fun _ => rfl, rfl⟩
 ·have e2 : bump (wait c (cWt c - 1)) 3 = (c.1, b0 c, b1 c, b2 c, inc (b3 c), b4 c, b5 c, cWt c - 1) := rfl
  rw [e2, i3]
  exact ⟨⟨z, p1, p2, (by show 0 ≤ b3 c + 1; omega), p4, p5, (by show cWt c - 1 = n - 1; omega), by omega, (by show b0 c = b1 c + b2 c + (b3 c + 1) + b4 c + b5 c + (n - 1); omega), b⟩, fun x => (by cases x), fun _ => rfl, fun x => (by cases x), fun _ => rfl, rfl⟩
 ·have e2 : bump (wait c (cWt c - 1)) 4 = (c.1, b0 c, b1 c, b2 c, b3 c, inc (b4 c), b5 c, cWt c - 1) := rfl
  rw [e2, i4]
  exact ⟨⟨z, p1, p2, p3, (by show 0 ≤ b4 c + 1; omega), p5, (by show cWt c - 1 = n - 1; omega), by omega, (by show b0 c = b1 c + b2 c + b3 c + (b4 c + 1) + b5 c + (n - 1); omega), b⟩, fun x => (by cases x), fun _ => rfl, fun x => (by cases x), fun _ => rfl, rfl⟩
 ·have e2 : bump (wait c (cWt c - 1)) 5 = (c.1, b0 c, b1 c, b2 c, b3 c, b4 c, inc (b5 c), cWt c - 1) := rfl
  rw [e2, i5]
  exact ⟨⟨z, p1, p2, p3, p4, (by show 0 ≤ b5 c + 1; omega), (by show cWt c - 1 = n - 1; omega), by omega, (by show b0 c = b1 c + b2 c + b3 c + b4 c + (b5 c + 1) + (n - 1); omega), b⟩, fun _ => rfl, fun x => absurd rfl x, fun x => (by cases x), fun _ => rfl, rfl⟩
theorem noteL_eq (l : Nat → Ct) {i : Nat} (hi : i < 8) (f : Int) : (noteL l (i : Int) f).2 = EgM.upL l i (note1 (l i) f).2 := by
 unfold noteL
 rw [if_neg (by omega), Int.toNat_natCast]
def BkL (B : Int) (l : Nat → Ct) (fl : Nat → Option Fl) : Prop := ∀ i, i < 8 → Bk B (l i) (cnt (fl i))
theorem BkL.le {B D : Int} {l : Nat → Ct} {fl : Nat → Option Fl} (h : BkL B l fl) (hb : B ≤ D) : BkL D l fl := fun i hi => (h i hi).le hb
theorem BkL.same {B : Int} {l : Nat → Ct} {fl gl : Nat → Option Fl} (h : BkL B l fl) (hs : ∀ j, sgO (gl j) = sgO (fl j)) : BkL B l gl := fun i hi => by rw [cnt_sg, hs, ← cnt_sg]; exact h i hi
theorem pull_bk {k B : Int} {v : Mc} (hv : OkMc k v) (hb : BkL B v.l v.q.fl) (hB : B < 1152921504606846976) (o : Ou) : BkL B (pullF v o).2.l (pullF v o).2.q.fl := by
 unfold pullF
 rcases deq_sg hv.q hv.un (rates_U hv) with ⟨h1, h2⟩ | ⟨i, s, h1, ⟨h3, h4⟩, h2⟩
 ·cases hd : deqF v.q v.now (ratesF v.so) with
  | mk x q =>
  rw [hd] at h1 h2
  dsimp only at h1
  subst h1
  exact hb.same h2
 ·cases hd : deqF v.q v.now (ratesF v.so) with
  | mk x q =>
  rw [hd] at h1 h2
  dsimp only at h1
  subst h1
  show BkL B (noteL v.l (sK s) 1).2 q.fl
  rw [h3, noteL_eq v.l h4]
  intro j hj
  have hj2 := h2 j
  have hbj := hb j hj
  by_cases e : j = i
  ·rw [e] at hj2 hbj ⊢
   rw [EgM.upL_same]
   rw [if_pos rfl] at hj2
   have hc : cnt (v.q.fl i) = cnt (q.fl i) + 1 := by rw [cnt_sg, cnt_sg, hj2]; simp
   have := (bk_out hbj hB (by rw [hc]; have := cnt_nn (q.fl i); omega) (f := 1) (by omega)).1
   rw [hc] at this
   rw [show cnt (q.fl i) = cnt (q.fl i) + 1 - 1 by omega]; exact this
  ·rw [EgM.upL_ne _ _ e]
   rw [if_neg e, List.nil_append] at hj2
   rw [cnt_sg, ← hj2, ← cnt_sg]; exact hbj
theorem enter_bk {k B now : Int} {i : Nat} (hi : i < 8) {s : Pm} (h : OkPm k i s) (hn : U now) (he : (emitS s.v now).1.2 = 0) (hb : BkL B s.l s.q.fl) (hB : B < 1152921504606846975) : BkL (B + 1) (enter i now s).1.l (enter i now s).1.q.fl := by
  have hw := went_of h.v hn he
  have hg1 : sK (emitS s.v now).1.1 = (i : Int) := hw.id.trans h.id
  have hg2 : 1 ≤ sLn (emitS s.v now).1.1 ∧ sLn (emitS s.v now).1.1 ≤ 65536 := hw.n
  obtain ⟨g, hg⟩ : ∃ g, g = (emitS s.v now).1.1 := ⟨_, rfl⟩
  have hin := bk_in (hb i hi) (by omega)
  rw [← hg] at hg1 hg2
  have een : enter i now s = if (enqF s.q g now).1.1 = 0 then (⟨(emitS s.v now).2, (enqF s.q g now).2, (noteL s.l i 0).2, s.o⟩, 0)
        else (⟨(doneS (emitS s.v now).2 g.2.2.1).2, (enqF s.q g now).2, (dropF (noteL s.l i 0).2 s.o g (enqF s.q g now).1.1).2, (dropF (noteL s.l i 0).2 s.o g (enqF s.q g now).1.1).1⟩, 1) := by
    rw [hg]; rfl
  have hgn : (sK g).toNat = i := by omega
  rcases enq_sg s.q g now (by omega) hg2 with ⟨h1, h2⟩ | ⟨h1, h2⟩
  · rw [if_pos (by rw [h1])] at een
    rw [een]
    show BkL (B + 1) (noteL s.l i 0).2 (enqF s.q g now).2.fl
    rw [noteL_eq s.l hi]
    intro j hj
    by_cases e : j = i
    · rw [e, EgM.upL_same, cnt_sg, h2, hgn, if_pos rfl, List.length_append, List.length_singleton]
      have := hin.1
      rw [cnt_sg] at this
      exact_mod_cast this
    · rw [EgM.upL_ne _ _ e, cnt_sg, h2, hgn, if_neg e, List.append_nil, ← cnt_sg]
      exact (hb j hj).le (by omega)
  · have hne : ¬ (enqF s.q g now).1.1 = 0 := by rcases h1 with h | h | h <;> rw [h] <;> (show ¬ (_ : Int) = 0; decide)
    have hfr : 1 ≤ (enqF s.q g now).1.1 ∧ (enqF s.q g now).1.1 ≤ 5 := by
      rcases h1 with h | h | h <;> rw [h]
      · show (1:Int) ≤ 2 ∧ (2:Int) ≤ 5; decide
      · show (1:Int) ≤ 3 ∧ (3:Int) ≤ 5; decide
      · show (1:Int) ≤ 4 ∧ (4:Int) ≤ 5; decide
    rw [if_neg hne] at een
    rw [een]
    show BkL (B + 1) (noteL (noteL s.l i 0).2 (sK g) (enqF s.q g now).1.1).2 (enqF s.q g now).2.fl
    rw [hg1, noteL_eq s.l hi, noteL_eq _ hi]
    intro j hj
    rw [cnt_sg, h2, ← cnt_sg]
    by_cases e : j = i
    · rw [e, EgM.upL_same, EgM.upL_same]
      have := (bk_out hin.1 (by omega) (by have := (hb i hi).nn; omega) hfr).1
      rw [show cnt (s.q.fl i) + 1 - 1 = cnt (s.q.fl i) by omega] at this
      exact this
    · rw [EgM.upL_ne _ _ e, EgM.upL_ne _ _ e]
      exact (hb j hj).le (by omega)
theorem pumpN_bk {k now : Int} {i : Nat} (hi : i < 8) (hn : U now) : ∀ (n : Nat) (s : Pm) (B : Int), OkPm k i s → BkL B s.l s.q.fl → B + n < 1152921504606846975 → BkL (B + n) (pumpN i now n s).l (pumpN i now n s).q.fl
 | 0, s, B, _, hb, _ => by show BkL (B + (0 : Nat)) s.l s.q.fl; rw [show B + ((0 : Nat) : Int) = B by omega]; exact hb
 | n + 1, s, B, h, hb, hB => by
  unfold pumpN
  by_cases he : (emitS s.v now).1.2 = 0
  ·rw [if_neg (fun c => c he)]
   have h1 := (enter_ok h hn he).1
   have h2 := enter_bk hi h hn he hb (by omega)
   split
   ·have := pumpN_bk hi hn n _ (B + 1) h1 h2 (by omega)
    rw [show B + 1 + (n : Int) = B + ((n + 1 : Nat) : Int) by omega] at this
    exact this
   ·exact h2.le (by omega)
  ·rw [if_pos he]
   exact hb.le (by omega)
theorem fresh_r {k : Int} {x : Sk} (h : IvS k x) : (fresh x : Int) ≤ 1073745920 := by
 have h1 := h.ok.bf.ll
 have h2 := h.ok.bf.l
 have h3 := h.ok.bf.un
 have h4 := h.ok.bf.nw
 have h5 := h.ok.bl
 have h6 := List.countP_le_length (p := fun p => Board.pLo p) (l := x.bd.1)
 have e : fresh x = (SockA.bW x.bf - SockA.bN x.bf).toNat + x.bd.1.countP (fun p => Board.pLo p) := rfl
 rw [e]; omega
theorem drops_bk {B : Int} {i : Nat} (hi : i < 8) (hB : B < 1152921504606846976) : ∀ (ss : List Sg) (l : Nat → Ct) (o : Ou), (∀ s ∈ ss, sK s = (i : Int)) → Bk B (l i) (ss.length : Int) → Bk B ((dropsF l o ss).2 i) 0 ∧ b5 ((dropsF l o ss).2 i) = b5 (l i) + (ss.length : Int) ∧ b1 ((dropsF l o ss).2 i) = b1 (l i) ∧ b0 ((dropsF l o ss).2 i) = b0 (l i) ∧ ∀ j, j ≠ i → (dropsF l o ss).2 j = l j
 | [], l, o, _, hb => ⟨hb, by show b5 (l i) = b5 (l i) + ((0 : Nat) : Int); omega, rfl, rfl, fun _ _ => rfl⟩
 | s :: ss, l, o, hs, hb => by
  have hk := hs s (List.mem_cons_self ..)
  have e : (dropF l o s 5).2 = EgM.upL l i (note1 (l i) 5).2 := by show (noteL l (sK s) 5).2 = _; rw [hk, noteL_eq l hi]
  rw [List.length_cons] at hb ⊢
  obtain ⟨c1, c2, _, _, c5, c6⟩ := bk_out hb hB (by omega) (f := 5) (by omega)
  obtain ⟨d1, d2, d3, d4, d5⟩ := drops_bk hi hB ss (dropF l o s 5).2 (dropF l o s 5).1 (fun x hx => hs x (List.mem_cons_of_mem _ hx)) (by rw [e, EgM.upL_same]; rw [show (ss.length : Int) = ((ss.length + 1 : Nat) : Int) - 1 by omega]; exact c1)
  have x5 : b5 ((dropF l o s 5).2 i) = b5 (l i) + 1 := by rw [e, EgM.upL_same]; exact c2 rfl
  have x1 : b1 ((dropF l o s 5).2 i) = b1 (l i) := by rw [e, EgM.upL_same]; exact c5 (by decide)
  have x0 : b0 ((dropF l o s 5).2 i) = b0 (l i) := by rw [e, EgM.upL_same]; exact c6
  exact ⟨d1, by show b5 ((dropsF (dropF l o s 5).2 (dropF l o s 5).1 ss).2 i) = _; omega, d3.trans x1, d4.trans x0, fun j hj => by
   show (dropsF (dropF l o s 5).2 (dropF l o s 5).1 ss).2 j = l j
   rw [d5 j hj, e, EgM.upL_ne _ _ hj]⟩
theorem shut_bk {k B : Int} {v : Mc} (hv : OkMc k v) (hb : BkL B v.l v.q.fl) (hB : B < 1152921504606846976) {i : Nat} (hi : i < 8) (o : Ou) : BkL B (shutM v i o).2.l (shutM v i o).2.q.fl ∧ b5 ((shutM v i o).2.l i) = b5 (v.l i) + ((closeF v.q (i : Int)).1.length : Int) := by
 obtain ⟨c1, c2⟩ := close_sg v.q i hi
 have hids : ∀ s ∈ (closeF v.q (i : Int)).1, sK s = (i : Int) := fun s hs => by rw [c1] at hs; exact sg_id hv.q hs
 have hbi := hb i hi
 rw [cnt_sg, ← c1] at hbi
 obtain ⟨d1, d2, _, _, d5⟩ := drops_bk hi hB (closeF v.q (i : Int)).1 v.l o hids hbi
 refine ⟨fun j hj => ?_, d2⟩
 show Bk B ((dropsF v.l o (closeF v.q (i : Int)).1).2 j) (cnt ((closeF v.q (i : Int)).2.fl j))
 rw [cnt_sg, c2 j]
 by_cases e : j = i
 ·rw [if_pos e, e]; exact d1
 ·rw [if_neg e, d5 j e, ← cnt_sg]; exact hb j hj
theorem set_bk {B : Int} {v : Mc} (hb : BkL B v.l v.q.fl) (c : Cf) : BkL B (setM v c).2.l (setM v c).2.q.fl := by
 have e : (setF v.q c).2.fl = v.q.fl := by unfold setF; split <;> rfl
 unfold setM
 split
 ·show BkL B v.l (setF v.q c).2.fl; rw [e]; exact hb
 ·show BkL B v.l (setF v.q c).2.fl; rw [e]; exact hb
theorem one_bk {k B : Int} {v : Mc} (hv : OkMc k v) (hk : k < 1000000) (hb : BkL B v.l v.q.fl) (hB : B < 1152921500000000000) (d : Dd) (xs : List (Int × Int)) (o : Ou) : BkL (B + 2147483648) (oneM v d xs o).2.2.l (oneM v d xs o).2.2.q.fl := by
 have h0 : BkL (B + 2147483648) v.l v.q.fl := hb.le (by omega)
 unfold oneM
 split
 ·exact h0
 ·rename_i hi
  have hi : 0 ≤ dS d ∧ dS d < 8 := Classical.not_not.1 hi
  have hi8 : (dS d).toNat < 8 := by omega
  split
  ·split
   ·exact h0
   ·exact h0
  ·rename_i x hx
   obtain ⟨hxi, hxd, _⟩ := hv.so _ x hx
   split
   ·exact h0
   ·split
    ·exact (shut_bk hv hb (by omega) hi8 o).1.le (by omega)
    ·obtain ⟨a, b⟩ := told_ok hxi hk hv.un d xs
     split
     ·have hs : OkPm (k + 1) ((dS d).toNat : Int) ⟨(toldF x v.now d xs).2, v.q, v.l, o⟩ := ⟨a, b.trans hxd, hv.q⟩
      have hfr := fresh_r a.i
      have := pumpN_bk hi8 hv.un (fresh (toldF x v.now d xs).2 + 1) ⟨(toldF x v.now d xs).2, v.q, v.l, o⟩ B hs hb (by omega)
      exact this.le (by omega)
     ·exact h0
theorem do_bk {k B : Int} {v : Mc} (hv : OkMc k v) (hk : k < 1000000) (hb : BkL B v.l v.q.fl) (hB : B < 1152921500000000000) (d : Dd) (xs : List (Int × Int)) : BkL (B + 2147483648) (doF v d xs).2.l (doF v d xs).2.q.fl := by
 have h0 : BkL (B + 2147483648) v.l v.q.fl := hb.le (by omega)
 rw [do_step]
 unfold stepM
 split
 ·exact h0
 ·split
  ·exact (pull_bk hv hb (by omega) ou0).le (by omega)
  ·split
   ·exact set_bk h0 _
   ·split
    ·exact one_bk hv hk hb hB d xs ou0
    ·exact h0
theorem new_bk (c : Cf) : BkL 0 (newM c).l (newM c).q.fl := fun i _ => ⟨rfl, Int.le_refl 0, Int.le_refl 0, Int.le_refl 0, Int.le_refl 0, Int.le_refl 0, rfl, Int.le_refl 0, rfl, Int.le_refl 0⟩
end EgJ

namespace EgK
open Arith ArithC TreeF FqM FqC SockC EgM EgA EgB EgC EgD EgE EgF EgG EgH EgI EgJ
open SockM (Sk emitS doneS writeS loseS newS skFl skTso mayS)
section
variable {w0 w : World} {S R : Nat → Prop}
end
abbrev c8 (c : Ct) : List Int := [c.1, b0 c, b1 c, b2 c, b3 c, b4 c, b5 c, cWt c]
end EgK

namespace EgL
open Arith ArithC TreeF FqM FqC SockC EgM EgA EgB EgC EgD EgE EgF EgG EgH EgI EgJ EgK
open SockM (Sk emitS doneS writeS loseS newS skFl skTso mayS)
section
variable {w0 w : World} {S R : Nat → Prop} {F G : SP}
theorem w_do0 {b : Nat} {v : Mc} {k : Int} {d : Dd} (h : Own w0 S R w F) [tk : TakeK EgB.mach b F v G] (hv : OkMc k v) (hk : k < 1000000) (hd : OkD d) (hR : dR d = ⟨none, 0, 0⟩)
  {A : Rs.T [.agg KOu, .lf (.int .i64)] → WP} (hA : ∀ (r : Rs.T [.agg KOu, .lf (.int .i64)]) (w : World), r.2 = (doF v d []).1.2 → Own w0 S R w (mach b (doF v d []).2 ^ outR r.1 (doF v d []).1.1 ^ G) → A r w) :
  call Tryz.prog N_egress_Machine_Do [.lf (.ptr (some ⟨b, 0⟩)), .agg (Ks.mk KD d)] [.agg KOu, .lf (.int .i64)] A w := by
 refine w_call (do0_tri b k v hv hk d hd hR) (h.le tk.le) fun r w h => ?_
 obtain ⟨hre, h⟩ := h.purP
 exact hA r w hre (h.le (star_assoc _ _ _))
end
abbrev dOne (k s n : Int) : Dd := (k, s, n, 0, 0, ⟨none, 0, 0⟩, 0, 0, 0, 0, 0, 0, false, 0, 0)
theorem dOne_ok (k s n : Int) (h : n < 9223372036854775808) : OkD (dOne k s n) := ⟨h, U_lit 0, U_lit 0, (by decide : (0:Int) ≤ 0), U_lit 0⟩
theorem open_eq (v : Mc) {s : Int} (hs : 0 ≤ s ∧ s < 8) (h : v.so s.toNat = none) : doF v (dOne 1 s 0) [] = ((ou0, 0), { v with so := upL v.so s.toNat (some (newS s (cMss v.c) (cCap v.c))) }) := by
 have e : stepM v (dOne 1 s 0) [] = (0, ou0, { v with so := upL v.so s.toNat (some (newS s (cMss v.c) (cCap v.c))) }) := by
  show oneM v (dOne 1 s 0) [] ou0 = _
  unfold oneM
  rw [if_neg (fun c => c hs)]
  show (match v.so s.toNat with | none => _ | some x => _) = _
  rw [h]
  rfl
 unfold doF
 rw [e]
 rfl
end EgL

namespace EgO
open Arith ArithC TreeF FqM FqC SockC EgM EgA EgB EgC EgD EgE EgF EgG EgH EgI EgJ EgK EgL
open SockM (Sk emitS doneS writeS loseS newS skFl skTso mayS)
theorem note_b5 (c : Ct) {f : Int} (hf : f ≠ 5) : b5 (note1 c f).2 = b5 c := by
 unfold note1
 split
 ·rfl
 ·rename_i h
  have : f = 0 ∨ f = 1 ∨ f = 2 ∨ f = 3 ∨ f = 4 := by omega
  rcases this with rfl | rfl | rfl | rfl | rfl
  ·rfl
  all_goals (rw [if_neg (by decide)]; split <;> rfl)
theorem noteL_b5 (l : Nat → Ct) (s : Int) {f : Int} (hf : f ≠ 5) (j : Nat) : b5 ((noteL l s f).2 j) = b5 (l j) := by
 unfold noteL
 split
 ·rfl
 ·show b5 (EgM.upL l s.toNat _ j) = _
  by_cases e : j = s.toNat
  ·rw [e, EgM.upL_same]; exact note_b5 _ hf
  ·rw [EgM.upL_ne _ _ e]
theorem enter_sg {k now : Int} {i : Nat} (hi : i < 8) {s : Pm} (h : OkPm k i s) (hn : U now) (he : (emitS s.v now).1.2 = 0) :
    (∀ j, b5 ((enter i now s).1.l j) = b5 (s.l j)) ∧ (∀ j, j ≠ i → sgO ((enter i now s).1.q.fl j) = sgO (s.q.fl j)) ∧ (sgO (s.q.fl i)).length + (if (enqF s.q (emitS s.v now).1.1 now).1.1 = 0 then 1 else 0) ≤ (sgO ((enter i now s).1.q.fl i)).length := by
  have hw := went_of h.v hn he
  have hg1 : sK (emitS s.v now).1.1 = (i : Int) := hw.id.trans h.id
  have hg2 : 1 ≤ sLn (emitS s.v now).1.1 ∧ sLn (emitS s.v now).1.1 ≤ 65536 := hw.n
  obtain ⟨g, hg⟩ : ∃ g, g = (emitS s.v now).1.1 := ⟨_, rfl⟩
  rw [← hg] at hg1 hg2 ⊢
  have een : enter i now s = if (enqF s.q g now).1.1 = 0 then (⟨(emitS s.v now).2, (enqF s.q g now).2, (noteL s.l i 0).2, s.o⟩, 0)
        else (⟨(doneS (emitS s.v now).2 g.2.2.1).2, (enqF s.q g now).2, (dropF (noteL s.l i 0).2 s.o g (enqF s.q g now).1.1).2, (dropF (noteL s.l i 0).2 s.o g (enqF s.q g now).1.1).1⟩, 1) := by
    rw [hg]; rfl
  have hgn : (sK g).toNat = i := by omega
  rcases enq_sg s.q g now (by omega) hg2 with ⟨h1, h2⟩ | ⟨h1, h2⟩
  · rw [if_pos (by rw [h1])] at een
    rw [een, if_pos (by rw [h1])]
    refine ⟨fun j => noteL_b5 s.l i (by decide) j, fun j hj => ?_, ?_⟩
    · show sgO ((enqF s.q g now).2.fl j) = _
      rw [h2, hgn, if_neg hj, List.append_nil]
    · show _ ≤ (sgO ((enqF s.q g now).2.fl i)).length
      rw [h2, hgn, if_pos rfl, List.length_append, List.length_singleton]
      exact Nat.le_refl _
  · have hne : ¬ (enqF s.q g now).1.1 = 0 := by rcases h1 with h | h | h <;> rw [h] <;> (show ¬ (_ : Int) = 0; decide)
    have h5 : (enqF s.q g now).1.1 ≠ 5 := by rcases h1 with h | h | h <;> rw [h] <;> (show ¬ (_ : Int) = 5; decide)
    rw [if_neg hne] at een
    rw [een, if_neg hne]
    refine ⟨fun j => ?_, fun j hj => h2 j, ?_⟩
    · show b5 ((noteL (noteL s.l i 0).2 (sK g) (enqF s.q g now).1.1).2 j) = _
      rw [noteL_b5 _ _ h5, noteL_b5 _ _ (by decide)]
    · show _ ≤ (sgO ((enqF s.q g now).2.fl i)).length
      rw [h2]
      exact Nat.le_refl _
theorem pumpN_sg {k now : Int} {i : Nat} (hi : i < 8) (hn : U now) : ∀ (n : Nat) (s : Pm), OkPm k i s → (∀ j, b5 ((pumpN i now n s).l j) = b5 (s.l j)) ∧ (∀ j, j ≠ i → sgO ((pumpN i now n s).q.fl j) = sgO (s.q.fl j)) ∧ (sgO (s.q.fl i)).length ≤ (sgO ((pumpN i now n s).q.fl i)).length ∧
  (n ≠ 0 → (emitS s.v now).1.2 = 0 → (enqF s.q (emitS s.v now).1.1 now).1.1 = 0 → (sgO (s.q.fl i)).length + 1 ≤ (sgO ((pumpN i now n s).q.fl i)).length)
 | 0, s, _ => ⟨fun _ => rfl, fun _ _ => rfl, Nat.le_refl _, fun h => absurd rfl h⟩
 | n + 1, s, h => by
  unfold pumpN
  by_cases he : (emitS s.v now).1.2 = 0
  ·rw [if_neg (fun c => c he)]
   have h1 := (enter_ok h hn he).1
   obtain ⟨a1, a2, a3⟩ := enter_sg hi h hn he
   split
   ·obtain ⟨p1, p2, p3, _⟩ := pumpN_sg hi hn n _ h1
    refine ⟨fun j => (p1 j).trans (a1 j), fun j hj => (p2 j hj).trans (a2 j hj), by omega, fun _ _ hq => ?_⟩
    rw [if_pos hq] at a3
    omega
   ·refine ⟨a1, a2, by omega, fun _ _ hq => ?_⟩
    rw [if_pos hq] at a3
    omega
  ·rw [if_pos he]
   exact ⟨fun _ => rfl, fun _ _ => rfl, Nat.le_refl _, fun _ hh => absurd hh he⟩
theorem no_eq (v : Mc) {k s : Int} (n : Int) (hk : k = 2 ∨ k = 3 ∨ k = 4 ∨ k = 7 ∨ k = 9) : (¬ (0 ≤ s ∧ s < 8) → doF v (dOne k s n) [] = ((ou0, 8), v)) ∧ (0 ≤ s ∧ s < 8 → v.so s.toNat = none → doF v (dOne k s n) [] = ((ou0, 10), v)) := by
 have e : stepM v (dOne k s n) [] = oneM v (dOne k s n) [] ou0 := by rcases hk with rfl | rfl | rfl | rfl | rfl <;> rfl
 constructor
 ·intro hs
  unfold doF
  rw [e]
  unfold oneM
  rw [if_pos hs]
  rfl
 ·intro hs hv
  have e2 : oneM v (dOne k s n) [] ou0 = (10, ou0, v) := by
   unfold oneM
   rw [if_neg (fun c => c hs)]
   show (match v.so s.toNat with | none => _ | some x => _) = _
   rw [hv]
   exact if_neg (by show ¬ k = 1; omega)
  unfold doF
  rw [e, e2]
  rfl
theorem odd_eq (v : Mc) {k : Int} (hk : 10 ≤ k) (s n : Int) : doF v (dOne k s n) [] = ((ou0, 12), v) := by
 have e : stepM v (dOne k s n) [] = (12, ou0, v) := by
  unfold stepM
  rw [if_neg (by show ¬ k = 5; omega), if_neg (by show ¬ k = 6; omega), if_neg (by show ¬ k = 8; omega), if_neg ?_]
  intro h
  have := one_k (k := k) h
  omega
 unfold doF
 rw [e]
 rfl
theorem again_eq (v : Mc) {s : Int} (hs : 0 ≤ s ∧ s < 8) {x : Sk} (h : v.so s.toNat = some x) : doF v (dOne 1 s 0) [] = ((ou0, 9), v) := by
 have e : stepM v (dOne 1 s 0) [] = (9, ou0, v) := by
  show oneM v (dOne 1 s 0) [] ou0 = _
  unfold oneM
  rw [if_neg (fun c => c hs)]
  show (match v.so s.toNat with | none => _ | some x => _) = _
  rw [h]
  rfl
 unfold doF
 rw [e]
 rfl
theorem shut_eq (v : Mc) {s : Int} (hs : 0 ≤ s ∧ s < 8) {x : Sk} (h : v.so s.toNat = some x) (n : Int) : doF v (dOne 9 s n) [] = (((shutM v s.toNat ou0).1, 0), (shutM v s.toNat ou0).2) := by
 have e : stepM v (dOne 9 s n) [] = (0, (shutM v s.toNat ou0).1, (shutM v s.toNat ou0).2) := by
  show oneM v (dOne 9 s n) [] ou0 = _
  unfold oneM
  rw [if_neg (fun c => c hs)]
  show (match v.so s.toNat with | none => _ | some x => _) = _
  rw [h]
  rfl
 unfold doF
 rw [e]
 rfl
theorem send_eq (v : Mc) {s : Int} (hs : 0 ≤ s ∧ s < 8) {x : Sk} (h : v.so s.toNat = some x) {n : Int} (hn : (writeS x n).1 = 0) : doF v (dOne 2 s n) [] = (((pumpM v s.toNat (writeS x n).2 ou0).1, 0), (pumpM v s.toNat (writeS x n).2 ou0).2) := by
 have e : stepM v (dOne 2 s n) [] = (0, (pumpM v s.toNat (writeS x n).2 ou0).1, (pumpM v s.toNat (writeS x n).2 ou0).2) := by
  show oneM v (dOne 2 s n) [] ou0 = _
  unfold oneM
  rw [if_neg (fun c => c hs)]
  show (match v.so s.toNat with | none => _ | some x => _) = _
  rw [h]
  show (if (writeS x n).1 = 0 then _ else _) = _
  rw [if_pos hn]
  rfl
 unfold doF
 rw [e]
 rfl
theorem tot_one (fl : Nat → Option Fl) {i : Nat} (hi : i < 8) (h : ∀ j, j ≠ i → sgO (fl j) = []) : tot fl 8 = ((sgO (fl i)).length : Int) := by
 have e := tot_ext (fl := fl) (gl := FqM.upF (fun _ => none) i (fl i)) 8 fun j hj => by
  by_cases e : j = i
  ·rw [e, FqM.upF_same]
  ·rw [FqM.upF_ne _ _ e, cnt_sg, h j e]; rfl
 rw [e, FqM.tot_up, if_pos hi, cnt_sg]
 show (0:Int) + 0 + 0 + 0 + 0 + 0 + 0 + 0 + 0 + (_ - 0) = _
 omega
theorem u_eq : (0:Int) < (BbrMm.mNew 1000).win ∧ (0:Int) < SockB.belowF (BbrMm.mNew 1000).rate (SockB.tsoF (BbrMm.mNew 1000).rate 1000) 100000 := by decide +kernel
def wrote (i n : Int) : Sk := ⟨i, SockB.clampM 1000, 100000, (n, 0, 0, 1073741824), ([], 0), SockB.sp0, BbrMm.mNew (SockB.clampM 1000), 0, 0⟩
theorem wrote_eq (i : Int) {n : Int} (hn : 1 ≤ n ∧ n ≤ 20000) : writeS (newS i 1000 100000) n = (0, wrote i n) := by
 unfold writeS SockA.wrF
 rw [if_neg (by omega), if_neg (by show ¬ n > 1073741824 - (0 - 0); omega)]
 have e : (0 : Int) + n = n := by omega
 show ((0 : Int), (⟨i, SockB.clampM 1000, 100000, (0 + n, 0, 0, 1073741824), ([], 0), SockB.sp0, BbrMm.mNew (SockB.clampM 1000), 0, 0⟩ : Sk)) = _
 rw [e]; rfl
theorem first_goes (i : Int) {n : Int} (hn : 1 ≤ n ∧ n ≤ 20000) : (emitS (wrote i n) 0).1.2 = 0 := by
 obtain ⟨x, hx⟩ : ∃ x : Sk, x = wrote i n := ⟨_, rfl⟩
 rw [← hx]
 have e1 : SockA.bW x.bf - SockA.bN x.bf = n := by rw [hx]; show n - 0 = n; omega
 have e2 : skFl x = 0 := by rw [hx]; rfl
 have e3 : x.md = BbrMm.mNew 1000 := by rw [hx]; rfl
 have e4 : x.out = 0 := by rw [hx]; rfl
 have e5 : x.bd = ([], 0) := by rw [hx]; rfl
 have e6 : x.cap = 100000 := by rw [hx]; rfl
 have e7 : skTso x = SockB.tsoF (BbrMm.mNew 1000).rate 1000 := by rw [hx]; rfl
 have hm : (mayS x).1 = 0 := by
  obtain ⟨u1, u2⟩ := u_eq
  have a1 : ¬ ((Board.lostF x.bd.1).2 = false ∧ SockA.bW x.bf - SockA.bN x.bf = 0) := by rw [e1]; omega
  have a2 : ¬ ¬ (skFl x < x.md.win ∧ x.out < SockB.belowF x.md.rate (skTso x) x.cap) := by rw [e2, e3, e4, e6, e7]; exact fun c => c ⟨u1, u2⟩
  have a3 : ¬ ((Board.lostF x.bd.1).2 = false ∧ (x.bd.1.length : Int) ≥ 4096) := by rw [e5]; show ¬ (_ ∧ (0:Int) ≥ 4096); omega
  unfold mayS
  rw [if_neg a1, if_neg a2, if_neg a3]
 unfold emitS
 rw [if_neg (fun c => c hm)]
theorem first_in {g : Sg} (h1 : 0 ≤ sK g ∧ sK g ≤ 7) (h2 : 1 ≤ sLn g ∧ sLn g ≤ 65536) (h3 : sSt g = 0) : (enqF (newF plainC) g 0).1.1 = 0 := by
 have hf : fateF (collectF (newF plainC) 0) g 0 = 0 := by
  have a1 : ¬ ((collectF (newF plainC) 0).n ≥ cL (collectF (newF plainC) 0).c) := by show ¬ (0:Int) ≥ 100; decide
  have a2 : ¬ (∃ f, (collectF (newF plainC) 0).fl (sK g).toNat = some f ∧ (f.sg.length : Int) ≥ cW (collectF (newF plainC) 0).c) := by
   rintro ⟨f, hf, hc⟩
   have e : sgO ((collectF (newF plainC) 0).fl (sK g).toNat) = [] := coll_sg (newF plainC) 0 _
   rw [hf] at e
   have e : f.sg = [] := e
   rw [e] at hc
   exact absurd hc (by show ¬ ((0:Int) ≥ 50); decide)
  have a3 : ¬ (sSt g > addI 0 (cH (collectF (newF plainC) 0).c) ∧ cD (collectF (newF plainC) 0).c = true) := by
   rintro ⟨_, c⟩; exact absurd c (by show ¬ false = true; decide)
  unfold fateF
  rw [if_neg a1, if_neg a2, if_neg a3]
 unfold enqF
 rw [if_neg (fun c => c h1), if_neg (fun c => c h2), if_pos hf]
theorem opens_tri (d o : Int) : Tri Tryz.prog N_canterlaw26_EgressOpens [.lf (.int .i64 d), .lf (.int .i64 o)] [.lf .bool] emp (fun r => pur (r = true) emp) :=
 tri_0 (call_canterlaw26_EgressOpens d o) fun w0 S R h => by
  unfold W_canterlaw26_EgressOpens
  have hud : U (IntKind.u64.wrap d) := U_wrap d
  have huo : U (IntKind.u64.wrap o) := U_wrap o
  unfold U at hud huo
  obtain ⟨s, hs⟩ : ∃ s, s = IntKind.i64.wrap ((IntKind.u64.wrap d).tmod 8) := ⟨_, rfl⟩
  have hs8 : 0 ≤ s ∧ s < 8 := by
   rw [hs, Int.tmod_eq_emod_of_nonneg hud.1, wi (by omega) (by omega)]; omega
  obtain ⟨n, hn⟩ : ∃ n, n = IntKind.i64.wrap (1 + IntKind.i64.wrap ((IntKind.u64.wrap o).tmod 20000)) := ⟨_, rfl⟩
  have hn2 : 1 ≤ n ∧ n ≤ 20000 := by
   rw [hn, Int.tmod_eq_emod_of_nonneg huo.1, wi (n := IntKind.u64.wrap o % 20000) (by omega) (by omega), wi (by omega) (by omega)]; omega
  rw [← hs, ← hn]
  obtain ⟨i, hi⟩ : ∃ i : Nat, s = (i : Int) := ⟨s.toNat, by omega⟩
  have hin : s.toNat = i := by omega
  have hi8 : i < 8 := by omega
  have o0 : OkMc 0 (newM plainC) := new_ok FqH.plain_ok
  refine w_call FqH.plain_tri (h.le (star_emp _)) fun r w h => ?_
  obtain ⟨hr, h⟩ := h.purP; rw [hr]
  refine w_call (EgE.new_tri plainC) h fun r w h => ?_
  obtain ⟨b, h⟩ := h.exP
  obtain ⟨hr, h⟩ := h.purP
  rw [if_pos FqH.plain_may] at hr h
  rw [hr]
  refine w_call awake_tri (h.le ((star_emp _).trans (star_comm _ _))) fun r w h => ?_
  obtain ⟨hr, h⟩ := h.purP; rw [hr]
  refine w_ite (fun c => (by cases c)) fun _ => ?_
  refine w_new h fun n4 w h => ?_
  have h := h.blkArr n4 KI [2, 3, 4, 7, 9] rfl (by simp)
  have h : Own w0 S R w (mach b (newM plainC) ^ arr ⟨some ⟨n4, 0⟩, 5, 5⟩ KI [2, 3, 4, 7, 9] ^ emp) := Own.fin (A := mach b (newM plainC) ^ arr ⟨some ⟨n4, 0⟩, 5, 5⟩ KI [2, 3, 4, 7, 9] ^ emp) (show Own w0 S R w (arr ⟨some ⟨n4, 0⟩, 5, 5⟩ KI [2, 3, 4, 7, 9] ^ _) from h)
  refine w_loop (fun _ : Int => mach b (newM plainC) ^ arr ⟨some ⟨n4, 0⟩, 5, 5⟩ KI [2, 3, 4, 7, 9] ^ emp) (fun y : Int => 0 ≤ y ∧ y ≤ 5) (fun y : Int => (5 - y).toNat) h (by decide) ?_
  rintro (y : Int) w hy h
  refine w_ite (fun c => ?_) fun c => ?_
  ·have c : y < ((5 : Nat) : Int) := of_decide_eq_true c
   obtain ⟨k, hk, hkk⟩ : ∃ k : Int, ([2, 3, 4, 7, 9] : List Int)[y.toNat]? = some k ∧ (k = 2 ∨ k = 3 ∨ k = 4 ∨ k = 7 ∨ k = 9) := by
    have : y = 0 ∨ y = 1 ∨ y = 2 ∨ y = 3 ∨ y = 4 := by omega
    rcases this with rfl | rfl | rfl | rfl | rfl
    ·exact ⟨2, rfl, .inl rfl⟩
    ·exact ⟨3, rfl, .inr (.inl rfl)⟩
    ·exact ⟨4, rfl, .inr (.inr (.inl rfl))⟩
    ·exact ⟨7, rfl, .inr (.inr (.inr (.inl rfl)))⟩
    ·exact ⟨9, rfl, .inr (.inr (.inr (.inr rfl)))⟩
   have w8 : IntKind.i64.wrap (8 + y) = 8 + y := wi (by omega) (by omega)
   have w1 : IntKind.i64.wrap (y + 1) = y + 1 := wi (by omega) (by omega)
   have q1 := (no_eq (newM plainC) (s := s) 5 hkk).2 hs8 rfl
   have q2 := (no_eq (newM plainC) (s := 8 + y) 5 hkk).1 (by omega)
   have q3 := (no_eq (newM plainC) (s := -1) 5 hkk).1 (by omega)
   have hlt : y.toNat < ([2, 3, 4, 7, 9] : List Int).length := (List.getElem?_eq_some_iff.1 hk).1
   refine w_idx (s := ⟨some ⟨n4, 0⟩, 5, 5⟩) h hy.1 hlt (w_ldE h ⟨some ⟨n4, 0⟩, 5, 5⟩ y.toNat (y := k) hk rfl ?_)
   refine w_do0 (d := dOne k s 5) h o0 (by decide) (dOne_ok k s 5 (by decide)) rfl fun r w hr h => ?_
   obtain ⟨r0, r1⟩ := r
   dsimp only at hr
   rw [q1] at hr h
   have h : Own w0 S R w (mach b (newM plainC) ^ arr ⟨some ⟨n4, 0⟩, 5, 5⟩ KI [2, 3, 4, 7, 9] ^ emp) := h.fin
   refine w_new h fun n10 w h => w_setAll h (by rfl) fun w h => ?_
   refine w_idx (s := ⟨some ⟨n4, 0⟩, 5, 5⟩) h hy.1 hlt (w_ldE h ⟨some ⟨n4, 0⟩, 5, 5⟩ y.toNat (y := k) hk rfl ?_)
   rw [w8]
   refine w_do0 (d := dOne k (8 + y) 5) h o0 (by decide) (dOne_ok k (8 + y) 5 (by decide)) rfl fun r w hr2 h => ?_
   obtain ⟨r2, r3⟩ := r
   dsimp only at hr2
   rw [q2] at hr2 h
   have h : Own w0 S R w (mach b (newM plainC) ^ arr ⟨some ⟨n4, 0⟩, 5, 5⟩ KI [2, 3, 4, 7, 9] ^ emp) := h.fin
   refine w_new h fun n14 w h => w_setAll h (by rfl) fun w h => ?_
   refine w_idx (s := ⟨some ⟨n4, 0⟩, 5, 5⟩) h hy.1 hlt (w_ldE h ⟨some ⟨n4, 0⟩, 5, 5⟩ y.toNat (y := k) hk rfl ?_)
   refine w_do0 (d := dOne k (-1) 5) h o0 (by decide) (dOne_ok k (-1) 5 (by decide)) rfl fun r w hr3 h => ?_
   obtain ⟨r4, r5⟩ := r
   dsimp only at hr3
   rw [q3] at hr3 h
   have h : Own w0 S R w (mach b (newM plainC) ^ arr ⟨some ⟨n4, 0⟩, 5, 5⟩ KI [2, 3, 4, 7, 9] ^ emp) := h.fin
   refine w_new h fun n18 w h => w_setAll h (by rfl) fun w h => ?_
   dsimp only
   rw [hr, hr2, hr3, w1]
   refine w_ite (fun c => (by cases c)) fun _ => ?_
   exact ⟨⟨⟨by omega, by omega⟩, h.fin⟩, by show (5 - (y + 1)).toNat < (5 - y).toNat; omega⟩
  ·have hop := open_eq (newM plainC) (s := s) hs8 rfl
   have o1 := do_ok o0 (by decide) (dOne_ok 1 s 0 (by decide)) []
   have k1 := do_bk o0 (by decide) (new_bk plainC) (by decide) (dOne 1 s 0) []
   have h : Own w0 S R w (mach b (newM plainC) ^ emp) := h.fin
   refine w_do0 (d := dOne 1 s 0) h o0 (by decide) (dOne_ok 1 s 0 (by decide)) rfl fun r w hr19 h => ?_
   obtain ⟨r19, e19⟩ := r
   obtain ⟨v1, hv1⟩ : ∃ v, v = (doF (newM plainC) (dOne 1 s 0) []).2 := ⟨_, rfl⟩
   rw [← hv1] at h o1 k1
   dsimp only at hr19
   rw [hop] at hr19 hv1
   have h : Own w0 S R w (mach b v1 ^ emp) := h.fin
   refine w_new h fun n20 w h => w_setAll h (by rfl) fun w h => ?_
   have x1 : v1.so s.toNat = some (newS s 1000 100000) := by rw [hv1]; exact EgM.upL_same _ _ _
   have hag := again_eq v1 hs8 x1
   refine w_do0 (d := dOne 1 s 0) h o1 (by decide) (dOne_ok 1 s 0 (by decide)) rfl fun r w hr21 h => ?_
   obtain ⟨r21, e21⟩ := r
   dsimp only at hr21
   rw [hag] at hr21 h
   have h : Own w0 S R w (mach b v1 ^ emp) := h.fin
   refine w_new h fun n22 w h => w_setAll h (by rfl) fun w h => ?_
   have g2 := first_goes s hn2
   have g1 := wrote_eq s hn2
   have hse := send_eq v1 hs8 x1 (n := n) (by rw [g1])
   have o2 := do_ok o1 (by decide) (dOne_ok 2 s n (by omega)) []
   have k2 := do_bk o1 (by decide) k1 (by decide) (dOne 2 s n) []
   rw [g1] at hse
   obtain ⟨x, hx⟩ : ∃ x, x = wrote s n := ⟨_, rfl⟩
   rw [← hx] at hse g2
   have told := EgF.told_ok (o1.so _ _ x1).1 (by decide) o1.un (dOne 2 s n) []
   have et : (toldF (newS s 1000 100000) v1.now (dOne 2 s n) []).2 = x := by show (writeS (newS s 1000 100000) n).2 = x; rw [g1, hx]
   rw [et] at told
   have hpm : OkPm (0 + 1 + 1) (i : Int) ⟨x, v1.q, v1.l, ou0⟩ := ⟨told.1, told.2.trans hi, o1.q⟩
   have hnow : v1.now = 0 := by rw [hv1]
   have hq0 : v1.q = newF plainC := by rw [hv1]
   have hl0 : v1.l = fun _ => ct0 := by rw [hv1]
   have hw := went_of hpm.v (now := v1.now) o1.un (by rw [hnow]; exact g2)
   have hpn := pumpN_sg hi8 (now := v1.now) o1.un (fresh x + 1) _ hpm
   obtain ⟨v2, hv2⟩ : ∃ v, v = (doF v1 (dOne 2 s n) []).2 := ⟨_, rfl⟩
   have hv2' : v2 = (pumpM v1 i x ou0).2 := by rw [hv2, hse, hin]
   have p1 : ∀ j, b5 (v2.l j) = 0 := fun j => by rw [hv2']; exact (hpn.1 j).trans (by rw [hl0])
   have p2 : ∀ j, j ≠ i → sgO (v2.q.fl j) = [] := fun j hj => by rw [hv2']; exact (hpn.2.1 j hj).trans (by rw [hq0]; rfl)
   have p3 : 1 ≤ (sgO (v2.q.fl i)).length := by
    rw [hv2']
    have := hpn.2.2.2 (by omega) (by rw [hnow]; exact g2) (by
     rw [hq0, hnow]
     rw [hnow] at hw
     refine first_in ?_ hw.n ?_
     ·have e := hw.id
      have e2 : x.id = (i : Int) := hpm.id
      have e3 : sK (emitS x 0).1.1 = (i : Int) := e.trans e2
      show 0 ≤ sK (emitS x 0).1.1 ∧ sK (emitS x 0).1.1 ≤ 7
      omega
     ·have e := hw.st
      have e2 : x.nx = 0 := by rw [hx]; rfl
      have e3 : sSt (emitS x 0).1.1 = if x.nx > 0 then x.nx else 0 := e
      rw [e3, e2]; rfl)
    exact Nat.le_trans (by omega) this
   rw [← hv2] at o2 k2
   refine w_do0 (d := dOne 2 s n) h o1 (by decide) (dOne_ok 2 s n (by omega)) rfl fun r w _ h => ?_
   rw [← hv2] at h
   have h : Own w0 S R w (mach b v2 ^ emp) := h.fin
   refine w_call (queued_tri b v2) h fun r w h => ?_
   obtain ⟨hr, h⟩ := h.purP; rw [hr]
   have t2 : v2.q.n = ((sgO (v2.q.fl i)).length : Int) := by rw [o2.q.n]; exact tot_one _ hi8 p2
   obtain ⟨x2, hx2⟩ : ∃ x, v2.so s.toNat = some x := by rw [hv2', hin]; exact ⟨_, EgM.upL_same _ _ _⟩
   have hsh := shut_eq v2 hs8 hx2 0
   have o3 := do_ok o2 (by decide) (dOne_ok 9 s 0 (by decide)) []
   have sb := shut_bk o2 k2 (by decide) hi8 ou0
   have c1 := (close_sg v2.q i hi8).1
   have c2 := (close_sg v2.q i hi8).2
   have dl := (drops_len v2.l ou0 (closeF v2.q (i : Int)).1).1
   refine w_do0 (d := dOne 9 s 0) h o2 (by decide) (dOne_ok 9 s 0 (by decide)) rfl fun r w hr25 h => ?_
   obtain ⟨⟨t1, t2', t3, t4⟩, e25⟩ := r
   dsimp only at hr25 h
   obtain ⟨v3, hv3⟩ : ∃ v, v = (doF v2 (dOne 9 s 0) []).2 := ⟨_, rfl⟩
   rw [← hv3] at h o3
   rw [hsh] at hr25 h hv3
   rw [hin] at h hv3
   have hv3 : v3 = (shutM v2 i ou0).2 := hv3
   obtain ⟨_, h⟩ := h.outR (t1, t2', t3, t4)
   dsimp only at h
   have ht2 := (h.rd (s := t2')).2
   have ht2 : t2'.len = (sgO (v2.q.fl i)).length := by
    rw [ht2, ← c1]
    show (dropsF v2.l ou0 (closeF v2.q (i : Int)).1).1.dr.length = _
    rw [dl]
    show 0 + _ = _
    omega
   have h : Own w0 S R w (mach b v3 ^ emp) := h.fin
   refine w_new h fun n26 w h => w_setTo h n26 (Ks.mk KOu (t1, t2', t3, t4)) rfl rfl rfl fun w h => ?_
   have z3 : openS v3 s = none := by
    unfold openS
    rw [if_pos hs8, hv3, hin]
    exact EgM.upL_same _ _ _
   refine w_call (state_tri b _ v3 o3 s) h fun r w h => ?_
   obtain ⟨hr, h⟩ := h.purP; rw [hr, z3]
   refine w_new h fun n28 w h => w_setAll h (by rfl) fun w h => ?_
   have w10 : IntKind.i64.wrap (10 + s) = 10 + s := wi (by omega) (by omega)
   rw [w10]
   have hod := odd_eq v3 (k := 10 + s) (by omega) 0 0
   refine w_do0 (d := dOne (10 + s) 0 0) h o3 (by decide) (dOne_ok (10 + s) 0 0 (by decide)) rfl fun r w hr29 h => ?_
   obtain ⟨r29, e29⟩ := r
   dsimp only at hr29
   rw [hod] at hr29 h
   have h : Own w0 S R w (blk n26 (Ks.mk KOu (t1, t2', t3, t4)) ^ mach b v3 ^ emp) := h.fin
   refine w_new h fun n30 w h => w_setAll h (by rfl) fun w h => ?_
   dsimp only
   rw [hr19, hr21, hr25, hr29, t2]
   refine w_ite (fun _ => ?_) fun c => ?_
   ·refine w_ld (x := t2') h rfl (w_ite (fun _ => ?_) fun c => (by rw [ht2] at c; simp at c))
    refine w_call (queued_tri b v3) h fun r w h => ?_
    obtain ⟨hr, h⟩ := h.purP; rw [hr]
    have t3' : v3.q.n = 0 := by
     rw [o3.q.n, tot_one _ hi8 (fun j hj => by rw [hv3]; exact (c2 j).trans (by rw [if_neg hj]; exact p2 j hj))]
     rw [hv3]
     show ((sgO ((closeF v2.q (i : Int)).2.fl i)).length : Int) = 0
     rw [c2, if_pos rfl]; rfl
    rw [t3']
    refine w_ite (fun _ => ?_) fun c => (by cases c)
    refine w_call (mcount_tri b v3 s) h fun r w h => ?_
    obtain ⟨hr, h⟩ := h.purP; rw [hr]
    refine Own.retP ?_ h.emp'
    have hb5 : b5 (countL v3.l s) = ((sgO (v2.q.fl i)).length : Int) := by
     have e : countL v3.l s = (s, (v3.l i).2) := by unfold countL; rw [if_neg (by omega), hin]
     rw [e]
     show b5 (v3.l i) = _
     rw [hv3, sb.2, p1, c1]; omega
    show (b5 (countL v3.l s) == _ && _) = true
    rw [hb5]; simp
   ·exfalso
    rw [show decide (((sgO (v2.q.fl i)).length : Int) > 0) = true from decide_eq_true (by omega)] at c
    cases c
end EgO

end Go.X
