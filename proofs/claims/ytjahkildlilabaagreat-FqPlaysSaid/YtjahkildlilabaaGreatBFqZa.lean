/- Contracts and plain facts: FqZ FqZa. -/
import Derived.Test.YtjahkildlilabaaGreatBArith
import Derived.Test.YtjahkildlilabaaGreatBInts
import Derived.Test.YtjahkildlilabaaGreatBListsO
import Derived.Test.YtjahkildlilabaaGreatBTreeN
import Derived.Test.YtjahkildlilabaaGreatBTreeB
import Derived.Test.YtjahkildlilabaaGreatBTreeD
import Derived.Test.YtjahkildlilabaaGreatBTreeF
import Derived.Test.YtjahkildlilabaaGreatBFqC
import Derived.Test.YtjahkildlilabaaGreatBFqE
import Derived.Test.YtjahkildlilabaaGreatBFqH
import Derived.Test.YtjahkildlilabaaGreatBFqK
import Derived.Test.YtjahkildlilabaaGreatBFqQ
import Derived.Test.YtjahkildlilabaaGreatBFqW
import Derived.Test.YtjahkildlilabaaGreatBFqY
import Derived.Test.YtjahkildlilabaaGreatXw
import Derived.Test.YtjahkildlilabaaGreatK
import Derived.Test.YtjahkildlilabaaGreatF0
import Derived.Test.YtjahkildlilabaaGreatF1
set_option linter.unusedVariables false
set_option linter.unusedSimpArgs false
set_option linter.unusedSectionVars false
namespace Go.X
open Go.Proofs
namespace FqZ
open Arith ArithC Lists ListsO _root_.Go.X.Tree TreeC TreeD TreeE TreeF FqM FqC FqD FqE FqG FqH FqI FqK FqN FqQ FqR FqW FqX FqY
theorem rq_new {u u' : Qm} {r : Nat → RF} {t : Nat → Bool} (h : Rq u r t) {i : Nat} {f' : Fl} (hf' : u'.fl i = some f') (hfl : ∀ j, j ≠ i → u'.fl j = u.fl j) (hpl : ∀ j, j ≠ i → plc u' j = plc u j) (x : RF) (hx : x = ((i : Int), f'.cr, plc u' i, f'.nx, f'.si, slR x)) : Rq u' (upR r i x) (upT t i true) := ⟨fun q hq8 => by
    by_cases e : q = i
    · rw [e, hf', upT_same]; rfl
    · rw [hfl q e, upT_ne _ _ e]; exact h.t q hq8, fun q hq8 => by
    by_cases e : q = i
    · rw [e, upR_same]
      unfold rowF
      rw [hf']
      exact hx
    · rw [upR_ne _ _ e]
      have := h.r q hq8
      unfold rowF at this ⊢
      rw [hfl q e, hpl q e]
      exact this⟩
theorem upR_id {r : Nat → RF} {i : Nat} {x : RF} (h : r i = x) : upR r i x = r := by
  funext j
  by_cases e : j = i
  · rw [e, upR_same, h]
  · exact upR_ne _ _ e
theorem upT_id {t : Nat → Bool} {i : Nat} {x : Bool} (h : t i = x) : upT t i x = t := by
  funext j
  by_cases e : j = i
  · rw [e, upT_same, h]
  · exact upT_ne _ _ e
theorem upR_up (r : Nat → RF) (i : Nat) (x y : RF) : upR (upR r i x) i y = upR r i y := by
  funext j
  by_cases e : j = i
  · rw [e, upR_same, upR_same]
  · rw [upR_ne _ _ e, upR_ne _ _ e, upR_ne _ _ e]
/-- What comes behind the segment's place. -/
def enqTail (b i n1 : Nat) (sx : Sl) (R : Rs.T [.lf (.int .i64), .lf (.int .i64)] → WP) : WP :=
  deref (some ⟨b, 0 + 9 + i * 6⟩) fun q58 =>
  st ⟨q58.b, q58.o + 5⟩ [.sl sx] <|
  deref (some ⟨b, 0 + 9 + i * 6⟩) fun q59 =>
  ld [.int .i64] ⟨q59.b, q59.o + 2⟩ fun (x60 : Int) =>
  ite' (x60 == (0:Int)) (
  deref (some ⟨b, 0 + 9 + i * 6⟩) fun q61 =>
  st ⟨q61.b, q61.o + 2⟩ [.int .i64 (1:Int)] <|
  deref (some ⟨b, 0 + 9 + i * 6⟩) fun q62 =>
  st ⟨q62.b, q62.o + 4⟩ [.int .u64 (0:Int)] <|
  drw <|
  deref (some ⟨b, 0⟩) fun q63 =>
  ld [.int .i64] ⟨n1, 0⟩ fun (x64 : Int) =>
  call Tryz.prog N_canterref04_Lists_Push [.lf (.ptr (some ⟨q63.b, q63.o + 65⟩)), .lf (.int .i64 x64), .lf (.bool true)] [.lf (.int .i64)] fun (_ : Int) =>
  R ((0:Int), (0:Int))) <|
  R ((0:Int), (0:Int))
theorem plc_1 {lv : LV} {i : Int} : placeF (lv.1 ++ [i], lv.2) i = 1 := by unfold placeF; simp
theorem place_app1 (lv : LV) {i j : Int} (h : j ≠ i) : placeF (lv.1 ++ [i], lv.2) j = placeF lv j := by unfold placeF; simp [h]
theorem w_tail {w0 w : World} {S0 R0 : Nat → Prop} {G : SP} {R : Rs.T [.lf (.int .i64), .lf (.int .i64)] → WP} {b n1 : Nat} {u : Qm} (hu : OkQ u) {i : Nat} (hi8 : i < 8) {now : Int} {r : Nat → RF} {t : Nat → Bool} (hq : Rq u r t) {sx s1 s2 : Sl} {x : RF} {g : Fl} {sd : Sg} (hsd : sK sd = (i : Int))
    (hx : x = ((i : Int), g.cr, plc u i, g.nx, g.si, slR x)) (hg : (if plc u i = 0 then { g with si := 0 } else g) = woken u i now)
    (h : Own w0 S0 R0 w (blk n1 (Ks.mk KS sd) ^ blk b (rqP u.c (upR r i x) (upT t i true) ++ [.sl s1, .sl s2]) ^ arr s1 KI u.lv.1 ^ arr s2 KI u.lv.2 ^ arr sx KS (g.sg ++ [sd]) ^ bigS (but (sgP r (sgs u)) i) 8 ^ G))
    (k : ∀ w', Own w0 S0 R0 w' (rque b (addS (wakeF u i now) i sd) ^ G) → R (0, 0) w') : enqTail b i n1 sx R w := by
  unfold enqTail
  have hl := hu.lv.few
  have hwg : (woken u i now).sg = g.sg := by rw [← hg]; split <;> rfl
  have e2 : ∀ y : Sl, (upR r i x i).1 = (i : Int) := fun _ => by rw [upR_same, hx]
  have hX : ∀ y : RF, upR (upR r i x) i y = upR r i y := fun y => upR_up r i x y
  refine w_deref ?_
  refine w_setTo h b (rqP u.c (upR r i (x.1, x.2.1, x.2.2.1, x.2.2.2.1, x.2.2.2.2.1, sx)) (upT t i true) ++ [.sl s1, .sl s2]) rfl (Nat.ble_eq_true_of_le (by show 0 + 9 + i * 6 + 5 + 1 ≤ 67; omega)) (by rw [rq_up5 u.c (upR r i x) (upT t i true) s1 s2 hi8 sx, hX, upR_same]) fun w h => ?_
  obtain ⟨x2, hx2⟩ : ∃ x2 : RF, x2 = ((i : Int), g.cr, plc u i, g.nx, g.si, sx) := ⟨_, rfl⟩
  rw [show (x.1, x.2.1, x.2.2.1, x.2.2.2.1, x.2.2.2.2.1, sx) = x2 by rw [hx2, hx]] at h
  refine w_deref (w_ld h (rq_at2 u.c (upR r i x2) (upT t i true) s1 s2 hi8) ?_)
  have e3 : (upR r i x2 i).2.2.1 = plc u i := by rw [upR_same, hx2]
  rw [e3]
  refine w_ite (fun c => ?_) fun c => ?_
  · have hp : plc u i = 0 := by simpa using c
    have hni := (plc_0.1 hp).1
    rw [if_pos hp] at hg
    refine w_deref (w_setTo h b (rqP u.c (upR r i ((i : Int), g.cr, 1, g.nx, g.si, sx)) (upT t i true) ++ [.sl s1, .sl s2]) rfl (Nat.ble_eq_true_of_le (by show 0 + 9 + i * 6 + 2 + 1 ≤ 67; omega)) (by rw [rq_up2 u.c (upR r i x2) (upT t i true) s1 s2 hi8 1, upR_up, upR_same, hx2]) fun w h => ?_)
    refine w_deref (w_setTo h b (rqP u.c (upR r i ((i : Int), g.cr, 1, g.nx, 0, sx)) (upT t i true) ++ [.sl s1, .sl s2]) rfl (Nat.ble_eq_true_of_le (by show 0 + 9 + i * 6 + 4 + 1 ≤ 67; omega)) (by rw [rq_up4 u.c (upR r i ((i : Int), g.cr, 1, g.nx, g.si, sx)) (upT t i true) s1 s2 hi8 0, upR_up, upR_same]) fun w h => ?_)
    have h := h.mkLso b (rqP u.c (upR r i ((i : Int), g.cr, 1, g.nx, 0, sx)) (upT t i true)) s1 s2 u.lv
    refine w_drw h fun w h => w_deref (w_ld (x := (i : Int)) h (by rw [← hsd]; rfl) ?_)
    refine w_call (o_push_tri b (rqP u.c (upR r i ((i : Int), g.cr, 1, g.nx, 0, sx)) (upT t i true)) (0 + 65) rfl u.lv (i : Int) true (by omega)) h fun _ w h => ?_
    obtain ⟨_, h⟩ := h.purP
    have hw : wakeL u i = (u.lv.1 ++ [(i : Int)], u.lv.2) := by
      unfold wakeL
      rw [if_neg (by rw [hp]; simp), pushed hi8 hni]
    rw [pushed hi8 hni] at h
    have hpi : plc (addS (wakeF u i now) i sd) i = 1 := by
      rw [FqM.add_eq]
      unfold plc
      show (if placeF (wakeL u i) (i : Int) ≠ 0 then placeF (wakeL u i) (i : Int) else _) = _
      rw [hw, plc_1]; rfl
    have hq2 := rq_new (u' := addS (wakeF u i now) i sd) hq (by rw [FqM.add_eq]; exact upF_same _ _ _) (fun j e => by rw [FqM.add_eq]; exact upF_ne _ _ e) (fun j e => by
      rw [FqM.add_eq]
      exact plc_other (upF_ne _ _ e) (by show placeF (wakeL u i) _ = _; rw [hw]; exact place_app1 u.lv (by omega))) ((i : Int), g.cr, 1, g.nx, 0, sx) (by rw [hpi, ← hg])
    have hs2 : sgs (addS (wakeF u i now) i sd) i = g.sg ++ [sd] := by
      unfold sgs
      rw [FqM.add_eq, hwg]
      rw [show ({ u with fl := upF u.fl i (some { woken u i now with sg := g.sg ++ [sd] }), lv := wakeL u i, n := u.n + 1 } : Qm).fl i = _ from upF_same _ _ _]
    have h := h.sgI r (upR r i ((i : Int), g.cr, 1, g.nx, 0, sx)) (sgs u) (sgs (addS (wakeF u i now) i sd)) hi8 (fun j e => upR_ne _ _ e) (fun j e => by rw [FqM.add_eq]; exact sgs_up u i _ _ _ _ e) (tk := by rw [hs2, upR_same]; infer_instance)
    have hcl : (addS (wakeF u i now) i sd).c = u.c ∧ (addS (wakeF u i now) i sd).lv = (u.lv.1 ++ [(i : Int)], u.lv.2) := by rw [FqM.add_eq]; exact ⟨rfl, hw⟩
    refine k w ?_
    rw [← hcl.1, ← hcl.2] at h
    exact (h.mkRque b (addS (wakeF u i now) i sd) _ _ hq2).fin
  · have hp : plc u i ≠ 0 := by simpa using c
    rw [if_neg hp] at hg
    have h := h.mkLso b (rqP u.c (upR r i x2) (upT t i true)) s1 s2 u.lv
    have hw : wakeL u i = u.lv := by unfold wakeL; rw [if_pos hp]
    have hpi : plc (addS (wakeF u i now) i sd) i = plc u i := by
      rw [FqM.add_eq]
      unfold plc
      show (if placeF (wakeL u i) (i : Int) ≠ 0 then placeF (wakeL u i) (i : Int) else match upF u.fl i (some { woken u i now with sg := (woken u i now).sg ++ [sd] }) i with | none => 0 | some f => if f.sg = [] then 0 else 3) = if placeF u.lv (i : Int) ≠ 0 then placeF u.lv (i : Int) else match u.fl i with | none => 0 | some f => if f.sg = [] then 0 else 3
      rw [hw, upF_same]
      by_cases hpl : placeF u.lv (i : Int) ≠ 0
      · rw [if_pos hpl, if_pos hpl]
      · rw [if_neg hpl, if_neg hpl]
        have hp2 : plc u i = match u.fl i with | none => 0 | some f => if f.sg = [] then 0 else 3 := by
          unfold plc
          rw [if_neg hpl]
          rfl
        simp only
        rw [if_neg (by simp)]
        cases hf : u.fl i with
        | none => rw [hf] at hp2; exact absurd hp2 hp
        | some f =>
          rw [hf] at hp2
          simp only at hp2 ⊢
          split at hp2
          · exact absurd hp2 hp
          · rename_i hne; rw [if_neg hne]
    have hq2 := rq_new (u' := addS (wakeF u i now) i sd) hq (by rw [FqM.add_eq]; exact upF_same _ _ _) (fun j e => by rw [FqM.add_eq]; exact upF_ne _ _ e) (fun j e => by
      rw [FqM.add_eq]
      exact plc_other (upF_ne _ _ e) (by show placeF (wakeL u i) _ = _; rw [hw])) x2 (by rw [hpi, ← hg]; exact hx2.trans (by rw [hx2]))
    have hs2 : sgs (addS (wakeF u i now) i sd) i = g.sg ++ [sd] := by
      unfold sgs
      rw [FqM.add_eq, hwg]
      rw [show ({ u with fl := upF u.fl i (some { woken u i now with sg := g.sg ++ [sd] }), lv := wakeL u i, n := u.n + 1 } : Qm).fl i = _ from upF_same _ _ _]
    have hsl : slR (upR r i x2 i) = sx := by rw [upR_same, hx2]
    have h := h.sgI r (upR r i x2) (sgs u) (sgs (addS (wakeF u i now) i sd)) hi8 (fun j e => upR_ne _ _ e) (fun j e => by rw [FqM.add_eq]; exact sgs_up u i _ _ _ _ e) (tk := by rw [hs2, hsl]; infer_instance)
    have hcl : (addS (wakeF u i now) i sd).c = u.c ∧ (addS (wakeF u i now) i sd).lv = u.lv := by rw [FqM.add_eq]; exact ⟨rfl, hw⟩
    refine k w ?_
    rw [← hcl.1, ← hcl.2] at h
    exact (h.mkRque b (addS (wakeF u i now) i sd) _ _ hq2).fin
end FqZ

namespace FqZa
open Arith ArithC Lists ListsO _root_.Go.X.Tree TreeC TreeD TreeE TreeF FqM FqC FqD FqE FqG FqH FqI FqK FqN FqQ FqR FqW FqX FqY FqZ
theorem renq_tri (b : Nat) (v : Qm) (hv : OkQ v) (s : Sg) (now : Int) (hs : U (sFr s) ∧ U (sSt s)) (hn : U now) : Tri Tryz.prog N_canterref20_Queue_Enqueue [.lf (.ptr (some ⟨b, 0⟩)), .agg (Ks.mk KS s), .lf (.int .u64 now)] [.lf (.int .i64), .lf (.int .i64)] (rque b v) (fun r => pur (r = (enqF v s now).1) (rque b (enqF v s now).2)) :=
  tri_0 (call_canterref20_Queue_Enqueue (some ⟨b, 0⟩) s now) fun w0 S R h => by
    unfold W_canterref20_Queue_Enqueue
    refine w_new h fun n1 w h => ?_
    have h : Own w0 S R w (blk n1 (Ks.mk KS s) ^ rque b v) := h
    refine w_join h (fun _ => blk n1 (Ks.mk KS s) ^ rque b v) (fun _ => 0 ≤ sK s ∧ sK s ≤ 7) (fun _ w hk h => ?_) ?_
    rotate_left
    · have bad : ∀ {w : World}, ¬ (0 ≤ sK s ∧ sK s ≤ 7) → Own w0 S R w (blk n1 (Ks.mk KS s) ^ rque b v) → Own w0 S R w (pur (((0 : Int), (8 : Int)) = (enqF v s now).1) (rque b (enqF v s now).2)) := fun {w} c h => by
        have e : enqF v s now = ((0, 8), v) := by unfold enqF; rw [if_pos c]
        rw [e]
        exact Own.retP rfl h.fin
      refine w_ld h rfl (w_ite (fun c => ?_) fun c => ?_)
      · have c : sK s < 0 := of_decide_eq_true c
        exact bad (by omega) h
      · have c : ¬ sK s < 0 := of_decide_eq_false c
        refine w_ld h rfl (w_ite (fun c2 => ?_) fun c2 => ?_)
        · have c2 : sK s ≥ 8 := of_decide_eq_true c2
          exact bad (by omega) h
        · have c2 : ¬ sK s ≥ 8 := of_decide_eq_false c2
          exact ⟨by omega, h⟩
    refine w_join h (fun _ => blk n1 (Ks.mk KS s) ^ rque b v) (fun _ => 1 ≤ sLn s ∧ sLn s ≤ 65536) (fun _ w hln h => ?_) ?_
    rotate_left
    · have bad : ∀ {w : World}, ¬ (1 ≤ sLn s ∧ sLn s ≤ 65536) → Own w0 S R w (blk n1 (Ks.mk KS s) ^ rque b v) → Own w0 S R w (pur (((0 : Int), (1 : Int)) = (enqF v s now).1) (rque b (enqF v s now).2)) := fun {w} c h => by
        have e : enqF v s now = ((0, 1), v) := by unfold enqF; rw [if_neg (fun x => x hk), if_pos c]
        rw [e]
        exact Own.retP rfl h.fin
      refine w_ld h rfl (w_ite (fun c => ?_) fun c => ?_)
      · have c : sLn s < 1 := of_decide_eq_true c
        exact bad (by omega) h
      · have c : ¬ sLn s < 1 := of_decide_eq_false c
        refine w_ld h rfl (w_ite (fun c2 => ?_) fun c2 => ?_)
        · have c2 : sLn s > 65536 := of_decide_eq_true c2
          exact bad (by omega) h
        · have c2 : ¬ sLn s > 65536 := of_decide_eq_false c2
          exact ⟨by omega, h⟩
    refine w_call (rcollect_tri b v hv now) h fun _ w h => ?_
    obtain ⟨u, hue⟩ : ∃ u, u = collectF v now := ⟨_, rfl⟩
    have hu : OkQ u := by rw [hue]; exact hv.collect now
    have huc : u.c = v.c := by rw [hue]
    rw [← hue] at h
    have hen : enqF v s now = if fateF u s now = 0 then ((0, 0), addS (wakeF u (sK s).toNat now) (sK s).toNat (drawn v s now)) else ((fateF u s now, 0), u) := by
      unfold enqF
      rw [if_neg (fun x => x hk), if_neg (fun x => x hln), hue]
    obtain ⟨i, hi⟩ : ∃ i : Nat, sK s = (i : Int) := ⟨(sK s).toNat, by omega⟩
    have hi8 : i < 8 := by omega
    have hit : (sK s).toNat = i := by rw [hi, Int.toNat_natCast]
    rw [hit] at hen
    have hs1 : s.1 = (i : Int) := hi
    have hH : U (cH u.c) := by have := hu.cf.h; unfold U; omega
    refine w_drw h fun w h => w_ld (x := (i : Int)) h (by rw [← hs1]; rfl) (w_deref ⟨by omega, w_deref ?_⟩)
    rw [Int.toNat_natCast]
    obtain ⟨r, t, hq, h⟩ := h.rque b u
    obtain ⟨s1, s2, h⟩ := h.lso b (rqP u.c r t) u.lv
    refine w_ld h rfl (w_call (radd_tri now (cH u.c) hn hH) h fun x w h => ?_)
    obtain ⟨hx, h⟩ := h.purP; rw [hx]
    have h := h.mkLso b (rqP u.c r t) s1 s2 u.lv
    have h : Own w0 S R w (blk n1 (Ks.mk KS s) ^ lso b (rqP u.c r t) u.lv ^ bigS (sgP r (sgs u)) 8) := h.fin
    refine w_join h (fun _ => blk n1 (Ks.mk KS s) ^ lso b (rqP u.c r t) u.lv ^ bigS (sgP r (sgs u)) 8) (fun _ => fateF u s now = 0) (fun _ w hf0 h => ?_) ?_
    rotate_left
    · have out : ∀ {w : World} (x : Int), x ≠ 0 → fateF u s now = x → Own w0 S R w (blk n1 (Ks.mk KS s) ^ lso b (rqP u.c r t) u.lv ^ bigS (sgP r (sgs u)) 8 ^ emp) → Own w0 S R w (pur ((x, (0 : Int)) = (enqF v s now).1) (rque b (enqF v s now).2)) := fun {w} x hx hfx h => by
        rw [hen, if_neg (by rw [hfx]; exact hx), hfx]
        exact Own.retP rfl (h.mkRque b u r t hq).fin
      obtain ⟨s1, s2, h⟩ := h.lso b (rqP u.c r t) u.lv
      refine w_drw h fun w h => w_deref (w_ld h rfl ?_)
      have h := h.mkLso b (rqP u.c r t) s1 s2 u.lv
      refine w_call (rlen_tri b u hu r t hq) h fun x w h => ?_
      obtain ⟨hx, h⟩ := h.purP; rw [hx]
      obtain ⟨s1, s2, h⟩ := h.lso b (rqP u.c r t) u.lv
      refine w_chk h rfl (w_ite (fun c => ?_) fun c1 => ?_)
      · have c : u.n ≥ cL u.c := of_decide_eq_true c
        exact out 2 (by decide) (by unfold fateF; rw [if_pos c]) (h.mkLso b (rqP u.c r t) s1 s2 u.lv).fin
      have c1 : ¬ u.n ≥ cL u.c := of_decide_eq_false c1
      refine w_drw h fun w h => w_deref (w_deref (w_ld h (rq_at5 u.c r t s1 s2 hi8) (w_ld h rfl ?_)))
      have hsl : (slR (r i)).len = (sgs u i).length := by
        have h := h.sgO r (sgs u) hi8
        exact (h.rd (s := slR (r i))).2
      have hw := hu.cf.w
      have hex : (((slR (r i)).len : Nat) : Int) ≥ cW u.c ↔ ∃ f, u.fl (sK s).toNat = some f ∧ (f.sg.length : Int) ≥ cW u.c := by
        rw [hit, hsl]
        unfold sgs
        cases hf : u.fl i with
        | none => exact ⟨fun x => (by simp only [List.length_nil] at x; omega), fun ⟨_, e, _⟩ => (by cases e)⟩
        | some f => exact ⟨fun x => ⟨f, rfl, x⟩, fun ⟨g, e, x⟩ => (by cases e; exact x)⟩
      refine w_ite (fun c => ?_) fun c2 => ?_
      · have c : (((slR (r i)).len : Nat) : Int) ≥ cW u.c := of_decide_eq_true c
        exact out 3 (by decide) (by unfold fateF; rw [if_neg c1, if_pos (hex.1 c)]) (h.mkLso b (rqP u.c r t) s1 s2 u.lv).fin
      have c2 : ¬ (((slR (r i)).len : Nat) : Int) ≥ cW u.c := of_decide_eq_false c2
      have c2 := fun x => c2 (hex.2 x)
      refine w_ld h rfl (w_ite (fun c => ?_) fun c3 => ?_)
      · have c : sSt s > addI now (cH u.c) := of_decide_eq_true c
        refine w_deref (w_ld h rfl (w_ite (fun c4 => ?_) fun c4 => ?_))
        · exact out 4 (by decide) (by unfold fateF; rw [if_neg c1, if_neg c2, if_pos ⟨c, c4⟩]) (h.mkLso b (rqP u.c r t) s1 s2 u.lv).fin
        · exact ⟨by unfold fateF; rw [if_neg c1, if_neg c2, if_neg (fun x => by rw [c4] at x; cases x.2)], (h.mkLso b (rqP u.c r t) s1 s2 u.lv).fin⟩
      · have c3 : ¬ sSt s > addI now (cH u.c) := of_decide_eq_false c3
        exact ⟨by unfold fateF; rw [if_neg c1, if_neg c2, if_neg (fun x => c3 x.1)], (h.mkLso b (rqP u.c r t) s1 s2 u.lv).fin⟩
    obtain ⟨sd, hsd⟩ : ∃ sd, sd = drawn v s now := ⟨_, rfl⟩
    have hsdk : sK sd = (i : Int) := by rw [hsd]; exact hi
    rw [hen, if_pos hf0, ← hsd]
    refine w_ld h rfl (w_setTo h n1 (Ks.mk KS sd) rfl rfl (by rw [hsd, show drawn v s now = (sK s, sFr s, sLn s, (if addI now (cH u.c) < sSt s then addI now (cH u.c) else sSt s), sAg s) by rw [huc]; rfl]; rfl) fun w h => ?_)
    refine w_join h (fun _ => exq (fun x : RF × Fl => x.1 = ((i : Int), x.2.cr, plc u i, x.2.nx, x.2.si, slR x.1) ∧ (if plc u i = 0 then { x.2 with si := 0 } else x.2) = woken u i now) (fun x => blk n1 (Ks.mk KS sd) ^ lso b (rqP u.c (upR r i x.1) (upT t i true)) u.lv ^ arr (slR x.1) KS x.2.sg ^ bigS (but (sgP r (sgs u)) i) 8)) (fun _ => True) (fun _ w _ h => ?_) ?_
    · obtain ⟨⟨x, g⟩, ⟨hx1, hg⟩, h⟩ := h.outq1
      dsimp only at hx1 hg h
      have hgl : g.sg.length ≤ 512 := by
        have : (woken u i now).sg = g.sg := by rw [← hg]; split <;> rfl
        rw [← this, woken_sg]
        cases hf : u.fl i with
        | none => simp
        | some f => exact (hu.len hf).2
      obtain ⟨s1, s2, h⟩ := h.lso b (rqP u.c (upR r i x) (upT t i true)) u.lv
      have esl : (upR r i x i).2.2.2.2.2 = slR x := by rw [upR_same]
      refine w_drw h fun w h => w_ldAll (b := n1) (x := sd) h rfl (w_deref (w_ld h (rq_at5 u.c (upR r i x) (upT t i true) s1 s2 hi8) ?_))
      rw [esl]
      have hck := rq_chk5 u.c (upR r i x) (upT t i true) s1 s2 hi8
      rw [esl] at hck
      refine ⟨?_, ?_⟩
      · have h := h.nil KS
        refine w_app (K := KS) (s := ⟨none, 0, 0⟩) (x := slR x) (xs := []) (ys := g.sg) h rfl (by simp only [List.length_nil]; omega) fun s55 w _ h => ?_
        have h := h.arrEq (s := s55) (K := KS) (ys := g.sg) rfl
        refine w_chkAll (b := n1) h (w_new h fun n56 w h => ?_)
        refine w_chk h hck ?_
        have h := h.blkArr n56 KS [sd] rfl (by simp)
        refine w_app (s := s55) (x := ⟨some ⟨n56, 0⟩, 1, 1⟩) (ys := [sd]) h rfl (by simp only [List.length_singleton]; omega) fun s57 w _ h => ?_
        show enqTail b i n1 s57 (fun x w' => Own w0 S R w' (pur (x = ((((0 : Int), (0 : Int)), addS (wakeF u i now) i sd) : (Int × Int) × Qm).1) (rque b ((((0 : Int), (0 : Int)), addS (wakeF u i now) i sd) : (Int × Int) × Qm).2))) w
        exact w_tail (G := emp) (sx := s57) (s1 := s1) (s2 := s2) (x := x) (g := g) hu hi8 hq hsdk hx1 hg h.fin fun w h => Own.retP rfl h.keep
      · refine w_new h fun n66 w h => ?_
        refine w_chk h hck ?_
        have h := h.nil KS
        refine w_app (K := KS) (s := ⟨none, 0, 0⟩) (x := slR x) (xs := []) (ys := g.sg) h rfl (by simp only [List.length_nil]; omega) fun s67 w _ h => ?_
        have h := h.arrEq (s := s67) (K := KS) (ys := g.sg) rfl
        refine w_chkAll (b := n1) h ?_
        have h := h.blkArr n66 KS [sd] rfl (by simp)
        refine w_app (s := s67) (x := ⟨some ⟨n66, 0⟩, 1, 1⟩) (ys := [sd]) h rfl (by simp only [List.length_singleton]; omega) fun s68 w _ h => ?_
        show enqTail b i n1 s68 (fun x w' => Own w0 S R w' (pur (x = ((((0 : Int), (0 : Int)), addS (wakeF u i now) i sd) : (Int × Int) × Qm).1) (rque b ((((0 : Int), (0 : Int)), addS (wakeF u i now) i sd) : (Int × Int) × Qm).2))) w
        exact w_tail (G := emp) (sx := s68) (s1 := s1) (s2 := s2) (x := x) (g := g) hu hi8 hq hsdk hx1 hg h.fin fun w h => Own.retP rfl h.keep
    · have hsd1 : sd.1 = (i : Int) := hsdk
      have ldk : ∀ {w : World}, Ks.un [.int .i64] (((Ks.mk KS sd).drop (⟨n1, 0⟩ : Pt).o).take 1) = some (i : Int) := fun {w} => by rw [← hsd1]; rfl
      obtain ⟨s1, s2, h⟩ := h.lso b (rqP u.c r t) u.lv
      refine w_drw h fun w h => w_ld (x := (i : Int)) h (by rw [← hsd1]; rfl) (w_deref ⟨by omega, ?_⟩)
      rw [Int.toNat_natCast]
      refine w_ld h (rq_th u.c r t s1 s2 hi8) ?_
      cases hf : u.fl i with
      | none =>
        obtain ⟨q1, q2, q3⟩ := hq.none hi8 hf
        rw [q1]
        refine w_ite (fun _ => ?_) fun c => (by cases c)
        refine w_drw h fun w h => w_ld (x := (i : Int)) h (by rw [← hsd1]; rfl) (w_deref ⟨by omega, ?_⟩)
        rw [Int.toNat_natCast]
        refine w_setTo h b (rqP u.c r (upT t i true) ++ [.sl s1, .sl s2]) rfl (Nat.ble_eq_true_of_le (by show 0 + 57 + i * 1 + 1 ≤ 67; omega)) (rq_upt u.c r t s1 s2 hi8 true) fun w h => ?_
        refine w_drw h fun w h => w_ld (x := (i : Int)) h (by rw [← hsd1]; rfl) (w_deref (w_ld h rfl (w_deref ?_)))
        refine w_setTo h b (rqP u.c (upR r i ((i : Int), cF u.c, 0, 0, 0, ⟨none, 0, 0⟩)) (upT t i true) ++ [.sl s1, .sl s2]) rfl (Nat.ble_eq_true_of_le (by show 0 + 9 + i * 6 + 6 ≤ 67; omega)) (rq_up u.c r (upT t i true) s1 s2 hi8 ((i : Int), cF u.c, 0, 0, 0, ⟨none, 0, 0⟩)) fun w h => ?_
        have h := h.mkLso b (rqP u.c (upR r i ((i : Int), cF u.c, 0, 0, 0, ⟨none, 0, 0⟩)) (upT t i true)) s1 s2 u.lv
        have h := h.sgO r (sgs u) hi8
        have h := h.nil KS
        have hp : plc u i = 0 := plc_0.2 ⟨fun x => (by
          obtain ⟨f, hf2⟩ := hu.th i x
          rw [hf] at hf2; cases hf2), fun f hf2 => (by rw [hf] at hf2; cases hf2)⟩
        refine ⟨trivial, (h.inq (f := fun x : RF × Fl => blk n1 (Ks.mk KS sd) ^ lso b (rqP u.c (upR r i x.1) (upT t i true)) u.lv ^ arr (slR x.1) KS x.2.sg ^ bigS (but (sgP r (sgs u)) i) 8) (((i : Int), cF u.c, 0, 0, 0, ⟨none, 0, 0⟩), ⟨cF u.c, 0, 0, []⟩) ⟨by rw [hp], ?_⟩).keep⟩
        rw [if_pos hp]
        unfold woken
        rw [hf]
      | some f =>
        obtain ⟨q1, q2, q3⟩ := hq.some hi8 hf
        have hUsi := (hu.fl i f hf).2.si
        rw [q1]
        refine w_ite (fun c => (by cases c)) fun _ => ?_
        have e2 : (r i).2.2.1 = plc u i := by rw [q2]
        have e4 : (r i).2.2.2.2.1 = f.si := by rw [q2]
        have e1 : (r i).2.1 = f.cr := by rw [q2]
        have hid : ∀ long, idle u i long now = (decide (plc u i = 0) && decide (addI f.si long ≤ now)) := fun long => by unfold idle; rw [hf]
        have h := h.mkLso b (rqP u.c r t) s1 s2 u.lv
        refine w_join h (fun _ => blk n1 (Ks.mk KS sd) ^ lso b (rqP u.c r t) u.lv ^ bigS (sgP r (sgs u)) 8) (fun y : Bool => y = idle u i 40000000 now) (fun (y : Bool) w hy h => ?_) ?_
        · rw [hy]
          obtain ⟨s1, s2, h⟩ := h.lso b (rqP u.c r t) u.lv
          have h := h.sgO r (sgs u) hi8
          rw [q3] at h
          refine w_ite (fun c => ?_) fun c => ?_
          · refine w_drw h fun w h => w_deref (w_deref (w_ld h (rq_at1 u.c r t s1 s2 hi8) (w_ld h rfl (w_deref ?_))))
            rw [e1]
            refine w_setTo h b (rqP u.c (upR r i ((i : Int), (if cQ u.c > f.cr then cQ u.c else f.cr), plc u i, f.nx, f.si, slR (r i))) t ++ [.sl s1, .sl s2]) rfl (Nat.ble_eq_true_of_le (by show 0 + 9 + i * 6 + 1 + 1 ≤ 67; omega)) (by
              have := rq_up1 u.c r t s1 s2 hi8 (if cQ u.c > f.cr then cQ u.c else f.cr)
              have e : ((r i).1, (if cQ u.c > f.cr then cQ u.c else f.cr), (r i).2.2.1, (r i).2.2.2.1, (r i).2.2.2.2.1, (r i).2.2.2.2.2) = ((i : Int), (if cQ u.c > f.cr then cQ u.c else f.cr), plc u i, f.nx, f.si, slR (r i)) := by rw [q2]
              rw [e] at this
              exact this) fun w h => ?_
            have h := h.mkLso b (rqP u.c (upR r i ((i : Int), (if cQ u.c > f.cr then cQ u.c else f.cr), plc u i, f.nx, f.si, slR (r i))) t) s1 s2 u.lv
            rw [show rqP u.c (upR r i ((i : Int), (if cQ u.c > f.cr then cQ u.c else f.cr), plc u i, f.nx, f.si, slR (r i))) t = rqP u.c (upR r i ((i : Int), (if cQ u.c > f.cr then cQ u.c else f.cr), plc u i, f.nx, f.si, slR (r i))) (upT t i true) by rw [upT_id q1]] at h
            refine ⟨trivial, (h.inq (f := fun x : RF × Fl => blk n1 (Ks.mk KS sd) ^ lso b (rqP u.c (upR r i x.1) (upT t i true)) u.lv ^ arr (slR x.1) KS x.2.sg ^ bigS (but (sgP r (sgs u)) i) 8) (((i : Int), (if cQ u.c > f.cr then cQ u.c else f.cr), plc u i, f.nx, f.si, slR (r i)), { f with cr := if cQ u.c > f.cr then cQ u.c else f.cr }) ⟨rfl, ?_⟩).keep⟩
            have hp : plc u i = 0 := by
              rw [hid, Bool.and_eq_true, decide_eq_true_eq] at c
              exact c.1
            rw [if_pos hp]
            unfold woken
            rw [hf]
            simp [hp, c]
          · have h := h.mkLso b (rqP u.c r t) s1 s2 u.lv
            have er : rqP u.c r t = rqP u.c (upR r i (r i)) (upT t i true) := by rw [upR_id rfl, upT_id q1]
            rw [er] at h
            refine ⟨trivial, (h.inq (f := fun x : RF × Fl => blk n1 (Ks.mk KS sd) ^ lso b (rqP u.c (upR r i x.1) (upT t i true)) u.lv ^ arr (slR x.1) KS x.2.sg ^ bigS (but (sgP r (sgs u)) i) 8) (r i, f) ⟨q2, ?_⟩).keep⟩
            unfold woken
            rw [hf]
            by_cases hp : plc u i = 0
            · simp [hp, c]
            · simp [hp]
        · obtain ⟨s1, s2, h⟩ := h.lso b (rqP u.c r t) u.lv
          refine w_deref (w_ld h (rq_at2 u.c r t s1 s2 hi8) ?_)
          rw [e2]
          refine w_ite (fun c => ?_) fun c => ?_
          · have hp : plc u i = 0 := by simpa using c
            refine w_deref (w_ld h (rq_at4 u.c r t s1 s2 hi8) ?_)
            rw [e4]
            refine w_call (radd_tri f.si 40000000 hUsi (by unfold U; omega)) h fun x w h => ?_
            obtain ⟨hx, h⟩ := h.purP; rw [hx]
            refine ⟨?_, (h.mkLso b (rqP u.c r t) s1 s2 u.lv).fin⟩
            rw [hid]; simp [hp]
          · have hp : ¬ plc u i = 0 := by simpa using c
            refine ⟨?_, (h.mkLso b (rqP u.c r t) s1 s2 u.lv).fin⟩
            rw [hid]; simp [hp]
end FqZa


end Go.X
