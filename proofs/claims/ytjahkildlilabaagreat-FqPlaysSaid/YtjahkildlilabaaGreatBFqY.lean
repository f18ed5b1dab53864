/- Contracts and plain facts: FqX FqY. -/
import Derived.Test.YtjahkildlilabaaGreatBArith
import Derived.Test.YtjahkildlilabaaGreatBInts
import Derived.Test.YtjahkildlilabaaGreatBListsO
import Derived.Test.YtjahkildlilabaaGreatBTreeN
import Derived.Test.YtjahkildlilabaaGreatBTreeB
import Derived.Test.YtjahkildlilabaaGreatBTreeD
import Derived.Test.YtjahkildlilabaaGreatBTreeF
import Derived.Test.YtjahkildlilabaaGreatBFqC
import Derived.Test.YtjahkildlilabaaGreatBFqE
import Derived.Test.YtjahkildlilabaaGreatBFqH
import Derived.Test.YtjahkildlilabaaGreatBFqK
import Derived.Test.YtjahkildlilabaaGreatBFqQ
import Derived.Test.YtjahkildlilabaaGreatBFqW
import Derived.Test.YtjahkildlilabaaGreatXw
import Derived.Test.YtjahkildlilabaaGreatK
import Derived.Test.YtjahkildlilabaaGreatF0
import Derived.Test.YtjahkildlilabaaGreatF1
set_option linter.unusedVariables false
set_option linter.unusedSimpArgs false
set_option linter.unusedSectionVars false
namespace Go.X
open Go.Proofs
namespace FqX
open Arith ArithC Lists ListsO _root_.Go.X.Tree TreeC TreeD TreeE TreeF FqM FqC FqD FqE FqG FqH FqI FqK FqN FqQ FqR FqW
def putL (lv : LV) (i p : Int) : LV := if p = 2 then ((outF lv i).1, (outF lv i).2 ++ [i]) else outF lv i
abbrev plR (x : RF) (p : Int) : RF := (x.1, x.2.1, p, x.2.2.2.1, x.2.2.2.2.1, x.2.2.2.2.2)
theorem put_tri (b : Nat) (c : Cf) (r : Nat → RF) (t : Nat → Bool) (lv : LV) (hv : okL lv) (i : Nat) (hi : i < 8) (p : Int) (hp : p ≠ 1) : Tri Tryz.prog N_canterref20_Queue_put [.lf (.ptr (some ⟨b, 0⟩)), .lf (.int .i64 (i : Int)), .lf (.int .i64 p)] [] (lso b (rqP c r t) lv) (fun _ => lso b (rqP c (upR r i (plR (r i) p)) t) (putL lv (i : Int) p)) :=
  tri_0 (call_canterref20_Queue_put (some ⟨b, 0⟩) (i : Int) p) fun w0 S R h => by
    unfold W_canterref20_Queue_put
    have hl := hv.few
    have ho := hv.out (i : Int)
    have hol := ho.few
    refine w_deref (w_call (o_remove_tri b (rqP c r t) (0 + 65) rfl lv (i : Int) (by omega)) (h.le (star_emp _)) fun _ w h => ?_)
    obtain ⟨_, h⟩ := h.purP
    rw [show (removeF lv (i : Int)).2 = outF lv (i : Int) from rfl] at h
    obtain ⟨s1, s2, h⟩ := h.lso b (rqP c r t) (outF lv (i : Int))
    refine w_deref ⟨by omega, ?_⟩
    rw [Int.toNat_natCast]
    refine w_setTo h b (rqP c (upR r i (plR (r i) p)) t ++ [.sl s1, .sl s2]) rfl (Nat.ble_eq_true_of_le (by show 0 + 9 + i * 6 + 2 + 1 ≤ 67; omega)) (rq_up2 c r t s1 s2 hi p) fun w h => ?_
    have h := h.mkLso b (rqP c (upR r i (plR (r i) p)) t) s1 s2 (outF lv (i : Int))
    have e1 : (p == (1 : Int)) = false := by simpa using hp
    refine w_ite (fun c1 => ?_) fun c1 => ?_
    · have c1 : p = 2 := by
        rw [e1, Bool.false_or] at c1
        simpa using c1
      rw [e1]
      refine w_deref (w_call (o_push_tri b (rqP c (upR r i (plR (r i) p)) t) (0 + 65) rfl (outF lv (i : Int)) (i : Int) false (by omega)) h fun _ w h => ?_)
      obtain ⟨_, h⟩ := h.purP
      have hpl : placeF (outF lv (i : Int)) (i : Int) = 0 := placeF_0.2 (out_nomem lv (i : Int))
      have e : (pushF (outF lv (i : Int)) (i : Int) false).2 = putL lv (i : Int) p := by
        rw [pushF, if_neg (by omega), if_neg (by rw [hpl]; simp), if_neg (by simp)]
        unfold putL
        rw [if_pos c1]
      rw [e] at h
      exact h.fin
    · have c1 : ¬ p = 2 := by
        rw [e1, Bool.false_or] at c1
        simpa using c1
      have e : putL lv (i : Int) p = outF lv (i : Int) := by unfold putL; rw [if_neg c1]
      rw [e]
      exact h.fin
theorem rcollect_tri (b : Nat) (v : Qm) (hv : OkQ v) (now : Int) : Tri Tryz.prog N_canterref20_Queue_collect [.lf (.ptr (some ⟨b, 0⟩)), .lf (.int .u64 now)] [] (rque b v) (fun _ => rque b (collectF v now)) :=
  tri_0 (call_canterref20_Queue_collect (some ⟨b, 0⟩) now) fun w0 S R h => by
    unfold W_canterref20_Queue_collect
    have h : Own w0 S R w0 (rque b (collN v now (0 : Int).toNat)) := by
      have e : collN v now (0 : Int).toNat = v := by unfold collN; simp
      rw [e]; exact h
    refine w_loop (fun y : Int => rque b (collN v now y.toNat)) (fun y : Int => 0 ≤ y ∧ y ≤ 8) (fun y : Int => (8 - y).toNat) h ⟨by decide, by decide⟩ ?_
    rintro (k : Int) w hk h
    have hwk : IntKind.i64.wrap (k + 1) = k + 1 := wi (by omega) (by omega)
    refine w_ite (fun c => ?_) fun c => ?_
    · have c8 : k < 8 := by simpa using c
      clear c
      obtain ⟨j, hj⟩ : ∃ j : Nat, k = (j : Int) := ⟨k.toNat, by omega⟩
      have hj8 : j < 8 := by omega
      have hj1 : (k + 1).toNat = j + 1 := by omega
      rw [hj] at h hwk hj1 ⊢
      rw [Int.toNat_natCast] at h
      obtain ⟨r, t, hq, h⟩ := h.rque b (collN v now j)
      have hfj : (collN v now j).fl j = v.fl j := by unfold collN; simp
      have hid := collN_idle v now j
      have hpl : plc (collN v now j) j = plc v j := by unfold plc; rw [hfj]
      have up : idle v j 3000000000 now = false → collN v now (j + 1) = collN v now j := fun e => by
        unfold collN
        congr 1
        funext q
        have : (q < j + 1 ∧ idle v q 3000000000 now = true) ↔ (q < j ∧ idle v q 3000000000 now = true) := ⟨fun h => ⟨by
          have : q ≠ j := fun e2 => by have := h.2; rw [e2, e] at this; cases this
          omega, h.2⟩, fun h => ⟨by omega, h.2⟩⟩
        by_cases h : q < j ∧ idle v q 3000000000 now = true
        · rw [if_pos h, if_pos (this.2 h)]
        · rw [if_neg h, if_neg (fun x => h (this.1 x))]
      refine w_join h (fun _ => lso b (rqP v.c r t) v.lv ^ bigS (sgP r (sgs (collN v now j))) 8) (fun y : Bool => y = idle v j 3000000000 now) (fun (y : Bool) w hy h => ?_) ?_
      · rw [hy]
        refine w_ite (fun c => ?_) fun c => ?_
        · obtain ⟨f, hf, hs, hnl⟩ := idle_some c
          obtain ⟨s1, s2, h⟩ := h.lso b (rqP v.c r t) v.lv
          refine w_drw h fun w h => w_deref (w_deref ⟨by omega, ?_⟩)
          rw [Int.toNat_natCast]
          refine w_setTo h b (rqP v.c r (upT t j false) ++ [.sl s1, .sl s2]) rfl (Nat.ble_eq_true_of_le (by show 0 + 57 + j * 1 + 1 ≤ 67; omega)) (rq_upt v.c r t s1 s2 hj8 false) fun w h => ⟨by omega, ?_⟩
          refine w_setTo h b (rqP v.c (upR r j zF) (upT t j false) ++ [.sl s1, .sl s2]) rfl (Nat.ble_eq_true_of_le (by show 0 + 9 + j * 6 + 6 ≤ 67; omega)) (rq_up v.c r (upT t j false) s1 s2 hj8 zF) fun w h => ?_
          have h := h.mkLso b (rqP v.c (upR r j zF) (upT t j false)) s1 s2 v.lv
          have h := h.sgO r (sgs (collN v now j)) hj8
          have h := h.nil KS
          have hfn : (collN v now (j + 1)).fl j = none := by unfold collN; exact if_pos ⟨by omega, c⟩
          have hfo : ∀ q, q ≠ j → (collN v now (j + 1)).fl q = (collN v now j).fl q := fun q e => by
            unfold collN
            have : (q < j + 1 ∧ idle v q 3000000000 now = true) ↔ (q < j ∧ idle v q 3000000000 now = true) := ⟨fun h => ⟨by omega, h.2⟩, fun h => ⟨by omega, h.2⟩⟩
            simp only
            by_cases h : q < j ∧ idle v q 3000000000 now = true
            · rw [if_pos h, if_pos (this.2 h)]
            · rw [if_neg h, if_neg (fun x => h (this.1 x))]
          have hsn : sgs (collN v now (j + 1)) j = [] := by unfold sgs; rw [hfn]
          have h := h.sgI r (upR r j zF) (sgs (collN v now j)) (sgs (collN v now (j + 1))) hj8 (fun q e => upR_ne _ _ e) (fun q e => by unfold sgs; rw [hfo q e]) (tk := by rw [hsn, upR_same]; infer_instance)
          have hq2 : Rq (collN v now (j + 1)) (upR r j zF) (upT t j false) := ⟨fun q hq8 => by
            by_cases e : q = j
            · rw [e, upT_same, hfn]; rfl
            · rw [upT_ne _ _ e, hfo q e]; exact hq.t q hq8, fun q hq8 => by
            by_cases e : q = j
            · rw [e, upR_same]; unfold rowF; rw [hfn]
            · rw [upR_ne _ _ e]
              have := hq.r q hq8
              unfold rowF at this ⊢
              rw [hfo q e]
              have hp2 : plc (collN v now (j + 1)) q = plc (collN v now j) q := by unfold plc; rw [hfo q e]
              rw [hp2]
              exact this⟩
          rw [hwk]
          refine ⟨⟨by omega, ?_⟩, by omega⟩
          rw [hj1]
          exact (h.mkRque b (collN v now (j + 1)) (upR r j zF) (upT t j false) hq2).fin
        · rw [hwk]
          refine ⟨⟨by omega, ?_⟩, by omega⟩
          rw [hj1, up c]
          exact (h.mkRque b (collN v now j) r t hq).fin
      · obtain ⟨s1, s2, h⟩ := h.lso b (rqP v.c r t) v.lv
        refine w_deref ⟨by omega, ?_⟩
        rw [Int.toNat_natCast]
        refine w_ld h (rq_th v.c r t s1 s2 hj8) ?_
        cases hf : v.fl j with
        | none =>
          rw [(hq.none hj8 (hfj.trans hf)).1]
          refine w_ite (fun c => (by cases c)) fun _ => ⟨?_, (h.mkLso b (rqP v.c r t) s1 s2 v.lv).fin⟩
          unfold idle; rw [hf]
        | some f =>
          obtain ⟨q1, q2, q3⟩ := hq.some hj8 (hfj.trans hf)
          rw [q1]
          refine w_ite (fun _ => ?_) fun c => (by cases c)
          refine w_deref ⟨by omega, w_ld h (rq_at2 v.c r t s1 s2 hj8) ?_⟩
          have e2 : (r j).2.2.1 = plc v j := by rw [q2, hpl]
          rw [e2]
          refine w_ite (fun c => ?_) fun c => ?_
          · have hp : plc v j = 0 := by simpa using c
            refine w_deref ⟨by omega, w_ld h (rq_at4 v.c r t s1 s2 hj8) ?_⟩
            have e4 : (r j).2.2.2.2.1 = f.si := by rw [q2]
            rw [e4]
            refine w_call (radd_tri f.si 3000000000 (hv.fl j f hf).2.si (by unfold U; omega)) h fun x w h => ?_
            obtain ⟨hx, h⟩ := h.purP; rw [hx]
            refine ⟨?_, (h.mkLso b (rqP v.c r t) s1 s2 v.lv).fin⟩
            unfold idle; rw [hf]; simp [hp]
          · have hp : ¬ plc v j = 0 := by simpa using c
            refine ⟨?_, (h.mkLso b (rqP v.c r t) s1 s2 v.lv).fin⟩
            unfold idle; rw [hf]; simp [hp]
    · have c : ¬ k < 8 := by simpa using c
      have e : k.toNat = 8 := by omega
      rw [e] at h
      obtain ⟨r, t, hq, h⟩ := h.rque b (collN v now 8)
      have hfo : ∀ q, q < 8 → (collectF v now).fl q = (collN v now 8).fl q := fun q hq => by
        show (if _ then _ else _) = (if _ then _ else _)
        by_cases h : idle v q 3000000000 now = true
        · rw [if_pos h, if_pos ⟨hq, h⟩]
        · rw [if_neg h, if_neg (fun x => h x.2)]
      have hq2 : Rq (collectF v now) r t := ⟨fun q hq8 => by rw [hfo q hq8]; exact hq.t q hq8, fun q hq8 => by
        have := hq.r q hq8
        unfold rowF at this ⊢
        rw [hfo q hq8]
        have hp2 : plc (collectF v now) q = plc (collN v now 8) q := by unfold plc; rw [hfo q hq8]
        rw [hp2]
        exact this⟩
      have e2 : bigS (sgP r (sgs (collN v now 8))) 8 = bigS (sgP r (sgs (collectF v now))) 8 := bigS_congr 8 fun q hq8 => by
        show arr _ KS (sgs _ q) = arr _ KS (sgs _ q)
        unfold sgs; rw [hfo q hq8]
      rw [e2] at h
      exact (h.mkRque b (collectF v now) r t hq2).fin
theorem rlen_tri (b : Nat) (v : Qm) (hv : OkQ v) (r : Nat → RF) (t : Nat → Bool) (hq : Rq v r t) : Tri Tryz.prog N_canterref20_Queue_Len [.lf (.ptr (some ⟨b, 0⟩))] [.lf (.int .i64)] (lso b (rqP v.c r t) v.lv ^ bigS (sgP r (sgs v)) 8) (fun x => pur (x = v.n) (lso b (rqP v.c r t) v.lv ^ bigS (sgP r (sgs v)) 8)) :=
  tri_0 (call_canterref20_Queue_Len (some ⟨b, 0⟩)) fun w0 S R h => by
    unfold W_canterref20_Queue_Len
    refine w_loop (fun _ : Int × Int => lso b (rqP v.c r t) v.lv ^ bigS (sgP r (sgs v)) 8) (fun y : Int × Int => (0 ≤ y.2 ∧ y.2 ≤ 8) ∧ y.1 = tot v.fl y.2.toNat ∧ y.1 ≤ 512 * y.2) (fun y : Int × Int => (8 - y.2).toNat) h ⟨by decide, rfl, by decide⟩ ?_
    rintro (y0 : Int × Int) w ⟨hk, hb, hb2⟩ h
    obtain ⟨x, k⟩ := y0
    dsimp only at hk hb hb2
    have hwk : IntKind.i64.wrap (k + 1) = k + 1 := wi (by omega) (by omega)
    have hx0 : 0 ≤ x := by rw [hb]; exact tot_nn _ _
    refine w_ite (fun c => ?_) fun c => ?_
    · have c8 : k < 8 := by simpa using c
      clear c
      obtain ⟨j, hj⟩ : ∃ j : Nat, k = (j : Int) := ⟨k.toNat, by omega⟩
      have hj8 : j < 8 := by omega
      have hj1 : (k + 1).toNat = j + 1 := by omega
      rw [hj] at hb hwk hj1 hb2 ⊢
      rw [Int.toNat_natCast] at hb
      obtain ⟨s1, s2, h⟩ := h.lso b (rqP v.c r t) v.lv
      refine w_deref ⟨by omega, ?_⟩
      rw [Int.toNat_natCast]
      refine w_ld h (rq_at5 v.c r t s1 s2 hj8) ?_
      have h := h.sgO r (sgs v) hj8
      have hsl := (h.rd (s := slR (r j))).2
      have h := h.sgI r r (sgs v) (sgs v) hj8 (fun _ _ => rfl) (fun _ _ => rfl)
      have hcn : (((slR (r j)).len : Nat) : Int) = cnt (v.fl j) ∧ cnt (v.fl j) ≤ 512 := by
        rw [hsl]
        unfold sgs
        cases hf : v.fl j with
        | none => exact ⟨rfl, by decide⟩
        | some f =>
          have := (hv.len hf).2
          exact ⟨rfl, by show ((f.sg.length : Nat) : Int) ≤ 512; omega⟩
      have hwx : IntKind.i64.wrap (x + (((slR (r j)).len : Nat) : Int)) = x + cnt (v.fl j) := by rw [hcn.1]; exact wi (by have := cnt_nn (v.fl j); omega) (by omega)
      rw [hwk]
      rw [show IntKind.i64.wrap ((x, (j : Int)).1 + (((r j).2.2.2.2.2.len : Nat) : Int)) = x + cnt (v.fl j) from hwx]
      refine ⟨⟨⟨by show 0 ≤ (j : Int) + 1 ∧ (j : Int) + 1 ≤ 8; omega, ?_, by show x + cnt (v.fl j) ≤ 512 * ((j : Int) + 1); omega⟩, (h.mkLso b (rqP v.c r t) s1 s2 v.lv).fin⟩, by show (8 - ((j : Int) + 1)).toNat < (8 - (j : Int)).toNat; omega⟩
      show x + cnt (v.fl j) = tot v.fl ((j : Int) + 1).toNat
      rw [hj1, hb]; rfl
    · have c : ¬ k < 8 := by simpa using c
      have e : k.toNat = 8 := by omega
      rw [e] at hb
      exact Own.retP (hb.trans hv.n.symm) h
theorem rdog_tri (b : Nat) (v : Qm) (hv : OkQ v) : Tri Tryz.prog N_canterref20_Queue_Watchdog [.lf (.ptr (some ⟨b, 0⟩))] [.lf (.int .u64), .lf .bool] (rque b v) (fun x => pur (x = ((minF v.ks).1.1, (minF v.ks).2)) (rque b v)) :=
  tri_0 (call_canterref20_Queue_Watchdog (some ⟨b, 0⟩)) fun w0 S R h => by
    unfold W_canterref20_Queue_Watchdog
    obtain ⟨r, t, hq, h⟩ := (h.le (star_emp _)).rque b v
    refine w_call (first_tri b v hv r t hq) h fun x w h => ?_
    obtain ⟨hx, h⟩ := h.purP; rw [hx]
    cases hks : v.ks with
    | nil =>
      have e : firstF v = -1 := by unfold firstF; rw [hks]
      rw [e]
      refine w_ite (fun _ => ?_) fun c => (by cases c)
      exact Own.retP rfl (h.mkRque b v r t hq).fin
    | cons k l =>
      obtain ⟨i, f, hf, hs, hni, he⟩ := (hv.ks k).1 (by rw [hks]; simp)
      have hi8 := (hv.fl i f hf).1
      have e : firstF v = (i : Int) := by unfold firstF; rw [hks, he]
      rw [e]
      refine w_ite (fun c => ?_) fun _ => ?_
      · exfalso
        have c : (i : Int) < 0 := by simpa using c
        omega
      obtain ⟨q1, q2, q3⟩ := hq.some hi8 hf
      obtain ⟨s1, s2, h⟩ := h.lso b (rqP v.c r t) v.lv
      refine w_deref ⟨by omega, ?_⟩
      rw [Int.toNat_natCast]
      refine w_ld h (rq_at v.c r t s1 s2 hi8) ?_
      cases hss : f.sg with
      | nil => exact absurd hss hs
      | cons a1 l1 =>
      rw [hss] at q3
      have h := h.sgO r (sgs v) hi8
      rw [q3] at h
      refine w_callL (Time_tri (r i) a1 l1) h fun r13 w h => ?_
      obtain ⟨hr13, h⟩ := h.purP; rw [hr13]
      have h := h.sgI r r (sgs v) (sgs v) hi8 (fun _ _ => rfl) (fun _ _ => rfl) (tk := by rw [q3]; infer_instance)
      have h := h.mkLso b (rqP v.c r t) s1 s2 v.lv
      refine Own.retP ?_ (h.mkRque b v r t hq).fin
      have e3 : (r i).2.2.2.1 = f.nx := by rw [q2]
      rw [e3]
      have e4 : (if sSt a1 > f.nx then sSt a1 else f.nx) = timeF f := by unfold timeF; rw [hss]
      rw [e4, he]
      rfl
abbrev zFL : List Lf := [.int .i64 0, .int .i64 0, .int .i64 0, .int .u64 0, .int .u64 0, .sl ⟨none, 0, 0⟩]
theorem rflow_tri (b : Nat) (v : Qm) (hv : OkQ v) (i : Int) : Tri Tryz.prog N_canterref20_Queue_Flow [.lf (.ptr (some ⟨b, 0⟩)), .lf (.int .i64 i)] [.agg KF, .lf .bool] (rque b v) (fun x => ex fun s : Sl => pur (x = seenF v i s) (arr s KS (sgF v i) ^ rque b v)) :=
  tri_0 (call_canterref20_Queue_Flow (some ⟨b, 0⟩) i) fun w0 S R h => by
    unfold W_canterref20_Queue_Flow
    refine w_new h fun n1 w h => ?_
    have no : ∀ {w : World}, hasF v i = false → Own w0 S R w (blk n1 zFL ^ rque b v) → Own w0 S R w (ex fun s : Sl => pur ((noF, false) = seenF v i s) (arr s KS (sgF v i) ^ rque b v)) := fun {w} hh h => by
      have h := h.nil KS
      have e : sgF v i = [] := by unfold sgF; rw [if_neg (by rw [hh]; simp)]
      refine Own.retE ⟨none, 0, 0⟩ (Own.retP ?_ ?_)
      · unfold seenF; rw [if_neg (by rw [hh]; simp)]
      · rw [e]; exact h.fin
    refine w_join h (fun _ => blk n1 zFL ^ rque b v) (fun _ => hasF v i = true) (fun _ w hh h => ?_) ?_
    · have hh' := hh
      unfold hasF at hh'
      simp only [Bool.and_eq_true, decide_eq_true_eq, Option.isSome_iff_exists] at hh'
      obtain ⟨hi, f, hf⟩ := hh'
      have hi8 : i.toNat < 8 := by omega
      have hlen := (hv.len hf).2
      have e : sgF v i = f.sg := by unfold sgF; rw [if_pos hh, hf]
      obtain ⟨r, t, hq, h⟩ := h.rque b v
      obtain ⟨q1, q2, q3⟩ := hq.some hi8 hf
      obtain ⟨s1, s2, h⟩ := h.lso b (rqP v.c r t) v.lv
      refine w_deref ⟨by omega, w_ld h (rq_at v.c r t s1 s2 hi8) ?_⟩
      refine w_new h fun n10 w h => w_setAll h (by rfl) fun w h => w_ld h rfl ?_
      have h := h.sgO r (sgs v) hi8
      rw [q3] at h
      have h := h.nil KS
      refine w_app (K := KS) (s := ⟨none, 0, 0⟩) (x := slR (r i.toNat)) (xs := []) (ys := f.sg) h rfl (by simpa using by omega) fun s12 w _ h => ?_
      have hii : ((i.toNat : Nat) : Int) = i := by omega
      refine w_setTo h n10 (Ks.mk KF (i, f.cr, plc v i.toNat, f.nx, f.si, s12)) rfl rfl (by rw [q2, hii]; rfl) fun w h => ?_
      refine w_ldAll (b := n10) (x := (i, f.cr, plc v i.toNat, f.nx, f.si, s12)) h rfl (w_setAll h (by rfl) fun w h => w_ldAll (b := n1) (x := (i, f.cr, plc v i.toNat, f.nx, f.si, s12)) h rfl ?_)
      have h := h.arrEq (s := s12) (K := KS) (ys := f.sg) rfl
      have h := h.sgI r r (sgs v) (sgs v) hi8 (fun _ _ => rfl) (fun _ _ => rfl) (tk := by rw [q3]; infer_instance)
      have h := h.mkLso b (rqP v.c r t) s1 s2 v.lv
      have h := h.mkRque b v r t hq
      refine Own.retE s12 (Own.retP ?_ ?_)
      · unfold seenF; rw [if_pos hh, hf]
      · rw [e]; exact h.fin
    · refine w_ite (fun c => ?_) fun c => ?_
      · have c : i < 0 ∨ i ≥ 8 := by simpa using c
        refine w_setAll h (by rfl) fun w h => w_ldAll (b := n1) (x := noF) h rfl ?_
        refine no ?_ h.fin
        unfold hasF
        rw [Bool.and_eq_false_iff]; left
        rw [decide_eq_false_iff_not]; omega
      · have c : ¬ (i < 0 ∨ i ≥ 8) := by simpa using c
        obtain ⟨r, t, hq, h⟩ := h.rque b v
        have hi8 : i.toNat < 8 := by omega
        obtain ⟨s1, s2, h⟩ := h.lso b (rqP v.c r t) v.lv
        refine w_deref ⟨by omega, w_ld h (rq_th v.c r t s1 s2 hi8) ?_⟩
        have ht := hq.t i.toNat hi8
        have h := h.mkLso b (rqP v.c r t) s1 s2 v.lv
        have h := h.mkRque b v r t hq
        have hh : hasF v i = (v.fl i.toNat).isSome := by unfold hasF; rw [decide_eq_true (show 0 ≤ i ∧ i ≤ 7 by omega), Bool.true_and]
        refine w_ite (fun c2 => ?_) fun c2 => ?_
        · have c2 : t i.toNat = false := by simpa using c2
          refine w_setAll h (by rfl) fun w h => w_ldAll (b := n1) (x := noF) h rfl ?_
          exact no (by rw [hh, ← ht]; exact c2) h.fin
        · have c2 : t i.toNat = true := by simpa using c2
          exact ⟨by rw [hh, ← ht]; exact c2, h.fin⟩
theorem sgs_up (v : Qm) (i : Nat) (x : Option Fl) (lv : LV) (ks : List Key) (n : Int) {j : Nat} (e : j ≠ i) : sgs { v with fl := upF v.fl i x, lv := lv, ks := ks, n := n } j = sgs v j := by
  unfold sgs
  show (match upF v.fl i x j with | none => [] | some f => f.sg) = _
  rw [upF_ne _ _ e]
  rfl
theorem plc_other {u v : Qm} {j : Nat} (hf : u.fl j = v.fl j) (hl : placeF u.lv (j : Int) = placeF v.lv (j : Int)) : plc u j = plc v j := by unfold plc; rw [hf, hl]
theorem place_out (lv : LV) {i j : Int} (h : j ≠ i) : placeF (outF lv i) j = placeF lv j := by
  unfold placeF outF
  simp only [List.mem_filter, decide_eq_true_eq, ne_eq]
  simp [h]
theorem rclose_tri (b : Nat) (v : Qm) (hv : OkQ v) (i : Int) : Tri Tryz.prog N_canterref20_Queue_Close [.lf (.ptr (some ⟨b, 0⟩)), .lf (.int .i64 i)] [.lf .sl] (rque b v) (fun x => arr x KS (closeF v i).1 ^ rque b (closeF v i).2) :=
  tri_0 (call_canterref20_Queue_Close (some ⟨b, 0⟩) i) fun w0 S R h => by
    unfold W_canterref20_Queue_Close
    refine w_join h (fun _ => rque b v) (fun _ => (0 ≤ i ∧ i ≤ 7) ∧ ∃ f, v.fl i.toNat = some f) (fun _ w hh h => ?_) ?_
    · obtain ⟨hi, f, hf⟩ := hh
      have hi8 : i.toNat < 8 := by omega
      have hl := hv.lv.few
      obtain ⟨r, t, hq, h⟩ := (h.le (star_emp _)).rque b v
      obtain ⟨q1, q2, q3⟩ := hq.some hi8 hf
      obtain ⟨s1, s2, h⟩ := h.lso b (rqP v.c r t) v.lv
      refine w_deref ⟨by omega, w_ld h (rq_at5 v.c r t s1 s2 hi8) ?_⟩
      have h := h.mkLso b (rqP v.c r t) s1 s2 v.lv
      refine w_deref (w_call (o_remove_tri b (rqP v.c r t) (0 + 65) rfl v.lv i (by omega)) h fun _ w h => ?_)
      obtain ⟨_, h⟩ := h.purP
      rw [show (removeF v.lv i).2 = outF v.lv i from rfl] at h
      obtain ⟨s1, s2, h⟩ := h.lso b (rqP v.c r t) (outF v.lv i)
      refine w_drw h fun w h => w_deref (w_deref ⟨by omega, ?_⟩)
      refine w_setTo h b (rqP v.c r (upT t i.toNat false) ++ [.sl s1, .sl s2]) rfl (Nat.ble_eq_true_of_le (by show 0 + 57 + i.toNat * 1 + 1 ≤ 67; omega)) (rq_upt v.c r t s1 s2 hi8 false) fun w h => ⟨by omega, ?_⟩
      refine w_setTo h b (rqP v.c (upR r i.toNat zF) (upT t i.toNat false) ++ [.sl s1, .sl s2]) rfl (Nat.ble_eq_true_of_le (by show 0 + 9 + i.toNat * 6 + 6 ≤ 67; omega)) (rq_up v.c r (upT t i.toNat false) s1 s2 hi8 zF) fun w h => ?_
      have h := h.mkLso b (rqP v.c (upR r i.toNat zF) (upT t i.toNat false)) s1 s2 (outF v.lv i)
      have h := h.sgO r (sgs v) hi8
      rw [q3] at h
      have h := h.nil KS
      obtain ⟨ks', n', hce⟩ : ∃ ks' n', closeF v i = (f.sg, { v with fl := upF v.fl i.toNat none, lv := outF v.lv i, ks := ks', n := n' }) := by
        unfold closeF
        rw [if_neg (fun x => x hi), hf]
        exact ⟨_, _, rfl⟩
      rw [hce]
      have hsn : sgs { v with fl := upF v.fl i.toNat none, lv := outF v.lv i, ks := ks', n := n' } i.toNat = [] := by
        unfold sgs
        show (match upF v.fl i.toNat none i.toNat with | none => [] | some f => f.sg) = _
        rw [upF_same]
      have h := h.sgI r (upR r i.toNat zF) (sgs v) (sgs { v with fl := upF v.fl i.toNat none, lv := outF v.lv i, ks := ks', n := n' }) hi8 (fun q e => upR_ne _ _ e) (fun q e => sgs_up v i.toNat none _ _ _ e) (tk := by rw [hsn, upR_same]; infer_instance)
      have hq2 : Rq { v with fl := upF v.fl i.toNat none, lv := outF v.lv i, ks := ks', n := n' } (upR r i.toNat zF) (upT t i.toNat false) := ⟨fun q hq8 => by
        show _ = (upF v.fl i.toNat none q).isSome
        by_cases e : q = i.toNat
        · rw [e, upT_same, upF_same]; rfl
        · rw [upT_ne _ _ e, upF_ne _ _ e]; exact hq.t q hq8, fun q hq8 => by
        by_cases e : q = i.toNat
        · rw [e, upR_same]
          unfold rowF
          rw [show ({ v with fl := upF v.fl i.toNat none, lv := outF v.lv i, ks := ks', n := n' } : Qm).fl i.toNat = none from upF_same _ _ _]
        · rw [upR_ne _ _ e]
          have := hq.r q hq8
          unfold rowF at this ⊢
          rw [show ({ v with fl := upF v.fl i.toNat none, lv := outF v.lv i, ks := ks', n := n' } : Qm).fl q = v.fl q from upF_ne _ _ e]
          rw [plc_other (u := { v with fl := upF v.fl i.toNat none, lv := outF v.lv i, ks := ks', n := n' }) (v := v) (upF_ne _ _ e) (place_out v.lv (by omega))]
          exact this⟩
      have h := h.mkRque b { v with fl := upF v.fl i.toNat none, lv := outF v.lv i, ks := ks', n := n' } (upR r i.toNat zF) (upT t i.toNat false) hq2
      exact h.fin
    · have none_ : ∀ {w : World}, closeF v i = ([], v) → Own w0 S R w (rque b v) → Own w0 S R w (arr ⟨none, 0, 0⟩ KS (closeF v i).1 ^ rque b (closeF v i).2) := fun {w} e h => by
        rw [e]
        exact ((h.le (star_emp _)).nil KS).fin
      refine w_ite (fun c => ?_) fun c => ?_
      · have c : i < 0 ∨ i ≥ 8 := by simpa using c
        refine none_ ?_ h
        unfold closeF
        rw [if_pos (by omega)]
      · have c : ¬ (i < 0 ∨ i ≥ 8) := by simpa using c
        have hi8 : i.toNat < 8 := by omega
        obtain ⟨r, t, hq, h⟩ := (h.le (star_emp _)).rque b v
        obtain ⟨s1, s2, h⟩ := h.lso b (rqP v.c r t) v.lv
        refine w_deref ⟨by omega, w_ld h (rq_th v.c r t s1 s2 hi8) ?_⟩
        have ht := hq.t i.toNat hi8
        have h := h.mkLso b (rqP v.c r t) s1 s2 v.lv
        have h := h.mkRque b v r t hq
        refine w_ite (fun c2 => ?_) fun c2 => ?_
        · have c2 : t i.toNat = false := by simpa using c2
          refine none_ ?_ h.fin
          unfold closeF
          rw [if_neg (by omega)]
          cases hf : v.fl i.toNat with
          | none => rfl
          | some f => rw [ht, hf] at c2; cases c2
        · have c2 : t i.toNat = true := by simpa using c2
          refine ⟨⟨by omega, ?_⟩, h.fin⟩
          cases hf : v.fl i.toNat with
          | none => rw [ht, hf] at c2; cases c2
          | some f => exact ⟨f, rfl⟩
end FqX

namespace FqY
open Arith ArithC Lists ListsO _root_.Go.X.Tree TreeC TreeD TreeE TreeF FqM FqC FqD FqE FqG FqH FqI FqK FqN FqQ FqR FqW FqX
theorem rate_tri (s : Sl) (rates : List Int) (i : Nat) : Tri Tryz.prog N_canterref20_rate [.lf (.sl s), .lf (.int .i64 (i : Int))] [.lf (.int .u64)] (emp ^ rarr s KU rates) (fun x => pur (x = rateA rates i) emp) :=
  tri_0 (call_canterref20_rate s (i : Int)) fun w0 S R h => by
    unfold W_canterref20_rate
    have h : Own w0 S R w0 (rarr s KU rates ^ emp) := h.fin
    have hs := (h.rd (s := s)).2
    refine w_ite (fun c => ?_) fun c => ?_
    · have c : (i : Int) < ((s.len : Nat) : Int) := by simpa using c
      obtain ⟨x, hx⟩ : ∃ x, rates[i]? = some x := ⟨_, List.getElem?_eq_getElem (by omega)⟩
      refine w_idx (s := s) h (by omega) (by omega) (w_ldE h s i hx (by rw [Int.toNat_natCast]; rfl) ?_)
      refine Own.retP ?_ h.emp'
      show x = rateA rates i
      unfold rateA; rw [hx]
    · have c : ¬ (i : Int) < ((s.len : Nat) : Int) := by simpa using c
      refine Own.retP ?_ h.emp'
      show (18446744073709551615 : Int) = rateA rates i
      unfold rateA; rw [List.getElem?_eq_none (by omega)]
theorem rq_mk {u u' : Qm} {r : Nat → RF} {t : Nat → Bool} (h : Rq u r t) {i : Nat} {f f' : Fl} (hf : u.fl i = some f) (hf' : u'.fl i = some f') (hfl : ∀ j, j ≠ i → u'.fl j = u.fl j) (hpl : ∀ j, j ≠ i → plc u' j = plc u j) (x : RF) (hx : x = ((i : Int), f'.cr, plc u' i, f'.nx, f'.si, slR x)) : Rq u' (upR r i x) t := ⟨fun q hq8 => by
    by_cases e : q = i
    · rw [e, hf']; rw [e] at hq8; rw [h.t i hq8, hf]; rfl
    · rw [hfl q e]; exact h.t q hq8, fun q hq8 => by
    by_cases e : q = i
    · rw [e, upR_same]
      unfold rowF
      rw [hf']
      exact hx
    · rw [upR_ne _ _ e]
      have := h.r q hq8
      unfold rowF at this ⊢
      rw [hfl q e, hpl q e]
      exact this⟩
theorem place_app2 (lv : LV) {i j : Int} (h : j ≠ i) : placeF (lv.1, lv.2 ++ [i]) j = placeF lv j := by
  unfold placeF
  simp [h]
theorem put_back {lv : LV} (hh : (headF lv).2.2 = true) {i : Int} (hi : (headF lv).1 = i) : putL lv i 2 = (backF lv).2 := by
  unfold putL backF
  rw [if_pos rfl, if_pos hh, hi]
theorem put_drop {lv : LV} (hh : (headF lv).2.2 = true) {i : Int} (hi : (headF lv).1 = i) {p : Int} (hp : p ≠ 2) : putL lv i p = (dropF lv).2 := by
  unfold putL dropF
  rw [if_neg hp, if_pos hh, hi]
theorem place_put2 (lv : LV) (i : Int) : placeF (putL lv i 2) i = 2 := by
  unfold putL placeF outF
  rw [if_pos rfl]
  simp
theorem place_put0 (lv : LV) (i : Int) {p : Int} (hp : p ≠ 2) : placeF (putL lv i p) i = 0 := by
  unfold putL
  rw [if_neg hp]
  exact placeF_0.2 (out_nomem lv i)
theorem place_putj (lv : LV) {i j : Int} (p : Int) (h : j ≠ i) : placeF (putL lv i p) j = placeF lv j := by
  unfold putL
  split
  · rw [show ((outF lv i).1, (outF lv i).2 ++ [i]) = ((outF lv i).1, (outF lv i).2 ++ [i]) from rfl, place_app2 (outF lv i) h, place_out lv h]
  · exact place_out lv h
theorem sg_pl (r : Nat → RF) (i : Nat) (p : Int) (xs : Nat → List Sg) : bigS (sgP (upR r i (plR (r i) p)) xs) 8 = bigS (sgP r xs) 8 := bigS_congr 8 fun q _ => by
  show arr (slR (upR r i (plR (r i) p) q)) KS (xs q) = arr (slR (r q)) KS (xs q)
  by_cases e : q = i
  · rw [e, upR_same]
  · rw [upR_ne _ _ e]
/-! ### Those whose time has come -/
abbrev oneDue (u : Qm) (k : Key) (l : List Key) : Qm := { u with ks := l, lv := (u.lv.1, u.lv.2 ++ [k.2]) }
theorem due_step {u : Qm} {k : Key} {l : List Key} (hk : u.ks = k :: l) {now : Int} (h : k.1 ≤ now) : dueF (oneDue u k l) now = dueF u now := by
  show (⟨u.c, u.fl, (u.lv.1, (u.lv.2 ++ [k.2]) ++ (l.takeWhile fun k => decide (k.1 ≤ now)).map Prod.snd), l.dropWhile fun k => decide (k.1 ≤ now), u.n⟩ : Qm) = ⟨u.c, u.fl, (u.lv.1, u.lv.2 ++ (u.ks.takeWhile fun k => decide (k.1 ≤ now)).map Prod.snd), u.ks.dropWhile fun k => decide (k.1 ≤ now), u.n⟩
  rw [hk, List.takeWhile_cons, List.dropWhile_cons, if_pos (by simpa using h), if_pos (by simpa using h)]
  simp
theorem due_ok1 {u : Qm} (hu : OkQ u) {k : Key} {l : List Key} (hk : u.ks = k :: l) : OkQ (oneDue u k l) := by
  obtain ⟨i, f, hf, hs, hni, he⟩ := (hu.ks k).1 (by rw [hk]; simp)
  have hi8 := (hu.fl i f hf).1
  have hp := pushedO (v := u.lv) hi8 hni
  have hk2 : k.2 = (i : Int) := by rw [he]
  have hokl : okL (u.lv.1, u.lv.2 ++ [(i : Int)]) := by
    have := hu.lv.push (i : Int) false
    rwa [hp] at this
  have hsr := hu.srt
  rw [hk] at hsr
  have hnd := hu.srt.nodup
  rw [hk] at hnd
  have hin : ∀ j : Nat, inL (u.lv.1, u.lv.2 ++ [(i : Int)]) j ↔ inL u.lv j ∨ j = i := fun j => by
    unfold inL
    rw [← List.append_assoc, List.mem_append, List.mem_singleton]
    exact ⟨fun h => h.imp id (fun e => by omega), fun h => h.imp id (fun e => by omega)⟩
  have e : upF u.fl i (u.fl i) = u.fl := upF_id rfl
  have := hu.upd hi8 (u.fl i) (u.lv.1, u.lv.2 ++ [(i : Int)]) l u.n hokl (fun j hj => by rw [hin]; exact ⟨fun h => h.elim id fun e => absurd e hj, .inl⟩) (fun _ => ⟨f, hf⟩) (fun g hg => (hu.fl i g hg).2) (fun q => ?_) (List.pairwise_cons.1 hsr).2 (by omega) hu.le
  · rw [e] at this
    unfold oneDue
    rw [hk2]
    exact this
  · constructor
    · intro hq
      left
      refine ⟨by rw [hk]; exact List.mem_cons_of_mem _ hq, fun e2 => ?_⟩
      have hqm : q ∈ u.ks := by rw [hk]; exact List.mem_cons_of_mem _ hq
      have := key_inj hu hqm (b := k) (by rw [hk]; simp) (by rw [e2, hk2])
      rw [this] at hq
      exact (List.nodup_cons.1 hnd).1 hq
    · rintro (⟨hq, hne⟩ | ⟨g, hg, _, hn, _⟩)
      · rw [hk] at hq
        rcases List.mem_cons.1 hq with rfl | hq
        · exact absurd hk2 hne
        · exact hq
      · exact absurd ((hin i).2 (.inr rfl)) hn
theorem rdeq_tri (b : Nat) (v : Qm) (hv : OkQ v) (now : Int) (hn : U now) (s : Sl) (rates : List Int) (hr : ∀ x ∈ rates, U x) : Tri Tryz.prog N_canterref20_Queue_Dequeue [.lf (.ptr (some ⟨b, 0⟩)), .lf (.int .u64 now), .lf (.sl s)] [.agg KS, .lf .bool]
    (rque b v ^ rarr s KU rates) (fun x => pur (x = outS (deqF v now rates).1) (rque b (deqF v now rates).2)) :=
  tri_0 (call_canterref20_Queue_Dequeue (some ⟨b, 0⟩) now s) fun w0 S R h => by
    unfold W_canterref20_Queue_Dequeue
    refine w_new h fun n1 w h => ?_
    have h : Own w0 S R w (blk n1 zS ^ rarr s KU rates ^ rque b v) := h.fin
    refine w_join h (fun _ => blk n1 zS ^ rarr s KU rates ^ rque b (dueF v now)) (fun _ => True) (fun _ w _ h => ?_) ?_
    · refine w_loopE (fun (_ : Unit) (u : Qm) => blk n1 zS ^ rarr s KU rates ^ rque b u) (fun _ u => OkQ u ∧ ∃ k, mu u < k ∧ heads now rates k u = deqF v now rates) (fun _ u => mu u) (dueF v now) h ⟨hv.due now, _, Nat.lt_succ_self _, rfl⟩ ?_
      rintro K (y : Unit) u w ⟨hu, k, hk, hR⟩ h next
      have hl := hu.lv.few
      cases k with
      | zero => omega
      | succ k =>
      obtain ⟨r, t, hq, h⟩ := h.rque b u
      refine w_deref (w_call (o_head_tri b (rqP u.c r t) (0 + 65) rfl u.lv) h fun x w h => ?_)
      obtain ⟨hx, h⟩ := h.purP; rw [hx]
      cases hh : (headF u.lv).2.2 with
      | false =>
        rw [heads_no hh] at hR
        refine w_ite (fun _ => ?_) fun c => (by simp at c)
        refine w_setAll h (by rfl) fun w h => w_ldAll (b := n1) (x := noS) h rfl ?_
        rw [← hR]
        exact Own.retP rfl (h.mkRque b u r t hq).fin
      | true =>
        refine w_ite (fun c => (by simp at c)) fun _ => ?_
        have hm := headF_mem hh
        have hxr := hu.lv.2 _ hm
        obtain ⟨i, hi⟩ : ∃ i : Nat, (headF u.lv).1 = (i : Int) := ⟨(headF u.lv).1.toNat, by omega⟩
        obtain ⟨f, hf⟩ := hu.th i (by rw [hi] at hm; exact hm)
        have hA : AtH u i f := ⟨hu, hi, hh, hf⟩
        have hi8 := hA.lt
        have hF := (hu.fl i f hf).2
        have hcr := hF.cr
        have hqq := hu.cf.q
        rw [heads_at hA] at hR
        obtain ⟨q1, q2, q3⟩ := hq.some hi8 hf
        have hit : ((i : Nat) : Int).toNat = i := Int.toNat_natCast i
        rw [hi]
        refine w_deref ⟨by omega, ?_⟩
        rw [hit]
        obtain ⟨s1, s2, h⟩ := h.lso b (rqP u.c r t) u.lv
        have hb : ∀ o m : Nat, o + m ≤ 67 → Nat.ble (o + m) 67 = true := fun o m h => Nat.ble_eq_true_of_le h
        refine w_deref (w_ld h (rq_at1 u.c r t s1 s2 hi8) ?_)
        have e1 : (r i).2.1 = f.cr := by rw [q2]
        rw [e1]
        refine w_ite (fun c => ?_) fun c => ?_
        · have c : f.cr ≤ 0 := by simpa using c
          rw [if_pos c] at hR
          have hcw : IntKind.i64.wrap (f.cr + cQ u.c) = f.cr + cQ u.c := wi (by omega) (by omega)
          refine w_drw h fun w h => w_deref (w_deref (w_ld h (rq_at1 u.c r t s1 s2 hi8) (w_ld h rfl (w_deref ?_))))
          rw [e1]
          rw [show IntKind.i64.wrap (f.cr + cQ u.c) = f.cr + cQ u.c from hcw]
          refine w_setTo h b (rqP u.c (upR r i ((r i).1, f.cr + cQ u.c, (r i).2.2.1, (r i).2.2.2.1, (r i).2.2.2.2.1, (r i).2.2.2.2.2)) t ++ [.sl s1, .sl s2]) rfl (Nat.ble_eq_true_of_le (by show 0 + 9 + i * 6 + 1 + 1 ≤ 67; omega)) (rq_up1 u.c r t s1 s2 hi8 _) fun w h => ?_
          obtain ⟨r', hr'⟩ : ∃ r', r' = upR r i ((r i).1, f.cr + cQ u.c, (r i).2.2.1, (r i).2.2.2.1, (r i).2.2.2.2.1, (r i).2.2.2.2.2) := ⟨_, rfl⟩
          rw [← hr'] at h
          have h := h.mkLso b (rqP u.c r' t) s1 s2 u.lv
          refine w_call (put_tri b u.c r' t u.lv hu.lv i hi8 2 (by decide)) h fun _ w h => ?_
          have hri : r' i = ((r i).1, f.cr + cQ u.c, (r i).2.2.1, (r i).2.2.2.1, (r i).2.2.2.2.1, (r i).2.2.2.2.2) := by rw [hr', upR_same]
          have hup : upR r' i (plR (r' i) 2) = upR r i ((i : Int), f.cr + cQ u.c, 2, f.nx, f.si, slR (r i)) := by
            funext q
            by_cases e : q = i
            · rw [e, upR_same, upR_same, hri]
              show ((r i).1, f.cr + cQ u.c, 2, (r i).2.2.2.1, (r i).2.2.2.2.1, (r i).2.2.2.2.2) = _
              rw [q2]
            · rw [upR_ne _ _ e, upR_ne _ _ e, hr', upR_ne _ _ e]
          rw [hup, put_back hh hi] at h
          have hpi : plc { u with fl := upF u.fl i (some { f with cr := f.cr + cQ u.c }), lv := (backF u.lv).2 } i = 2 := by
            unfold plc
            rw [← put_back hh hi, place_put2]; rfl
          have hq2 := rq_mk (u' := { u with fl := upF u.fl i (some { f with cr := f.cr + cQ u.c }), lv := (backF u.lv).2 }) hq hf (upF_same _ _ _) (fun j e => upF_ne _ _ e) (fun j e => plc_other (upF_ne _ _ e) (by rw [← put_back hh hi]; exact place_putj u.lv 2 (by omega))) ((i : Int), f.cr + cQ u.c, 2, f.nx, f.si, slR (r i)) (by rw [hpi])
          have hs2 : sgs { u with fl := upF u.fl i (some { f with cr := f.cr + cQ u.c }), lv := (backF u.lv).2 } i = f.sg := by
            unfold sgs
            rw [show ({ u with fl := upF u.fl i (some { f with cr := f.cr + cQ u.c }), lv := (backF u.lv).2 } : Qm).fl i = _ from upF_same _ _ _]
          have h := h.sgO r (sgs u) hi8
          rw [q3] at h
          have h := h.sgI r (upR r i ((i : Int), f.cr + cQ u.c, 2, f.nx, f.si, slR (r i))) (sgs u) (sgs { u with fl := upF u.fl i (some { f with cr := f.cr + cQ u.c }), lv := (backF u.lv).2 }) hi8 (fun j e => upR_ne _ _ e) (fun j e => sgs_up u i _ _ _ _ e) (tk := by rw [hs2, upR_same]; infer_instance)
          have hmu := at_mu_credit hA c
          exact next () { u with fl := upF u.fl i (some { f with cr := f.cr + cQ u.c }), lv := (backF u.lv).2 } w ⟨hA.credit c, k, by omega, hR⟩ (h.mkRque b { u with fl := upF u.fl i (some { f with cr := f.cr + cQ u.c }), lv := (backF u.lv).2 } _ t hq2).fin hmu
        have c : ¬ f.cr ≤ 0 := by simpa using c
        rw [if_neg c] at hR
        have hsl : (slR (r i)).len = f.sg.length := by
          have h := h.sgO r (sgs u) hi8
          have := (h.rd (s := slR (r i))).2
          rw [q3] at this; exact this
        refine w_join h (fun _ => blk n1 zS ^ rarr s KU rates ^ lso b (rqP u.c r t) u.lv ^ bigS (sgP r (sgs u)) 8) (fun y : Bool => y = true ↔ f.sg = [] ∧ ((headF u.lv).2.1 = true ∧ u.lv.2 ≠ [])) (fun (y : Bool) w hy h => ?_) ?_
        · refine w_ite (fun c2 => ?_) fun c2 => ?_
          · obtain ⟨e3, e4⟩ := hy.1 c2
            rw [e3] at hR
            simp only at hR
            rw [if_pos e4] at hR
            refine w_call (put_tri b u.c r t u.lv hu.lv i hi8 2 (by decide)) h fun _ w h => ?_
            rw [put_back hh hi] at h
            have hpi : plc { u with lv := (backF u.lv).2 } i = 2 := by
              unfold plc
              rw [← put_back hh hi, place_put2]; rfl
            have hq2 := rq_mk (u' := { u with lv := (backF u.lv).2 }) hq hf hf (fun _ _ => rfl) (fun j e => plc_other rfl (by rw [← put_back hh hi]; exact place_putj u.lv 2 (by omega))) (plR (r i) 2) (by rw [hpi]; show ((r i).1, (r i).2.1, 2, (r i).2.2.2.1, (r i).2.2.2.2.1, slR (r i)) = _; rw [q2])
            rw [← sg_pl r i 2 (sgs u), show sgs u = sgs { u with lv := (backF u.lv).2 } from rfl] at h
            have hmu := at_mu_back hA e4.1
            exact next () { u with lv := (backF u.lv).2 } w ⟨hA.back, k, by omega, hR⟩ (h.mkRque b { u with lv := (backF u.lv).2 } (upR r i (plR (r i) 2)) t hq2).fin hmu
          have c2 : ¬ (f.sg = [] ∧ ((headF u.lv).2.1 = true ∧ u.lv.2 ≠ [])) := fun x => by have := hy.2 x; rw [c2] at this; cases this
          obtain ⟨s1, s2, h⟩ := h.lso b (rqP u.c r t) u.lv
          refine w_deref (w_ld h (rq_at5 u.c r t s1 s2 hi8) ?_)
          refine w_ite (fun c3 => ?_) fun c3 => ?_
          · have c3 : (slR (r i)).len = 0 := by
              have c3 : (((slR (r i)).len : Nat) : Int) = 0 := by simpa using c3
              omega
            have e3 : f.sg = [] := List.eq_nil_of_length_eq_zero (by omega)
            rw [e3] at hR
            simp only at hR
            rw [if_neg (fun x => c2 ⟨e3, x⟩)] at hR
            have h := h.mkLso b (rqP u.c r t) s1 s2 u.lv
            refine w_call (put_tri b u.c r t u.lv hu.lv i hi8 0 (by decide)) h fun _ w h => ?_
            rw [put_drop hh hi (by decide)] at h
            obtain ⟨s1, s2, h⟩ := h.lso b (rqP u.c (upR r i (plR (r i) 0)) t) (dropF u.lv).2
            refine w_deref (w_setTo h b (rqP u.c (upR (upR r i (plR (r i) 0)) i ((upR r i (plR (r i) 0) i).1, (upR r i (plR (r i) 0) i).2.1, (upR r i (plR (r i) 0) i).2.2.1, (upR r i (plR (r i) 0) i).2.2.2.1, now, (upR r i (plR (r i) 0) i).2.2.2.2.2)) t ++ [.sl s1, .sl s2]) rfl (Nat.ble_eq_true_of_le (by show 0 + 9 + i * 6 + 4 + 1 ≤ 67; omega)) (rq_up4 u.c _ t s1 s2 hi8 now) fun w h => ?_)
            have hup : upR (upR r i (plR (r i) 0)) i ((upR r i (plR (r i) 0) i).1, (upR r i (plR (r i) 0) i).2.1, (upR r i (plR (r i) 0) i).2.2.1, (upR r i (plR (r i) 0) i).2.2.2.1, now, (upR r i (plR (r i) 0) i).2.2.2.2.2) = upR r i ((i : Int), f.cr, 0, f.nx, now, slR (r i)) := by
              funext q
              by_cases e : q = i
              · rw [e, upR_same, upR_same, upR_same]
                show ((r i).1, (r i).2.1, 0, (r i).2.2.2.1, now, (r i).2.2.2.2.2) = _
                rw [q2]
              · rw [upR_ne _ _ e, upR_ne _ _ e, upR_ne _ _ e]
            rw [hup] at h
            have h := h.mkLso b (rqP u.c (upR r i ((i : Int), f.cr, 0, f.nx, now, slR (r i))) t) s1 s2 (dropF u.lv).2
            have hpi : plc { u with lv := (dropF u.lv).2, fl := upF u.fl i (some { f with si := now }) } i = 0 := by
              unfold plc
              rw [← put_drop hh hi (p := 0) (by decide), place_put0 _ _ (by decide), if_neg (by simp)]
              rw [show ({ u with lv := putL u.lv (i : Int) 0, fl := upF u.fl i (some { f with si := now }) } : Qm).fl i = _ from upF_same _ _ _]
              exact if_pos e3
            have hq2 := rq_mk (u' := { u with lv := (dropF u.lv).2, fl := upF u.fl i (some { f with si := now }) }) hq hf (upF_same _ _ _) (fun j e => upF_ne _ _ e) (fun j e => plc_other (upF_ne _ _ e) (by rw [← put_drop hh hi (p := 0) (by decide)]; exact place_putj u.lv 0 (by omega))) ((i : Int), f.cr, 0, f.nx, now, slR (r i)) (by rw [hpi])
            have hs2 : sgs { u with lv := (dropF u.lv).2, fl := upF u.fl i (some { f with si := now }) } i = f.sg := by
              unfold sgs
              rw [show ({ u with lv := (dropF u.lv).2, fl := upF u.fl i (some { f with si := now }) } : Qm).fl i = _ from upF_same _ _ _]
            have h := h.sgO r (sgs u) hi8
            rw [q3] at h
            have h := h.sgI r (upR r i ((i : Int), f.cr, 0, f.nx, now, slR (r i))) (sgs u) (sgs { u with lv := (dropF u.lv).2, fl := upF u.fl i (some { f with si := now }) }) hi8 (fun j e => upR_ne _ _ e) (fun j e => sgs_up u i _ _ _ _ e) (tk := by rw [hs2, upR_same]; infer_instance)
            have hmu := at_mu_drop hA (some { f with si := now }) u.ks
            exact next () { u with lv := (dropF u.lv).2, fl := upF u.fl i (some { f with si := now }) } w ⟨hA.nowhere e3 hn, k, by omega, by rw [e3]; exact hR⟩ (h.mkRque b { u with lv := (dropF u.lv).2, fl := upF u.fl i (some { f with si := now }) } _ t hq2).fin hmu
          have c3 : (slR (r i)).len ≠ 0 := by
            have c3 : ¬ (((slR (r i)).len : Nat) : Int) = 0 := by simpa using c3
            omega
          have e3 : f.sg ≠ [] := fun e => by rw [e] at hsl; exact c3 (by simpa using hsl)
          cases hss : f.sg with
          | nil => exact absurd hss e3
          | cons s0 ss =>
          rw [hss] at hR
          simp only at hR
          have q3' := q3
          rw [hss] at q3'
          refine w_deref (w_ld h (rq_at u.c r t s1 s2 hi8) ?_)
          have h := h.sgO r (sgs u) hi8
          rw [q3'] at h
          refine w_callL (Time_tri (r i) s0 ss) h fun x w h => ?_
          obtain ⟨hx, h⟩ := h.purP; rw [hx]
          have e5 : (if sSt s0 > (r i).2.2.2.1 then sSt s0 else (r i).2.2.2.1) = timeF f := by
            have : (r i).2.2.2.1 = f.nx := by rw [q2]
            rw [this]; unfold timeF; rw [hss]
          rw [e5]
          refine w_ite (fun c4 => ?_) fun c4 => ?_
          · have c4 : timeF f > now := by simpa using c4
            rw [if_pos c4] at hR
            obtain ⟨hOk, hnin, hlt⟩ := hA.wait e3
            have h := h.sgI r r (sgs u) (sgs u) hi8 (fun _ _ => rfl) (fun _ _ => rfl) (tk := by rw [q3']; infer_instance)
            have h := h.mkLso b (rqP u.c r t) s1 s2 u.lv
            refine w_call (put_tri b u.c r t u.lv hu.lv i hi8 3 (by decide)) h fun _ w h => ?_
            rw [put_drop hh hi (by decide)] at h
            have hpi : plc { u with lv := (dropF u.lv).2, ks := putK u.ks (timeF f, (i : Int)) } i = 3 := by
              unfold plc
              rw [← put_drop hh hi (p := 3) (by decide), place_put0 _ _ (by decide), if_neg (by simp)]
              rw [show ({ u with lv := putL u.lv (i : Int) 3, ks := putK u.ks (timeF f, (i : Int)) } : Qm).fl i = some f from hf]
              exact if_neg e3
            have hq2 := rq_mk (u' := { u with lv := (dropF u.lv).2, ks := putK u.ks (timeF f, (i : Int)) }) hq hf hf (fun _ _ => rfl) (fun j e => plc_other rfl (by rw [← put_drop hh hi (p := 3) (by decide)]; exact place_putj u.lv 3 (by omega))) (plR (r i) 3) (by rw [hpi]; show ((r i).1, (r i).2.1, 3, (r i).2.2.2.1, (r i).2.2.2.2.1, slR (r i)) = _; rw [q2])
            rw [← sg_pl r i 3 (sgs u), show sgs u = sgs { u with lv := (dropF u.lv).2, ks := putK u.ks (timeF f, (i : Int)) } from rfl] at h
            have hmu := at_mu_drop hA (some f) (putK u.ks (timeF f, (i : Int)))
            rw [upF_id hf] at hmu
            exact next () { u with lv := (dropF u.lv).2, ks := putK u.ks (timeF f, (i : Int)) } w ⟨hOk, k, by omega, hR⟩ (h.mkRque b { u with lv := (dropF u.lv).2, ks := putK u.ks (timeF f, (i : Int)) } (upR r i (plR (r i) 3)) t hq2).fin hmu
          have c4 : ¬ timeF f > now := by simpa using c4
          rw [if_neg c4] at hR
          have hlen := hu.len hf
          have hsln : f.sg.length = ss.length + 1 := by rw [hss]; rfl
          have hUr := U_rateA hr i
          obtain ⟨_, hok2⟩ := hF.sg s0 (by rw [hss]; simp)
          have hln := hok2.ln
          have hL := U_less hUr hu.cf.r
          have hDl := U_delay (n := sLn s0) (by omega) hL
          have hcap := own_cap (s := slR (r i)) (K := KS) (xs := s0 :: ss) h
          refine w_deref (w_ld h (rq_at5 u.c r t s1 s2 hi8) (w_idx (s := slR (r i)) h (by decide) (by simp) (w_ldE h (slR (r i)) 0 (y := s0) rfl rfl ?_)))
          refine w_new h fun n47 w h => w_setAll h (by rfl) fun w h => w_deref (w_ld h (rq_at5 u.c r t s1 s2 hi8) ?_)
          refine w_slc (s := slR (r i)) h 1 (slR (r i)).len (slR (r i)).cap rfl rfl rfl rfl (by omega) (by rw [hsl, hss]; exact Nat.le_refl _) (by omega) (by omega) fun s50 _ _ h => ?_
          have ht : ((s0 :: ss).take (slR (r i)).len).drop 1 = ss := by rw [List.take_of_length_le (by rw [hsl, hss]; exact Nat.le_refl _)]; rfl
          rw [ht] at h
          have h := h.nil KS
          refine w_app (K := KS) (s := ⟨none, 0, 0⟩) (x := s50) (xs := []) (ys := ss) h rfl (by simp only [List.length_nil]; omega) fun s51 w _ h => ?_
          have h := h.arrEq (s := s51) (K := KS) (ys := ss) rfl
          obtain ⟨r1, hr1⟩ : ∃ r1, r1 = upR r i ((r i).1, (r i).2.1, (r i).2.2.1, (r i).2.2.2.1, (r i).2.2.2.2.1, s51) := ⟨_, rfl⟩
          refine w_deref (w_setTo h b (rqP u.c r1 t ++ [.sl s1, .sl s2]) rfl (Nat.ble_eq_true_of_le (by show 0 + 9 + i * 6 + 5 + 1 ≤ 67; omega)) (by rw [hr1]; exact rq_up5 u.c r t s1 s2 hi8 s51) fun w h => ?_)
          have hr1i : r1 i = ((i : Int), f.cr, plc u i, f.nx, f.si, s51) := by rw [hr1, upR_same, q2]
          have hcw : IntKind.i64.wrap (f.cr - sLn s0) = f.cr - sLn s0 := wi (by omega) (by omega)
          have e11 : (r1 i).2.1 = f.cr := by rw [hr1i]
          refine w_drw h fun w h => w_deref (w_ld h rfl (w_ld h (rq_at1 u.c r1 t s1 s2 hi8) (w_deref ?_)))
          rw [e11]
          rw [show IntKind.i64.wrap (f.cr - s0.2.2.1) = f.cr - sLn s0 from hcw]
          obtain ⟨r2, hr2⟩ : ∃ r2, r2 = upR r1 i ((r1 i).1, f.cr - sLn s0, (r1 i).2.2.1, (r1 i).2.2.2.1, (r1 i).2.2.2.2.1, (r1 i).2.2.2.2.2) := ⟨_, rfl⟩
          refine w_setTo h b (rqP u.c r2 t ++ [.sl s1, .sl s2]) rfl (Nat.ble_eq_true_of_le (by show 0 + 9 + i * 6 + 1 + 1 ≤ 67; omega)) (by rw [hr2]; exact rq_up1 u.c r1 t s1 s2 hi8 _) fun w h => ?_
          have hr2i : r2 i = ((i : Int), f.cr - sLn s0, plc u i, f.nx, f.si, s51) := by rw [hr2, upR_same, hr1i]
          refine w_drw h fun w h => w_ld h rfl (w_deref (w_ld h rfl (w_callL (rate_tri s rates i) h fun x w h => ?_)))
          obtain ⟨hx, h⟩ := h.purP; rw [hx]
          refine w_chk h rfl (w_chk h rfl (w_call (rless_tri _ (cR u.c) hUr hu.cf.r) h fun x w h => ?_))
          obtain ⟨hx, h⟩ := h.purP; rw [hx]
          refine w_chk h rfl (w_call (rdelay_tri (sLn s0) _ (by omega) hL) h fun x w h => ?_)
          obtain ⟨hx, h⟩ := h.purP; rw [hx]
          refine w_call (radd_tri now _ hn hDl) h fun x w h => ?_
          obtain ⟨hx, h⟩ := h.purP; rw [hx]
          obtain ⟨r3, hr3⟩ : ∃ r3, r3 = upR r2 i ((r2 i).1, (r2 i).2.1, (r2 i).2.2.1, addI now (delayI (sLn s0) (lessI (rateA rates i) (cR u.c))), (r2 i).2.2.2.2.1, (r2 i).2.2.2.2.2) := ⟨_, rfl⟩
          refine w_deref (w_setTo h b (rqP u.c r3 t ++ [.sl s1, .sl s2]) rfl (Nat.ble_eq_true_of_le (by show 0 + 9 + i * 6 + 3 + 1 ≤ 67; omega)) (by rw [hr3]; exact rq_up3 u.c r2 t s1 s2 hi8 _) fun w h => ?_)
          have hr3e : r3 = upR r i ((i : Int), f.cr - sLn s0, plc u i, addI now (delayI (sLn s0) (lessI (rateA rates i) (cR u.c))), f.si, s51) := by
            funext q
            by_cases e : q = i
            · rw [e, upR_same, hr3, upR_same, hr2i]
            · rw [upR_ne _ _ e, hr3, upR_ne _ _ e, hr2, upR_ne _ _ e, hr1, upR_ne _ _ e]
          rw [hr3e] at h
          have h := h.mkLso b (rqP u.c (upR r i ((i : Int), f.cr - sLn s0, plc u i, addI now (delayI (sLn s0) (lessI (rateA rates i) (cR u.c))), f.si, s51)) t) s1 s2 u.lv
          refine w_ldAll (b := n47) (x := s0) h rfl (w_setAll h (by rfl) fun w h => w_ldAll (b := n1) (x := s0) h rfl ?_)
          have hpi : plc (sentF u i f s0 now (rateA rates i)) i = plc u i := by
            have h1 := place_in.2 hA.inl
            unfold plc
            rw [if_pos h1]
            exact (if_pos h1).symm
          have hq2 := rq_mk (u' := sentF u i f s0 now (rateA rates i)) hq hf (upF_same _ _ _) (fun j e => upF_ne _ _ e) (fun j e => plc_other (upF_ne _ _ e) rfl) ((i : Int), f.cr - sLn s0, plc u i, addI now (delayI (sLn s0) (lessI (rateA rates i) (cR u.c))), f.si, s51) (by rw [hpi])
          have hs2 : sgs (sentF u i f s0 now (rateA rates i)) i = ss := by
            unfold sgs
            rw [show (sentF u i f s0 now (rateA rates i)).fl i = _ from upF_same _ _ _]
            show f.sg.tail = ss
            rw [hss]; rfl
          have h := h.sgI r (upR r i ((i : Int), f.cr - sLn s0, plc u i, addI now (delayI (sLn s0) (lessI (rateA rates i) (cR u.c))), f.si, s51)) (sgs u) (sgs (sentF u i f s0 now (rateA rates i))) hi8 (fun j e => upR_ne _ _ e) (fun j e => sgs_up u i _ _ _ _ e) (tk := by rw [hs2, upR_same]; infer_instance)
          rw [← hR]
          exact Own.retP rfl (h.mkRque b (sentF u i f s0 now (rateA rates i)) _ t hq2).fin
        · refine w_deref (w_ld h (rq_at5 u.c r t s1 s2 hi8) ?_)
          have hs2l := (h.rd (s := s2)).2
          refine w_ite (fun c2 => ?_) fun c2 => ?_
          · simp only [Bool.and_eq_true, beq_iff_eq] at c2
            obtain ⟨c2, c3⟩ := c2
            have c2 : (slR (r i)).len = 0 := by have c2 : (((slR (r i)).len : Nat) : Int) = 0 := c2; omega
            have e3 : f.sg = [] := List.eq_nil_of_length_eq_zero (by omega)
            refine w_deref (w_ld (x := s2) h rfl ?_)
            refine ⟨?_, (h.mkLso b (rqP u.c r t) s1 s2 u.lv).fin⟩
            show decide (((s2.len : Nat) : Int) > 0) = true ↔ _
            rw [decide_eq_true_eq, hs2l]
            constructor
            · intro x
              exact ⟨e3, c3, fun e => by rw [e] at x; simp at x⟩
            · rintro ⟨_, _, x⟩
              have : u.lv.2.length ≠ 0 := fun e => x (List.eq_nil_of_length_eq_zero e)
              omega
          · refine ⟨?_, (h.mkLso b (rqP u.c r t) s1 s2 u.lv).fin⟩
            refine ⟨fun e => (by cases e), fun ⟨e1, e2, _⟩ => ?_⟩
            rw [e1] at hsl
            have : (slR (r i)).len = 0 := by simpa using hsl
            rw [e2, this] at c2
            cases c2
    · obtain ⟨r, t, hq, h⟩ := h.rque b v
      refine w_call (first_tri b v hv r t hq) h fun x w h => ?_
      obtain ⟨hx, h⟩ := h.purP; rw [hx]
      have h : Own w0 S R w (blk n1 zS ^ rarr s KU rates ^ rque b v) := (h.mkRque b v r t hq).fin
      refine w_loopE (fun (_ : Int) (u : Qm) => blk n1 zS ^ rarr s KU rates ^ rque b u) (fun (y : Int) u => (OkQ u ∧ dueF u now = dueF v now) ∧ y = firstF u) (fun _ u => u.ks.length) v h ⟨⟨hv, rfl⟩, rfl⟩ ?_
      rintro K (y : Int) u w ⟨⟨hu, hd⟩, hy⟩ h next
      rw [hy]
      refine w_join h (fun _ => blk n1 zS ^ rarr s KU rates ^ rque b u) (fun _ => ∃ k l, u.ks = k :: l ∧ k.1 ≤ now) (fun _ w hx h => ?_) ?_
      · obtain ⟨k, l, hk, hkn⟩ := hx
        obtain ⟨i, f, hf, hs, hni, he⟩ := (hu.ks k).1 (by rw [hk]; simp)
        have hi8 := (hu.fl i f hf).1
        have hk2 : k.2 = (i : Int) := by rw [he]
        have hfi : firstF u = (i : Int) := by unfold firstF; rw [hk]; exact hk2
        obtain ⟨r, t, hq, h⟩ := h.rque b u
        obtain ⟨q1, q2, q3⟩ := hq.some hi8 hf
        rw [hfi]
        refine w_call (put_tri b u.c r t u.lv hu.lv i hi8 2 (by decide)) h fun _ w h => ?_
        have hpo : putL u.lv (i : Int) 2 = (oneDue u k l).lv := by
          unfold putL outF oneDue
          unfold inL at hni
          rw [List.mem_append] at hni
          have g : ∀ L : List Int, (i : Int) ∉ L → L.filter (fun x => decide (x ≠ (i : Int))) = L := fun L hL => by
            rw [List.filter_eq_self]
            intro x hx
            have : x ≠ (i : Int) := fun e => hL (e ▸ hx)
            simpa using this
          rw [if_pos rfl, g _ (fun e => hni (.inl e)), g _ (fun e => hni (.inr e)), hk2]
        rw [hpo] at h
        have hpi : plc (oneDue u k l) i = 2 := by
          unfold plc
          rw [← hpo, place_put2]; rfl
        have hq2 := rq_mk (u' := oneDue u k l) hq hf hf (fun _ _ => rfl) (fun j e => plc_other rfl (by rw [← hpo]; exact place_putj u.lv 2 (by omega))) (plR (r i) 2) (by rw [hpi]; show ((r i).1, (r i).2.1, 2, (r i).2.2.2.1, (r i).2.2.2.2.1, slR (r i)) = _; rw [q2])
        rw [← sg_pl r i 2 (sgs u), show sgs u = sgs (oneDue u k l) from rfl] at h
        have hok := due_ok1 hu hk
        refine w_call (first_tri b (oneDue u k l) hok (upR r i (plR (r i) 2)) t hq2) h fun x w h => ?_
        obtain ⟨hx, h⟩ := h.purP; rw [hx]
        exact next (firstF (oneDue u k l)) (oneDue u k l) w ⟨⟨hok, by rw [due_step hk hkn, hd]⟩, rfl⟩ (h.mkRque b (oneDue u k l) (upR r i (plR (r i) 2)) t hq2).fin (by rw [hk]; simp)
      · have stop : ∀ {w : World}, (∀ k ∈ u.ks, ¬ k.1 ≤ now) → Own w0 S R w (blk n1 zS ^ rarr s KU rates ^ rque b u) → True ∧ Own w0 S R w (blk n1 zS ^ rarr s KU rates ^ rque b (dueF v now)) := fun {w} hno h => by
          rw [← hd, due_none hno]
          exact ⟨trivial, h⟩
        cases hk : u.ks with
        | nil =>
          have e : firstF u = -1 := by unfold firstF; rw [hk]
          rw [e]
          refine w_ite (fun c => (by cases c)) fun _ => stop (fun k hk2 => by rw [hk] at hk2; cases hk2) h
        | cons k l =>
          obtain ⟨i, f, hf, hs, hni, he⟩ := (hu.ks k).1 (by rw [hk]; simp)
          have hi8 := (hu.fl i f hf).1
          have hk2 : k.2 = (i : Int) := by rw [he]
          have hk1 : k.1 = timeF f := by rw [he]
          have hfi : firstF u = (i : Int) := by unfold firstF; rw [hk]; exact hk2
          rw [hfi]
          refine w_ite (fun _ => ?_) fun c => ?_
          · obtain ⟨r, t, hq, h⟩ := h.rque b u
            obtain ⟨q1, q2, q3⟩ := hq.some hi8 hf
            obtain ⟨s1, s2, h⟩ := h.lso b (rqP u.c r t) u.lv
            refine w_deref ⟨by omega, ?_⟩
            rw [Int.toNat_natCast]
            refine w_ld h (rq_at u.c r t s1 s2 hi8) ?_
            cases hss : f.sg with
            | nil => exact absurd hss hs
            | cons a1 l1 =>
            rw [hss] at q3
            have h := h.sgO r (sgs u) hi8
            rw [q3] at h
            refine w_callL (Time_tri (r i) a1 l1) h fun x w h => ?_
            obtain ⟨hx, h⟩ := h.purP; rw [hx]
            have h := h.sgI r r (sgs u) (sgs u) hi8 (fun _ _ => rfl) (fun _ _ => rfl) (tk := by rw [q3]; infer_instance)
            have h := h.mkLso b (rqP u.c r t) s1 s2 u.lv
            have h : Own w0 S R w (blk n1 zS ^ rarr s KU rates ^ rque b u) := (h.mkRque b u r t hq).fin
            have e5 : (if sSt a1 > (r i).2.2.2.1 then sSt a1 else (r i).2.2.2.1) = k.1 := by
              have : (r i).2.2.2.1 = f.nx := by rw [q2]
              rw [this, hk1]; unfold timeF; rw [hss]
            rw [e5]
            refine w_ite (fun c => ⟨⟨k, l, rfl, by simpa using c⟩, h⟩) fun c => ?_
            have c : ¬ k.1 ≤ now := by simpa using c
            refine stop (fun q hq2 => ?_) h
            rw [hk] at hq2
            rcases List.mem_cons.1 hq2 with rfl | hq2
            · exact c
            · have hsr := hu.srt
              rw [hk] at hsr
              have := (List.pairwise_cons.1 hsr).1 q hq2
              rw [klt_iff] at this
              omega
          · exfalso
            simp at c
end FqY


end Go.X
