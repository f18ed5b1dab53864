/- Contracts and plain facts: FqE. -/
import Derived.Test.YtjahkildlilabaaBPlain
import Derived.Test.YtjahkildlilabaaBArith
import Derived.Test.YtjahkildlilabaaBArithC
import Derived.Test.YtjahkildlilabaaBLists
import Derived.Test.YtjahkildlilabaaBTreeM
import Derived.Test.YtjahkildlilabaaBTreeN
import Derived.Test.YtjahkildlilabaaBTreeA
import Derived.Test.YtjahkildlilabaaBTreeB
import Derived.Test.YtjahkildlilabaaBTreeC
import Derived.Test.YtjahkildlilabaaBTreeD
import Derived.Test.YtjahkildlilabaaBTreeE
import Derived.Test.YtjahkildlilabaaBTreeF
import Derived.Test.YtjahkildlilabaaBFqM
import Derived.Test.YtjahkildlilabaaBFqC
import Derived.Test.YtjahkildlilabaaBFqD
import Derived.Test.YtjahkildlilabaaXw
import Derived.Test.YtjahkildlilabaaK
import Derived.Test.YtjahkildlilabaaF0
import Derived.Test.YtjahkildlilabaaF1
set_option linter.unusedVariables false
set_option linter.unusedSimpArgs false
set_option linter.unusedSectionVars false
namespace Go.X
open Go.Proofs
namespace FqE
open Arith ArithC Lists _root_.Go.X.Tree TreeC TreeD TreeE TreeF FqM FqC FqD
theorem time_tri (a : Nat) (f : Fl) (hf : f.sg ≠ []) : Tri Try.prog N_fq_flow_time [.lf (.ptr (some ⟨a, 0⟩))] [.lf (.int .u64)] (FqC.flow a f) (fun r => pur (r = timeF f) (FqC.flow a f)) :=
  tri_0 (call_fq_flow_time (some ⟨a, 0⟩)) fun w0 S R h => by
    unfold W_fq_flow_time
    obtain ⟨s, h⟩ := h.flow a
    cases hs : f.sg with
    | nil => exact absurd hs hf
    | cons x l =>
      rw [hs] at h
      refine w_drw h fun w h => w_deref (w_deref (w_ld h rfl (w_ld h rfl (w_idx (s := s) h (by decide) (by simp) ?_))))
      refine w_ldA h s 0 3 x rfl rfl (by decide) rfl ?_
      have h := h.mkFl a s f.cr f.nx f.si (x :: l) f (by rw [← hs])
      refine Own.retP ?_ h.fin
      unfold timeF; rw [hs]
theorem key_tri (a : Nat) (f : Fl) (hf : f.sg ≠ []) (i : Int) (hi : 0 ≤ i ∧ i < 8) : Tri Try.prog N_fq_key [.lf (.ptr (some ⟨a, 0⟩)), .lf (.int .i64 i)] [.agg [.int .u64, .int .u64]] (FqC.flow a f) (fun r => pur (r = (timeF f, i)) (FqC.flow a f)) :=
  tri_0 (call_fq_key (some ⟨a, 0⟩) i) fun w0 S R h => by
    unfold W_fq_key
    refine w_new h fun n w h => w_call (time_tri a f hf) h fun r w h => ?_
    obtain ⟨hr, h⟩ := h.purP; rw [hr]
    refine w_setAll h (by rfl) fun w h => w_ldAll (b := n) (x := (timeF f, IntKind.u64.wrap i)) h rfl ?_
    rw [wu (n := i) (by omega) (by omega)]
    exact Own.retP rfl h.fin
theorem send_tri (b : Nat) (p : Nat → Option Pt) (l t : Nat) (v : Qm) (hc : OkC v.c) (hn : 1 ≤ v.n ∧ v.n ≤ 512) (a : Nat) (f : Fl) (i : Nat) (hf : OkF i f) (s : Sg) (ss : List Sg) (hs : f.sg = s :: ss) (hl : f.sg.length ≤ 512) (now rate : Int) (hw : U now) (hr : U rate) :
    Tri Try.prog N_fq_Queue_send [.lf (.ptr (some ⟨b, 0⟩)), .lf (.ptr (some ⟨a, 0⟩)), .lf (.int .u64 now), .lf (.int .u64 rate)] [.agg KS] (blk b (qL v.c p l t v.n) ^ FqC.flow a f)
      (fun r => pur (r = s) (blk b (qL v.c p l t (v.n - 1)) ^ FqC.flow a { f with cr := f.cr - sLn s, nx := addI now (delayI (sLn s) (lessI rate (cR v.c))), sg := f.sg.tail })) :=
  tri_0 (call_fq_Queue_send (some ⟨b, 0⟩) (some ⟨a, 0⟩) now rate) fun w0 S R h => by
    unfold W_fq_Queue_send
    obtain ⟨hok, hok2⟩ := hf.sg s (by rw [hs]; simp)
    have hok3 := hok2.ln
    have hcr := hf.cr
    have hL : U (lessI rate (cR v.c)) := U_less hr hc.r
    have hD : U (delayI (sLn s) (lessI rate (cR v.c))) := U_delay (by omega) hL
    obtain ⟨sl, h⟩ := h.flow a
    have hsl := (h.rd (s := sl)).2
    have hcap := own_cap (s := sl) (K := KS) (xs := f.sg) h
    have hsl' : sl.len = ss.length + 1 := by rw [hsl, hs]; rfl
    refine w_new h fun n1 w h => w_deref (w_ld h rfl (w_idx (s := sl) h (by decide) (by rw [hs]; simp) ?_))
    refine w_ldE h sl 0 (y := s) (by rw [hs]; rfl) rfl (w_new h fun n6 w h => w_setAll h (by rfl) fun w h => w_deref (w_ld h rfl ?_))
    refine w_slc (s := sl) h 1 sl.len sl.cap rfl rfl rfl rfl (by omega) (by omega) (by omega) (by omega) fun s9 h1 h2 h => ?_
    have ht : (f.sg.take sl.len).drop 1 = f.sg.tail := by rw [List.take_of_length_le (by omega), List.drop_one]
    rw [ht] at h
    refine w_deref (w_setTo h a [.int .i64 f.cr, .int .u64 f.nx, .int .u64 f.si, .sl s9] rfl rfl rfl fun w h => ?_)
    have hnw : IntKind.i64.wrap (v.n - 1) = v.n - 1 := wi (by omega) (by omega)
    refine w_deref (w_ld h rfl (w_deref (w_setTo h b (qL v.c p l t (v.n - 1)) rfl rfl (by rw [show qL v.c p l t (v.n - 1) = qL v.c p l t (IntKind.i64.wrap (v.n - 1)) by rw [hnw]]; rfl) fun w h => ?_)))
    have hcw : IntKind.i64.wrap (f.cr - sLn s) = f.cr - sLn s := wi (by omega) (by omega)
    refine w_drw h fun w h => w_deref (w_ld h rfl (w_ld h rfl (w_deref (w_setTo h a [.int .i64 (f.cr - sLn s), .int .u64 f.nx, .int .u64 f.si, .sl s9] rfl rfl (by rw [show ([.int .i64 (f.cr - sLn s), .int .u64 f.nx, .int .u64 f.si, .sl s9] : List Lf) = [.int .i64 (IntKind.i64.wrap (f.cr - sLn s)), .int .u64 f.nx, .int .u64 f.si, .sl s9] by rw [hcw]]; rfl) fun w h => ?_))))
    refine w_drw h fun w h => w_ld h rfl (w_deref (w_ld h rfl (w_call (less_tri rate (cR v.c) hr hc.r) h fun r w h => ?_)))
    obtain ⟨he, h⟩ := h.purP; rw [he]
    refine w_chk h rfl (w_call (delay_tri (sLn s) _ (by omega) hL) h fun r w h => ?_)
    obtain ⟨he, h⟩ := h.purP; rw [he]
    refine w_call (satadd_tri _ _ hw hD) h fun r w h => ?_
    obtain ⟨he, h⟩ := h.purP; rw [he]
    refine w_deref (w_setTo h a [.int .i64 (f.cr - sLn s), .int .u64 (addI now (delayI (sLn s) (lessI rate (cR v.c)))), .int .u64 f.si, .sl s9] rfl rfl rfl fun w h => ?_)
    have h := h.mkFl a s9 (f.cr - sLn s) (addI now (delayI (sLn s) (lessI rate (cR v.c)))) f.si f.sg.tail { f with cr := f.cr - sLn s, nx := addI now (delayI (sLn s) (lessI rate (cR v.c))), sg := f.sg.tail } rfl
    refine w_ldAll (b := n6) (x := s) h rfl (w_setAll h (by rfl) fun w h => w_ldAll (b := n1) (x := s) h rfl ?_)
    exact Own.retP rfl h.fin
def hasF (v : Qm) (i : Int) : Bool := decide (0 ≤ i ∧ i ≤ 7) && (v.fl i.toNat).isSome
theorem has_tri (b : Nat) (p : Nat → Option Pt) (l t : Nat) (v : Qm) (i : Int) : Tri Try.prog N_fq_Queue_has [.lf (.ptr (some ⟨b, 0⟩)), .lf (.int .i64 i)] [.lf .bool] (blk b (qL v.c p l t v.n) ^ lst l v.lv ^ tree 8 t v.ks ^ All8 p v.fl) (fun r => pur (r = hasF v i) (blk b (qL v.c p l t v.n) ^ lst l v.lv ^ tree 8 t v.ks ^ All8 p v.fl)) :=
  tri_0 (call_fq_Queue_has (some ⟨b, 0⟩) i) fun w0 S R h => by
    unfold W_fq_Queue_has hasF
    refine w_ite (fun _ => ?_) fun c => (by simp at c)
    refine w_call (within_tri _ _ _) h fun r w h => ?_
    obtain ⟨hr, h⟩ := h.purP; rw [hr]
    refine w_ite (fun c => ?_) fun c => ?_
    · have c' : 0 ≤ i ∧ i ≤ 7 := of_decide_eq_true c
      refine w_deref ⟨by omega, w_ld h (qL_at _ _ _ _ _ i.toNat (by omega)) ?_⟩
      refine Own.retP ?_ h.fin
      rw [isN h p v.fl (i := i.toNat) (by omega), decide_eq_true c']
      cases v.fl i.toNat <;> rfl
    · refine Own.retP ?_ h.fin
      rw [show decide (0 ≤ i ∧ i ≤ 7) = false from c]; rfl
theorem len_tri (b : Nat) (v : Qm) : Tri Try.prog N_fq_Queue_Len [.lf (.ptr (some ⟨b, 0⟩))] [.lf (.int .i64)] (que b v) (fun r => pur (r = v.n) (que b v)) :=
  tri_0 (call_fq_Queue_Len (some ⟨b, 0⟩)) fun w0 S R h => by
    unfold W_fq_Queue_Len
    refine w_ite (fun c => (by simp at c)) fun _ => ?_
    obtain ⟨p, l, t, h⟩ := h.que b
    refine w_deref (w_ld h rfl ?_)
    exact Own.retP rfl (h.mkQue b p l t v).fin
theorem new_tri (c : Cf) : Tri Try.prog N_fq_New [.agg (Ks.mk KC c)] [.lf .ptr, .lf (.int .i64)] emp (fun r => ex fun b : Nat => pur (r = if may c then (some ⟨b, 0⟩, 0) else (none, 13)) (if may c then que b (newF c) else emp)) :=
  tri_0 (call_fq_New c) fun w0 S R h => by
    unfold W_fq_New
    refine w_new h fun n1 w h => w_ldAll (b := n1) (x := c) h rfl (w_call (may_tri c) h fun r w h => ?_)
    obtain ⟨hr, h⟩ := h.purP; rw [hr]
    refine w_ite (fun c1 => ?_) fun c1 => ?_
    · have c1 : ¬ may c = true := by simpa using c1
      refine Own.retE 0 (Own.retP ?_ ?_)
      · rw [if_neg c1]
      · rw [if_neg c1]; exact h.emp'
    · have c1 : may c = true := by simpa using c1
      refine w_drw h fun w h => w_ldAll (b := n1) (x := c) h rfl (w_call Lists.new_tri h fun r w h => ?_)
      obtain ⟨l, h⟩ := h.exP
      obtain ⟨hr, h⟩ := h.purP; rw [hr]
      refine w_chkAll (b := n1) h (w_call (TreeC.new_tri 8) h fun r w h => ?_)
      obtain ⟨t, h⟩ := h.exP
      obtain ⟨hr, h⟩ := h.purP; rw [hr]
      refine w_chkAll (b := n1) h (w_new h fun b w h => ?_)
      have hA : Own w0 S R w (All8 (fun _ => none) (fun _ => none) ^ tree 8 t [] ^ lst l ([], []) ^ blk b (qL c (fun _ => none) l t 0) ^ emp) := by
        have h : Own w0 S R w (emp ^ emp ^ emp ^ emp ^ emp ^ emp ^ emp ^ emp ^ emp ^ tree 8 t [] ^ lst l ([], []) ^ blk b (qL c (fun _ => none) l t 0) ^ emp) := by
          have h : Own w0 S R w (tree (room 8) t [] ^ lst l ([], []) ^ blk b (qL c (fun _ => none) l t 0) ^ emp) := h.fin
          have hE : ∀ {F : SP}, Own w0 S R w F → Own w0 S R w (emp ^ F) := fun h => h.le ((star_emp _).trans (star_comm _ _))
          exact hE (hE (hE (hE (hE (hE (hE (hE (hE h))))))))
        have hp : ∀ {F : SP}, Le (emp ^ F) (flowP none none ^ F) := star_mono (fun _ _ _ h => ⟨rfl, h⟩) Le.rfl
        have e : All8 (fun _ => none) (fun _ => none) = flowP none none ^ flowP none none ^ flowP none none ^ flowP none none ^ flowP none none ^ flowP none none ^ flowP none none ^ flowP none none ^ emp := rfl
        rw [e]
        refine h.le (Le.trans ?_ (star_assoc' _ _ _))
        refine hp.trans (star_mono Le.rfl (Le.trans ?_ (star_assoc' _ _ _)))
        refine hp.trans (star_mono Le.rfl (Le.trans ?_ (star_assoc' _ _ _)))
        refine hp.trans (star_mono Le.rfl (Le.trans ?_ (star_assoc' _ _ _)))
        refine hp.trans (star_mono Le.rfl (Le.trans ?_ (star_assoc' _ _ _)))
        refine hp.trans (star_mono Le.rfl (Le.trans ?_ (star_assoc' _ _ _)))
        refine hp.trans (star_mono Le.rfl (Le.trans ?_ (star_assoc' _ _ _)))
        refine hp.trans (star_mono Le.rfl (Le.trans ?_ (star_assoc' _ _ _)))
        exact hp.trans (star_mono Le.rfl Le.rfl)
      refine Own.retE b (Own.retP ?_ ?_)
      · rw [if_pos c1]
      · rw [if_pos c1]
        exact (hA.mkQue b (fun _ => none) l t (newF c)).keep
theorem min_tri (b : Nat) (v : Qm) : Tri Try.prog N_fq_Queue_Watchdog [.lf (.ptr (some ⟨b, 0⟩))] [.lf (.int .u64), .lf .bool] (que b v) (fun r => pur (r = ((minF v.ks).1.1, (minF v.ks).2)) (que b v)) :=
  tri_0 (call_fq_Queue_Watchdog (some ⟨b, 0⟩)) fun w0 S R h => by
    unfold W_fq_Queue_Watchdog
    refine w_ite (fun c => (by simp at c)) fun _ => ?_
    obtain ⟨p, l, t, h⟩ := h.que b
    refine w_deref (w_ld h rfl (w_call (TreeF.min_tri t 8 v.ks) h fun r w h => ?_))
    obtain ⟨hr, h⟩ := h.purP; rw [hr]
    refine w_new h fun n w h => w_setAll h (by rfl) fun w h => w_ld h rfl ?_
    exact Own.retP rfl (h.mkQue b p l t v).fin
abbrev KF : Ks := [.int .i64, .int .i64, .int .i64, .int .u64, .int .u64, .sl]
abbrev noF : Int × Int × Int × Int × Int × Sl := (0, 0, 0, 0, 0, ⟨none, 0, 0⟩)
def seenF (v : Qm) (i : Int) (s : Sl) : (Int × Int × Int × Int × Int × Sl) × Bool := if hasF v i then match v.fl i.toNat with
  | some f => ((i, f.cr, plc v i.toNat, f.nx, f.si, s), true)
  | none => (noF, false)
  else (noF, false)
def sgF (v : Qm) (i : Int) : List Sg := if hasF v i then match v.fl i.toNat with
  | some f => f.sg
  | none => []
  else []
theorem flow_tri (b : Nat) (v : Qm) (hv : OkQ v) (i : Int) : Tri Try.prog N_fq_Queue_Flow [.lf (.ptr (some ⟨b, 0⟩)), .lf (.int .i64 i)] [.agg KF, .lf .bool] (que b v) (fun r => ex fun s : Sl => pur (r = seenF v i s) (arr s KS (sgF v i) ^ que b v)) :=
  tri_0 (call_fq_Queue_Flow (some ⟨b, 0⟩) i) fun w0 S R h => by
    unfold W_fq_Queue_Flow
    obtain ⟨p, l, t, h⟩ := h.que b
    refine w_new h fun n1 w h => w_call (has_tri b p l t v i) h fun r w h => ?_
    obtain ⟨hr, h⟩ := h.purP; rw [hr]
    refine w_ite (fun c => ?_) fun c => ?_
    · have c : hasF v i = false := by simpa using c
      refine w_setAll h (by rfl) fun w h => w_ldAll (b := n1) (x := noF) h rfl ?_
      have h := (h.mkQue b p l t v).nil KS
      have e : sgF v i = [] := by unfold sgF; rw [if_neg (by rw [c]; simp)]
      refine Own.retE ⟨none, 0, 0⟩ (Own.retP ?_ ?_)
      · unfold seenF; rw [if_neg (by rw [c]; simp)]
      · rw [e]; exact h.fin
    · have c : hasF v i = true := by simpa using c
      have c' := c
      unfold hasF at c'
      simp only [Bool.and_eq_true, decide_eq_true_eq, Option.isSome_iff_exists] at c'
      obtain ⟨hi, f, hf⟩ := c'
      have e : sgF v i = f.sg := by unfold sgF; rw [if_pos c, hf]
      have hlen := (hv.len hf).2
      refine w_deref ⟨by omega, w_ld h (qL_at _ _ _ _ _ i.toNat (by omega)) (w_drw h fun w h => ?_)⟩
      obtain ⟨a, hp, h1⟩ := h.outF p v.fl (i := i.toNat) (by omega) hf
      rw [hp]
      obtain ⟨s, h⟩ := h1.flow a
      refine w_deref (w_deref (w_deref (w_deref (w_ld h rfl (w_ld h rfl (w_ld h rfl (w_ld h rfl ?_)))))))
      refine w_call (placeO_tri b p l t v hv.lv i (by omega) a s f hf hp) h fun r w h => ?_
      obtain ⟨hr, h⟩ := h.purP; rw [hr]
      refine w_chk h rfl (w_chk h rfl (w_chk h rfl (w_chk h rfl ?_)))
      refine w_callL (clone_tri s f.sg (by omega)) h fun s2 w h => ?_
      refine w_chk h rfl (w_chk h rfl (w_chk h rfl (w_setAll h (by rfl) fun w h => w_ldAll (b := n1) (x := (i, f.cr, plc v i.toNat, f.nx, f.si, s2)) h rfl ?_)))
      have h := h.mkFlow a s f
      have h := h.inF p v.fl (i := i.toNat) (by omega) p v.fl a f (fun _ _ => rfl) (fun _ _ => rfl) hp hf
      have h := h.mkQue b p l t v
      refine Own.retE s2 (Own.retP ?_ ?_)
      · unfold seenF; rw [if_pos c, hf]
      · rw [e]; exact h.fin
end FqE

end Go.X
