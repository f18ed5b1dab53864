/- Contracts and plain facts: BbrV. -/
import Derived.Test.YteeabliibhedoaaBPlain
import Derived.Test.YteeabliibhedoaaBArith
import Derived.Test.YteeabliibhedoaaBArithC
import Derived.Test.YteeabliibhedoaaBTarget
import Derived.Test.YteeabliibhedoaaBBbrM
import Derived.Test.YteeabliibhedoaaBBbrW
import Derived.Test.YteeabliibhedoaaXw
import Derived.Test.YteeabliibhedoaaK
import Derived.Test.YteeabliibhedoaaF0
import Derived.Test.YteeabliibhedoaaF1
set_option linter.unusedVariables false
set_option linter.unusedSimpArgs false
set_option linter.unusedSectionVars false
namespace Go.X
open Go.Proofs
namespace BbrV
open Arith ArithC _root_.Go.X.Target BbrM BbrW
theorem vnew_tri (w : Int) : Tri Try.prog N_canterref08_NewWin [.lf (.int .u64 w), .lf (.bool false)] [.lf .ptr] emp (fun r => ex fun n : Nat => pur (r = some ⟨n, 0⟩) (blk n [.int .u64 (Wn.mk w 0 0 0 0 0 0 0).w, .int .u64 (Wn.mk w 0 0 0 0 0 0 0).t0, .int .u64 (Wn.mk w 0 0 0 0 0 0 0).t1, .int .u64 (Wn.mk w 0 0 0 0 0 0 0).t2, .int .u64 (Wn.mk w 0 0 0 0 0 0 0).v0, .int .u64 (Wn.mk w 0 0 0 0 0 0 0).v1, .int .u64 (Wn.mk w 0 0 0 0 0 0 0).v2, .int .u64 (Wn.mk w 0 0 0 0 0 0 0).la, .bool false])) :=
  tri_0 (call_canterref08_NewWin w false) fun w0 S R h => by
    unfold W_canterref08_NewWin
    refine w_new h fun n w h => ?_
    refine w_ite (fun c => (by cases c)) fun _ => ?_
    exact Own.retE n (Own.retP rfl h.fin)
def vAt (v : Wn) (i : Int) : Int := if i = 0 then v.v0 else if i = 1 then v.v1 else v.v2
theorem beats_tri (b : Nat) (v : Wn) (x i : Int) (hi : i = 0 ∨ i = 1 ∨ i = 2) : Tri Try.prog N_canterref08_Win_beats [.lf (.ptr (some ⟨b, 0⟩)), .lf (.int .u64 x), .lf (.int .i64 i)] [.lf .bool] (blk b [.int .u64 v.w, .int .u64 v.t0, .int .u64 v.t1, .int .u64 v.t2, .int .u64 v.v0, .int .u64 v.v1, .int .u64 v.v2, .int .u64 v.la, .bool false]) (fun r => pur (r = decide (x ≥ vAt v i)) (blk b [.int .u64 v.w, .int .u64 v.t0, .int .u64 v.t1, .int .u64 v.t2, .int .u64 v.v0, .int .u64 v.v1, .int .u64 v.v2, .int .u64 v.la, .bool false])) :=
  tri_0 (call_canterref08_Win_beats _ x i) fun w0 S R h => by
    unfold W_canterref08_Win_beats
    refine w_deref (w_ld h rfl ?_)
    refine w_ite (fun c => (by cases c)) fun _ => w_deref ⟨by omega, ?_⟩
    rcases hi with rfl | rfl | rfl
    · exact w_ld h rfl (Own.retP rfl h.fin)
    · exact w_ld h rfl (Own.retP rfl h.fin)
    · exact w_ld h rfl (Own.retP rfl h.fin)
def vSet (v : Wn) (i t x : Int) : Wn := if i = 1 then { v with t1 := t, v1 := x } else { v with t2 := t, v2 := x }
theorem set_tri (b : Nat) (v : Wn) (i t x : Int) (hi : i = 1 ∨ i = 2) : Tri Try.prog N_canterref08_Win_set [.lf (.ptr (some ⟨b, 0⟩)), .lf (.int .i64 i), .lf (.int .u64 t), .lf (.int .u64 x)] [] (blk b [.int .u64 v.w, .int .u64 v.t0, .int .u64 v.t1, .int .u64 v.t2, .int .u64 v.v0, .int .u64 v.v1, .int .u64 v.v2, .int .u64 v.la, .bool false]) (fun _ => blk b [.int .u64 (vSet v i t x).w, .int .u64 (vSet v i t x).t0, .int .u64 (vSet v i t x).t1, .int .u64 (vSet v i t x).t2, .int .u64 (vSet v i t x).v0, .int .u64 (vSet v i t x).v1, .int .u64 (vSet v i t x).v2, .int .u64 (vSet v i t x).la, .bool false]) :=
  tri_0 (call_canterref08_Win_set _ i t x) fun w0 S R h => by
    unfold W_canterref08_Win_set
    refine w_drw h fun w h => w_deref (w_deref ⟨by omega, ?_⟩)
    rcases hi with rfl | rfl
    · refine w_setTo h b [.int .u64 ({ v with t1 := t }).w, .int .u64 ({ v with t1 := t }).t0, .int .u64 ({ v with t1 := t }).t1, .int .u64 ({ v with t1 := t }).t2, .int .u64 ({ v with t1 := t }).v0, .int .u64 ({ v with t1 := t }).v1, .int .u64 ({ v with t1 := t }).v2, .int .u64 ({ v with t1 := t }).la, .bool false] rfl rfl rfl fun w h => ⟨by omega, ?_⟩
      refine w_setTo h b [.int .u64 ({ v with t1 := t, v1 := x }).w, .int .u64 ({ v with t1 := t, v1 := x }).t0, .int .u64 ({ v with t1 := t, v1 := x }).t1, .int .u64 ({ v with t1 := t, v1 := x }).t2, .int .u64 ({ v with t1 := t, v1 := x }).v0, .int .u64 ({ v with t1 := t, v1 := x }).v1, .int .u64 ({ v with t1 := t, v1 := x }).v2, .int .u64 ({ v with t1 := t, v1 := x }).la, .bool false] rfl rfl rfl fun w h => ?_
      exact Own.keep (A := blk b [.int .u64 (vSet v 1 t x).w, .int .u64 (vSet v 1 t x).t0, .int .u64 (vSet v 1 t x).t1, .int .u64 (vSet v 1 t x).t2, .int .u64 (vSet v 1 t x).v0, .int .u64 (vSet v 1 t x).v1, .int .u64 (vSet v 1 t x).v2, .int .u64 (vSet v 1 t x).la, .bool false]) h
    · refine w_setTo h b [.int .u64 ({ v with t2 := t }).w, .int .u64 ({ v with t2 := t }).t0, .int .u64 ({ v with t2 := t }).t1, .int .u64 ({ v with t2 := t }).t2, .int .u64 ({ v with t2 := t }).v0, .int .u64 ({ v with t2 := t }).v1, .int .u64 ({ v with t2 := t }).v2, .int .u64 ({ v with t2 := t }).la, .bool false] rfl rfl rfl fun w h => ⟨by omega, ?_⟩
      refine w_setTo h b [.int .u64 ({ v with t2 := t, v2 := x }).w, .int .u64 ({ v with t2 := t, v2 := x }).t0, .int .u64 ({ v with t2 := t, v2 := x }).t1, .int .u64 ({ v with t2 := t, v2 := x }).t2, .int .u64 ({ v with t2 := t, v2 := x }).v0, .int .u64 ({ v with t2 := t, v2 := x }).v1, .int .u64 ({ v with t2 := t, v2 := x }).v2, .int .u64 ({ v with t2 := t, v2 := x }).la, .bool false] rfl rfl rfl fun w h => ?_
      exact Own.keep (A := blk b [.int .u64 (vSet v 2 t x).w, .int .u64 (vSet v 2 t x).t0, .int .u64 (vSet v 2 t x).t1, .int .u64 (vSet v 2 t x).t2, .int .u64 (vSet v 2 t x).v0, .int .u64 (vSet v 2 t x).v1, .int .u64 (vSet v 2 t x).v2, .int .u64 (vSet v 2 t x).la, .bool false]) h
theorem shift_tri (b : Nat) (v : Wn) (t x : Int) : Tri Try.prog N_canterref08_Win_shift [.lf (.ptr (some ⟨b, 0⟩)), .lf (.int .u64 t), .lf (.int .u64 x)] [] (blk b [.int .u64 v.w, .int .u64 v.t0, .int .u64 v.t1, .int .u64 v.t2, .int .u64 v.v0, .int .u64 v.v1, .int .u64 v.v2, .int .u64 v.la, .bool false]) (fun _ => blk b [.int .u64 (v.push t x).w, .int .u64 (v.push t x).t0, .int .u64 (v.push t x).t1, .int .u64 (v.push t x).t2, .int .u64 (v.push t x).v0, .int .u64 (v.push t x).v1, .int .u64 (v.push t x).v2, .int .u64 (v.push t x).la, .bool false]) :=
  tri_0 (call_canterref08_Win_shift _ t x) fun w0 S R h => by
    unfold W_canterref08_Win_shift
    refine w_drw h fun w h => w_deref (w_deref (w_deref (w_deref ⟨by decide, by decide, by decide, by decide, w_ld h rfl (w_ld h rfl (w_ld h rfl (w_ld h rfl (w_deref ?_))))⟩)))
    refine w_setTo h b [.int .u64 ({ v with t0 := v.t1, t1 := v.t2, t2 := t }).w, .int .u64 ({ v with t0 := v.t1, t1 := v.t2, t2 := t }).t0, .int .u64 ({ v with t0 := v.t1, t1 := v.t2, t2 := t }).t1, .int .u64 ({ v with t0 := v.t1, t1 := v.t2, t2 := t }).t2, .int .u64 ({ v with t0 := v.t1, t1 := v.t2, t2 := t }).v0, .int .u64 ({ v with t0 := v.t1, t1 := v.t2, t2 := t }).v1, .int .u64 ({ v with t0 := v.t1, t1 := v.t2, t2 := t }).v2, .int .u64 ({ v with t0 := v.t1, t1 := v.t2, t2 := t }).la, .bool false] rfl rfl rfl fun w h => w_deref ?_
    refine w_setTo h b [.int .u64 (v.push t x).w, .int .u64 (v.push t x).t0, .int .u64 (v.push t x).t1, .int .u64 (v.push t x).t2, .int .u64 (v.push t x).v0, .int .u64 (v.push t x).v1, .int .u64 (v.push t x).v2, .int .u64 (v.push t x).la, .bool false] rfl rfl rfl fun w h => ?_
    exact h.keep
theorem vreset_tri (b : Nat) (v : Wn) (t x : Int) : Tri Try.prog N_canterref08_Win_Reset [.lf (.ptr (some ⟨b, 0⟩)), .lf (.int .u64 t), .lf (.int .u64 x)] [] (blk b [.int .u64 v.w, .int .u64 v.t0, .int .u64 v.t1, .int .u64 v.t2, .int .u64 v.v0, .int .u64 v.v1, .int .u64 v.v2, .int .u64 v.la, .bool false]) (fun _ => blk b [.int .u64 ((v.tick t).all t x).w, .int .u64 ((v.tick t).all t x).t0, .int .u64 ((v.tick t).all t x).t1, .int .u64 ((v.tick t).all t x).t2, .int .u64 ((v.tick t).all t x).v0, .int .u64 ((v.tick t).all t x).v1, .int .u64 ((v.tick t).all t x).v2, .int .u64 ((v.tick t).all t x).la, .bool false]) :=
  tri_0 (call_canterref08_Win_Reset _ t x) fun w0 S R h => by
    unfold W_canterref08_Win_Reset
    refine w_deref (w_setTo h b [.int .u64 ({ v with t0 := t, t1 := t, t2 := t }).w, .int .u64 ({ v with t0 := t, t1 := t, t2 := t }).t0, .int .u64 ({ v with t0 := t, t1 := t, t2 := t }).t1, .int .u64 ({ v with t0 := t, t1 := t, t2 := t }).t2, .int .u64 ({ v with t0 := t, t1 := t, t2 := t }).v0, .int .u64 ({ v with t0 := t, t1 := t, t2 := t }).v1, .int .u64 ({ v with t0 := t, t1 := t, t2 := t }).v2, .int .u64 ({ v with t0 := t, t1 := t, t2 := t }).la, .bool false] rfl rfl rfl fun w h => ?_)
    refine w_deref (w_setTo h b [.int .u64 (v.all t x).w, .int .u64 (v.all t x).t0, .int .u64 (v.all t x).t1, .int .u64 (v.all t x).t2, .int .u64 (v.all t x).v0, .int .u64 (v.all t x).v1, .int .u64 (v.all t x).v2, .int .u64 (v.all t x).la, .bool false] rfl rfl rfl fun w h => ?_)
    refine w_deref (w_ld h rfl (w_deref ?_))
    refine w_setTo h b [.int .u64 ((v.tick t).all t x).w, .int .u64 ((v.tick t).all t x).t0, .int .u64 ((v.tick t).all t x).t1, .int .u64 ((v.tick t).all t x).t2, .int .u64 ((v.tick t).all t x).v0, .int .u64 ((v.tick t).all t x).v1, .int .u64 ((v.tick t).all t x).v2, .int .u64 ((v.tick t).all t x).la, .bool false] rfl rfl rfl fun w h => ?_
    exact h.keep
theorem rupd_tri (b : Nat) (v : Wn) (hv : OkW v) (t x : Int) (ht : U t) (hx : U x) : Tri Try.prog N_canterref08_Win_Update [.lf (.ptr (some ⟨b, 0⟩)), .lf (.int .u64 t), .lf (.int .u64 x)] [.lf (.int .u64)] (blk b [.int .u64 v.w, .int .u64 v.t0, .int .u64 v.t1, .int .u64 v.t2, .int .u64 v.v0, .int .u64 v.v1, .int .u64 v.v2, .int .u64 v.la, .bool false])
    (fun r => pur (r = (wUpd v t x).v0) (blk b [.int .u64 (wUpd v t x).w, .int .u64 (wUpd v t x).t0, .int .u64 (wUpd v t x).t1, .int .u64 (wUpd v t x).t2, .int .u64 (wUpd v t x).v0, .int .u64 (wUpd v t x).v1, .int .u64 (wUpd v t x).v2, .int .u64 (wUpd v t x).la, .bool false])) :=
  tri_0 (call_canterref08_Win_Update _ t x) fun w0 S R h => by
    unfold W_canterref08_Win_Update
    refine w_deref (w_ld h rfl ?_)
    have hT : (if v.la > t then v.la else t) = (v.tick t).la := by
      show _ = if t > v.la then t else v.la
      (repeat' split) <;> omega
    simp only [hT]
    refine w_deref (w_setTo h b [.int .u64 (v.tick t).w, .int .u64 (v.tick t).t0, .int .u64 (v.tick t).t1, .int .u64 (v.tick t).t2, .int .u64 (v.tick t).v0, .int .u64 (v.tick t).v1, .int .u64 (v.tick t).v2, .int .u64 (v.tick t).la, .bool false] rfl rfl rfl fun w h => ?_)
    have hu := hv.tick ht
    have e0 : wUpd v t x = wU (v.tick t) (v.tick t).la x := rfl
    rw [e0]
    generalize v.tick t = u at *
    have hla := hu.la
    have ht2 := hu.t2
    have hw := hu.w
    unfold U at hla ht2 hw
    refine w_join h (fun _ => blk b [.int .u64 u.w, .int .u64 u.t0, .int .u64 u.t1, .int .u64 u.t2, .int .u64 u.v0, .int .u64 u.v1, .int .u64 u.v2, .int .u64 u.la, .bool false] ^ emp) (fun y : Bool => y = decide (x ≥ u.v0 ∨ far u.la u.t2 u.w)) (fun (y : Bool) w hy h => ?_) ?_
    · rw [hy]
      refine w_ite (fun c => ?_) fun c => ?_
      · have c : x ≥ u.v0 ∨ far u.la u.t2 u.w := by simpa using c
        refine w_call (vreset_tri b u u.la x) h fun r w h => ?_
        have e : wU u u.la x = u.all u.la x := by unfold wU; rw [if_pos c]
        rw [e]
        have e2 : u.tick u.la = u := by unfold Wn.tick; simp
        rw [e2] at h
        exact Own.retP rfl h.keep
      have c : ¬ (x ≥ u.v0 ∨ far u.la u.t2 u.w) := by simpa using c
      have e : wU u u.la x = wS2 (wS1 u u.la x) u.la x := by unfold wU; rw [if_neg c]
      rw [e]
      refine w_join h (fun _ => blk b [.int .u64 (wS1 u u.la x).w, .int .u64 (wS1 u u.la x).t0, .int .u64 (wS1 u u.la x).t1, .int .u64 (wS1 u u.la x).t2, .int .u64 (wS1 u u.la x).v0, .int .u64 (wS1 u u.la x).v1, .int .u64 (wS1 u u.la x).v2, .int .u64 (wS1 u u.la x).la, .bool false] ^ emp) (fun _ => True) (fun _ w _ h => ?_) ?_
      · have hs := hu.wS1 hu.la hx
        have hT := hu.la
        generalize u.la = T at *
        generalize wS1 u T x = s at *
        refine w_deref ⟨by decide, w_ld h rfl ?_⟩
        refine w_call (rsub_tri T s.t0 hT hs.t0) h fun r w h => ?_
        obtain ⟨hr, h⟩ := h.purP; rw [hr]
        refine w_join h (fun _ => blk b [.int .u64 (wS2 s T x).w, .int .u64 (wS2 s T x).t0, .int .u64 (wS2 s T x).t1, .int .u64 (wS2 s T x).t2, .int .u64 (wS2 s T x).v0, .int .u64 (wS2 s T x).v1, .int .u64 (wS2 s T x).v2, .int .u64 (wS2 s T x).la, .bool false] ^ emp) (fun _ => True) (fun _ w _ h => ?_) ?_
        · refine w_deref ⟨by decide, w_ld h rfl ?_⟩
          exact Own.retP rfl h.keep
        refine w_deref (w_ld h rfl ?_)
        refine w_ite (fun c1 => ?_) fun c1 => ?_
        · have c1 : far T s.t0 s.w := of_decide_eq_true c1
          refine w_call (shift_tri b s T x) h fun _ w h => ?_
          refine w_drw h fun w h => w_deref (w_deref ⟨by decide, w_ld h rfl (w_ld h rfl ?_)⟩)
          refine w_call (rsub_tri T s.t1 hT hs.t1) h fun r w h => ?_
          obtain ⟨hr, h⟩ := h.purP; rw [hr]
          refine w_chk h rfl ?_
          refine w_ite (fun c2 => ?_) fun c2 => ?_
          · have c2 : far T s.t1 s.w := of_decide_eq_true c2
            refine w_call (shift_tri b (s.push T x) T x) h fun _ w h => ?_
            have e : wS2 s T x = (s.push T x).push T x := by unfold wS2; rw [if_pos c1, if_pos c2]
            rw [e]
            exact ⟨trivial, h.fin⟩
          · have c2 : ¬ far T s.t1 s.w := of_decide_eq_false c2
            have e : wS2 s T x = s.push T x := by unfold wS2; rw [if_pos c1, if_neg c2]
            rw [e]
            exact ⟨trivial, h.fin⟩
        have c1 : ¬ far T s.t0 s.w := of_decide_eq_false c1
        have hf : ∀ k, (wS2 s T x = k) = ((if s.t1 = s.t0 ∧ far T s.t0 (s.w / 4) then s.s12 T x else if s.t2 = s.t1 ∧ far T s.t0 (s.w / 2) then s.s2 T x else s) = k) := fun k => by unfold wS2; rw [if_neg c1]
        have h : Own w0 S R _ (blk b [.int .u64 s.w, .int .u64 s.t0, .int .u64 s.t1, .int .u64 s.t2, .int .u64 s.v0, .int .u64 s.v1, .int .u64 s.v2, .int .u64 s.la, .bool false] ^ emp) := h.fin
        refine w_join h (fun _ => blk b [.int .u64 s.w, .int .u64 s.t0, .int .u64 s.t1, .int .u64 s.t2, .int .u64 s.v0, .int .u64 s.v1, .int .u64 s.v2, .int .u64 s.la, .bool false] ^ emp) (fun y : Bool => y = decide (s.t1 = s.t0 ∧ far T s.t0 (s.w / 4))) (fun (y : Bool) w hy h => ?_) ?_
        · rw [hy]
          refine w_ite (fun c2 => ?_) fun c2 => ?_
          · have c2 : s.t1 = s.t0 ∧ far T s.t0 (s.w / 4) := by simpa using c2
            refine w_call (set_tri b s 1 T x (.inl rfl)) h fun r w h => ?_
            refine w_call (set_tri b (vSet s 1 T x) 2 T x (.inr rfl)) h fun r w h => ?_
            have e : wS2 s T x = s.s12 T x := by rw [hf, if_pos c2]
            rw [e]
            have h : Own w0 S R w (blk b [.int .u64 (s.s12 T x).w, .int .u64 (s.s12 T x).t0, .int .u64 (s.s12 T x).t1, .int .u64 (s.s12 T x).t2, .int .u64 (s.s12 T x).v0, .int .u64 (s.s12 T x).v1, .int .u64 (s.s12 T x).v2, .int .u64 (s.s12 T x).la, .bool false] ^ emp) := h
            exact ⟨trivial, h⟩
          have c2 : ¬ (s.t1 = s.t0 ∧ far T s.t0 (s.w / 4)) := by simpa using c2
          refine w_drw h fun w h => w_deref (w_deref ⟨by decide, by decide, w_ld h rfl (w_ld h rfl ?_)⟩)
          refine w_ite (fun c3 => ?_) fun c3 => ?_
          · have c3 : s.t2 = s.t1 := by simpa using c3
            refine w_deref (w_ld h rfl ?_)
            rw [U2 hs.w]
            refine w_ite (fun c4 => ?_) fun c4 => ?_
            · have c4 : far T s.t0 (s.w / 2) := of_decide_eq_true c4
              refine w_call (set_tri b s 2 T x (.inr rfl)) h fun r w h => ?_
              have e : wS2 s T x = s.s2 T x := by rw [hf, if_neg c2, if_pos ⟨c3, c4⟩]
              rw [e]
              have h : Own w0 S R w (blk b [.int .u64 (s.s2 T x).w, .int .u64 (s.s2 T x).t0, .int .u64 (s.s2 T x).t1, .int .u64 (s.s2 T x).t2, .int .u64 (s.s2 T x).v0, .int .u64 (s.s2 T x).v1, .int .u64 (s.s2 T x).v2, .int .u64 (s.s2 T x).la, .bool false] ^ emp) := h
              exact ⟨trivial, h⟩
            · have c4 : ¬ far T s.t0 (s.w / 2) := of_decide_eq_false c4
              have e : wS2 s T x = s := by rw [hf, if_neg c2, if_neg (fun hh => c4 hh.2)]
              rw [e]
              exact ⟨trivial, h⟩
          · have c3 : ¬ s.t2 = s.t1 := by simpa using c3
            have e : wS2 s T x = s := by rw [hf, if_neg c2, if_neg (fun hh => c3 hh.1)]
            rw [e]
            exact ⟨trivial, h⟩
        · refine w_drw h fun w h => w_deref (w_deref ⟨by decide, by decide, w_ld h rfl (w_ld h rfl ?_)⟩)
          refine w_ite (fun c3 => ?_) fun c3 => ?_
          · have c3 : s.t1 = s.t0 := by simpa using c3
            refine w_deref (w_ld h rfl ?_)
            rw [U4 hs.w]
            exact ⟨by rw [Bool.eq_iff_iff]; simp [c3, far], h⟩
          · have c3 : ¬ s.t1 = s.t0 := by simpa using c3
            exact ⟨by simp [c3], h⟩
      · refine w_call (beats_tri b u x 1 (by omega)) h fun r w h => ?_
        obtain ⟨hr, h⟩ := h.purP; rw [hr]
        refine w_ite (fun c1 => ?_) fun c1 => ?_
        · have c1 : x ≥ u.v1 := of_decide_eq_true c1
          refine w_call (set_tri b u 1 u.la x (.inl rfl)) h fun r w h => ?_
          refine w_call (set_tri b (vSet u 1 u.la x) 2 u.la x (.inr rfl)) h fun r w h => ?_
          have e : wS1 u u.la x = u.s12 u.la x := by unfold wS1; rw [if_pos c1]
          rw [e]
          have h : Own w0 S R w (blk b [.int .u64 (u.s12 u.la x).w, .int .u64 (u.s12 u.la x).t0, .int .u64 (u.s12 u.la x).t1, .int .u64 (u.s12 u.la x).t2, .int .u64 (u.s12 u.la x).v0, .int .u64 (u.s12 u.la x).v1, .int .u64 (u.s12 u.la x).v2, .int .u64 (u.s12 u.la x).la, .bool false] ^ emp) := h
          exact ⟨trivial, h⟩
        have c1 : ¬ x ≥ u.v1 := of_decide_eq_false c1
        refine w_call (beats_tri b u x 2 (by omega)) h fun r w h => ?_
        obtain ⟨hr, h⟩ := h.purP; rw [hr]
        refine w_ite (fun c2 => ?_) fun c2 => ?_
        · have c2 : x ≥ u.v2 := of_decide_eq_true c2
          refine w_call (set_tri b u 2 u.la x (.inr rfl)) h fun r w h => ?_
          have e : wS1 u u.la x = u.s2 u.la x := by unfold wS1; rw [if_neg c1, if_pos c2]
          rw [e]
          have h : Own w0 S R w (blk b [.int .u64 (u.s2 u.la x).w, .int .u64 (u.s2 u.la x).t0, .int .u64 (u.s2 u.la x).t1, .int .u64 (u.s2 u.la x).t2, .int .u64 (u.s2 u.la x).v0, .int .u64 (u.s2 u.la x).v1, .int .u64 (u.s2 u.la x).v2, .int .u64 (u.s2 u.la x).la, .bool false] ^ emp) := h
          exact ⟨trivial, h⟩
        · have c2 : ¬ x ≥ u.v2 := of_decide_eq_false c2
          have e : wS1 u u.la x = u := by unfold wS1; rw [if_neg c1, if_neg c2]
          rw [e]
          exact ⟨trivial, h⟩
    · refine w_drw h fun w h => ?_
      refine w_call (beats_tri b u x 0 (by omega)) h fun r w h => ?_
      obtain ⟨hr, h⟩ := h.purP; rw [hr]
      refine w_ite (fun c1 => ?_) fun c1 => ?_
      · have c1 : x ≥ u.v0 := of_decide_eq_true c1
        exact ⟨by simp [c1], h⟩
      have c1 : ¬ x ≥ u.v0 := of_decide_eq_false c1
      refine w_deref ⟨by decide, w_ld h rfl ?_⟩
      refine w_ite (fun c2 => ?_) fun c2 => ?_
      · have c2 : u.la > u.t2 := of_decide_eq_true c2
        refine w_deref (w_deref ⟨by decide, w_ld h rfl (w_ld h rfl ?_)⟩)
        rw [wu (n := u.la - u.t2) (by omega) (by omega)]
        have : subI u.la u.t2 = u.la - u.t2 := by unfold subI; rw [if_neg (by omega)]
        exact ⟨by rw [Bool.eq_iff_iff]; simp [c1, far, this], h⟩
      · have c2 : ¬ u.la > u.t2 := of_decide_eq_false c2
        have : ¬ far u.la u.t2 u.w := by unfold far subI; split <;> omega
        exact ⟨by simp [c1, this], h⟩
end BbrV

end Go.X
