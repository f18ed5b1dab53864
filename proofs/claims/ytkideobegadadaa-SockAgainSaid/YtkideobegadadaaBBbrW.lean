/- Contracts and plain facts: BbrP BbrW. -/
import Derived.Test.YtkideobegadadaaBArith
import Derived.Test.YtkideobegadadaaBDelays
import Derived.Test.YtkideobegadadaaBTarget
import Derived.Test.YtkideobegadadaaBBbrMm
import Derived.Test.YtkideobegadadaaXw
import Derived.Test.YtkideobegadadaaK
import Derived.Test.YtkideobegadadaaF0
import Derived.Test.YtkideobegadadaaF1
set_option linter.unusedVariables false
set_option linter.unusedSimpArgs false
set_option linter.unusedSectionVars false
namespace Go.X
open Go.Proofs
namespace BbrP
open Arith ArithC _root_.Go.X.Target BbrM
theorem wnew_tri (w : Int) : Tri Try.prog N_winmax_New [.lf (.int .u64 w)] [.lf .ptr] emp (fun r => ex fun n : Nat => pur (r = some ⟨n, 0⟩) (blk n [.int .u64 (Wn.mk w 0 0 0 0 0 0 0).w, .int .u64 (Wn.mk w 0 0 0 0 0 0 0).t0, .int .u64 (Wn.mk w 0 0 0 0 0 0 0).v0, .int .u64 (Wn.mk w 0 0 0 0 0 0 0).t1, .int .u64 (Wn.mk w 0 0 0 0 0 0 0).v1, .int .u64 (Wn.mk w 0 0 0 0 0 0 0).t2, .int .u64 (Wn.mk w 0 0 0 0 0 0 0).v2, .int .u64 (Wn.mk w 0 0 0 0 0 0 0).la])) :=
  tri_0 (call_winmax_New w) fun w0 S R h => by
    unfold W_winmax_New
    refine w_new h fun n w h => ?_
    exact Own.retE n (Own.retP rfl h.fin)
theorem best_tri (b : Nat) (v : Wn) : Tri Try.prog N_winmax_Max_Best [.lf (.ptr (some ⟨b, 0⟩))] [.lf (.int .u64)] (blk b [.int .u64 v.w, .int .u64 v.t0, .int .u64 v.v0, .int .u64 v.t1, .int .u64 v.v1, .int .u64 v.t2, .int .u64 v.v2, .int .u64 v.la]) (fun r => pur (r = v.v0) (blk b [.int .u64 v.w, .int .u64 v.t0, .int .u64 v.v0, .int .u64 v.t1, .int .u64 v.v1, .int .u64 v.t2, .int .u64 v.v2, .int .u64 v.la])) :=
  tri_0 (call_winmax_Max_Best _) fun w0 S R h => by
    unfold W_winmax_Max_Best
    refine w_ite (fun c => (by cases c)) fun _ => ?_
    refine w_deref ⟨by decide, w_ld h rfl ?_⟩
    exact Own.retP rfl h.fin
theorem near_tri (t s v w : Int) (ht : U t) (hs : U s) : Tri Try.prog N_winmax_near [.lf (.int .u64 t), .agg (Ks.mk KP (s, v)), .lf (.int .u64 w)] [.lf .bool] emp (fun r => pur (r = !decide (far t s w)) emp) :=
  tri_0 (call_winmax_near t (s, v) w) fun w0 S R h => by
    unfold W_winmax_near
    refine w_new h fun n w h => ?_
    refine w_ld h rfl ?_
    rw [rsub_eq ht hs]
    exact Own.retP (by unfold far; rw [Bool.eq_iff_iff]; simp) h.fin
theorem push_tri (b : Nat) (v : Wn) (t x : Int) : Tri Try.prog N_winmax_Max_push [.lf (.ptr (some ⟨b, 0⟩)), .agg (Ks.mk KP (t, x))] [] (blk b [.int .u64 v.w, .int .u64 v.t0, .int .u64 v.v0, .int .u64 v.t1, .int .u64 v.v1, .int .u64 v.t2, .int .u64 v.v2, .int .u64 v.la]) (fun _ => blk b [.int .u64 (v.push t x).w, .int .u64 (v.push t x).t0, .int .u64 (v.push t x).v0, .int .u64 (v.push t x).t1, .int .u64 (v.push t x).v1, .int .u64 (v.push t x).t2, .int .u64 (v.push t x).v2, .int .u64 (v.push t x).la]) :=
  tri_0 (call_winmax_Max_push _ (t, x)) fun w0 S R h => by
    unfold W_winmax_Max_push
    refine w_new h fun n w h => ?_
    refine w_drw h fun w h => ?_
    refine w_ldAll h rfl ?_
    refine w_deref (w_deref (w_deref (w_deref (w_deref ⟨by decide, by decide, w_ld h rfl (w_ld h rfl ⟨by decide, ?_⟩)⟩))))
    refine w_set h rfl fun w h => ?_
    dsimp only [upd, over] at h
    refine w_chkAll h ⟨by decide, ?_⟩
    refine w_set h rfl fun w h => ?_
    dsimp only [upd, over] at h
    refine w_chkAll h ⟨by decide, ?_⟩
    refine w_set h rfl fun w h => ?_
    dsimp only [upd, over] at h
    exact Own.keep (A := blk b [.int .u64 (v.push t x).w, .int .u64 (v.push t x).t0, .int .u64 (v.push t x).v0, .int .u64 (v.push t x).t1, .int .u64 (v.push t x).v1, .int .u64 (v.push t x).t2, .int .u64 (v.push t x).v2, .int .u64 (v.push t x).la]) h
def stA (v : Wn) (f t x : Int) (i : Int) : Wn := { v with
  t0 := if f = 0 ∧ 0 < i then t else v.t0, v0 := if f = 0 ∧ 0 < i then x else v.v0
  t1 := if f ≤ 1 ∧ 1 < f + i then t else v.t1, v1 := if f ≤ 1 ∧ 1 < f + i then x else v.v1
  t2 := if 2 < f + i then t else v.t2, v2 := if 2 < f + i then x else v.v2 }
theorem all_tri (b : Nat) (v : Wn) (f t x : Int) (hf : f = 0 ∨ f = 1 ∨ f = 2) : Tri Try.prog N_winmax_Max_all [.lf (.ptr (some ⟨b, 0⟩)), .lf (.int .i64 f), .agg (Ks.mk KP (t, x))] [] (blk b [.int .u64 v.w, .int .u64 v.t0, .int .u64 v.v0, .int .u64 v.t1, .int .u64 v.v1, .int .u64 v.t2, .int .u64 v.v2, .int .u64 v.la])
    (fun _ => blk b [.int .u64 (if f = 0 then v.all t x else if f = 1 then v.s12 t x else v.s2 t x).w, .int .u64 (if f = 0 then v.all t x else if f = 1 then v.s12 t x else v.s2 t x).t0, .int .u64 (if f = 0 then v.all t x else if f = 1 then v.s12 t x else v.s2 t x).v0, .int .u64 (if f = 0 then v.all t x else if f = 1 then v.s12 t x else v.s2 t x).t1, .int .u64 (if f = 0 then v.all t x else if f = 1 then v.s12 t x else v.s2 t x).v1, .int .u64 (if f = 0 then v.all t x else if f = 1 then v.s12 t x else v.s2 t x).t2, .int .u64 (if f = 0 then v.all t x else if f = 1 then v.s12 t x else v.s2 t x).v2, .int .u64 (if f = 0 then v.all t x else if f = 1 then v.s12 t x else v.s2 t x).la]) :=
  tri_0 (call_winmax_Max_all _ f (t, x)) fun w0 S R h => by
    unfold W_winmax_Max_all
    refine w_new h fun n w h => ?_
    refine w_deref ?_
    refine ⟨⟨rfl, fun _ => by simp⟩, f.toNat, 3, 3, ?_, rfl, rfl, ⟨by omega, Nat.le_refl _, Nat.le_refl _⟩, ?_⟩
    · show f = f.toNat; omega
    have h : Own w0 S R w (blk b [.int .u64 (stA v f t x 0).w, .int .u64 (stA v f t x 0).t0, .int .u64 (stA v f t x 0).v0, .int .u64 (stA v f t x 0).t1, .int .u64 (stA v f t x 0).v1, .int .u64 (stA v f t x 0).t2, .int .u64 (stA v f t x 0).v2, .int .u64 (stA v f t x 0).la] ^ blk n (Ks.mk KP (t, x)) ^ emp) := by
      have h := h.blkEq (b := b) (L' := [.int .u64 (stA v f t x 0).w, .int .u64 (stA v f t x 0).t0, .int .u64 (stA v f t x 0).v0, .int .u64 (stA v f t x 0).t1, .int .u64 (stA v f t x 0).v1, .int .u64 (stA v f t x 0).t2, .int .u64 (stA v f t x 0).v2, .int .u64 (stA v f t x 0).la]) (by rcases hf with rfl | rfl | rfl <;> simp [stA])
      exact h
    have hlen : ((Sl.sub ⟨some ⟨b, 0 + 1⟩, 3, 3⟩ f.toNat 3 3 2).len : Int) = 3 - f := by
      show ((3 - f.toNat : Nat) : Int) = _; omega
    refine w_loop (fun i : Int => blk b [.int .u64 (stA v f t x i).w, .int .u64 (stA v f t x i).t0, .int .u64 (stA v f t x i).v0, .int .u64 (stA v f t x i).t1, .int .u64 (stA v f t x i).v1, .int .u64 (stA v f t x i).t2, .int .u64 (stA v f t x i).v2, .int .u64 (stA v f t x i).la] ^ blk n (Ks.mk KP (t, x)) ^ emp) (fun i : Int => 0 ≤ i ∧ i ≤ 3 - f) (fun i : Int => 3 - i.toNat) h ⟨Int.le_refl _, by omega⟩ ?_
    rintro (i : Int) w ⟨h0, h1⟩ h
    rw [hlen]
    refine w_ite (fun c => ?_) fun c => ?_
    · have c : i < 3 - f := by simpa using c
      refine w_drw h fun w h => w_ldAll h rfl (w_deref ?_)
      rw [wi (n := f + i) (by omega) (by omega), wi (n := i + 1) (by omega) (by omega)]
      refine ⟨by omega, ?_⟩
      have hi : (f = 0 ∧ i = 0) ∨ (f = 0 ∧ i = 1) ∨ (f = 0 ∧ i = 2) ∨ (f = 1 ∧ i = 0) ∨ (f = 1 ∧ i = 1) ∨ (f = 2 ∧ i = 0) := by omega
      refine w_setTo h b [.int .u64 (stA v f t x (i + 1)).w, .int .u64 (stA v f t x (i + 1)).t0, .int .u64 (stA v f t x (i + 1)).v0, .int .u64 (stA v f t x (i + 1)).t1, .int .u64 (stA v f t x (i + 1)).v1, .int .u64 (stA v f t x (i + 1)).t2, .int .u64 (stA v f t x (i + 1)).v2, .int .u64 (stA v f t x (i + 1)).la] rfl ?_ ?_ fun w h => ?_
      · rcases hi with ⟨rfl, rfl⟩ | ⟨rfl, rfl⟩ | ⟨rfl, rfl⟩ | ⟨rfl, rfl⟩ | ⟨rfl, rfl⟩ | ⟨rfl, rfl⟩ <;> rfl
      · rcases hi with ⟨rfl, rfl⟩ | ⟨rfl, rfl⟩ | ⟨rfl, rfl⟩ | ⟨rfl, rfl⟩ | ⟨rfl, rfl⟩ | ⟨rfl, rfl⟩ <;> rfl
      · exact ⟨⟨⟨by show 0 ≤ i + 1; omega, by show i + 1 ≤ _; omega⟩, h⟩, by show 3 - (i + 1).toNat < 3 - i.toNat; omega⟩
    · have c : i = 3 - f := by have : ¬ i < 3 - f := by simpa using c
                               omega
      subst c
      refine Own.keep (A := blk b [.int .u64 (if f = 0 then v.all t x else if f = 1 then v.s12 t x else v.s2 t x).w, .int .u64 (if f = 0 then v.all t x else if f = 1 then v.s12 t x else v.s2 t x).t0, .int .u64 (if f = 0 then v.all t x else if f = 1 then v.s12 t x else v.s2 t x).v0, .int .u64 (if f = 0 then v.all t x else if f = 1 then v.s12 t x else v.s2 t x).t1, .int .u64 (if f = 0 then v.all t x else if f = 1 then v.s12 t x else v.s2 t x).v1, .int .u64 (if f = 0 then v.all t x else if f = 1 then v.s12 t x else v.s2 t x).t2, .int .u64 (if f = 0 then v.all t x else if f = 1 then v.s12 t x else v.s2 t x).v2, .int .u64 (if f = 0 then v.all t x else if f = 1 then v.s12 t x else v.s2 t x).la]) (h.blkEq (b := b) ?_)
      rcases hf with rfl | rfl | rfl <;> simp [stA, Wn.all, Wn.s12, Wn.s2]
theorem reset_tri (b : Nat) (v : Wn) (t x : Int) : Tri Try.prog N_winmax_Max_Reset [.lf (.ptr (some ⟨b, 0⟩)), .lf (.int .u64 t), .lf (.int .u64 x)] [] (blk b [.int .u64 v.w, .int .u64 v.t0, .int .u64 v.v0, .int .u64 v.t1, .int .u64 v.v1, .int .u64 v.t2, .int .u64 v.v2, .int .u64 v.la]) (fun _ => blk b [.int .u64 ((v.tick t).all t x).w, .int .u64 ((v.tick t).all t x).t0, .int .u64 ((v.tick t).all t x).v0, .int .u64 ((v.tick t).all t x).t1, .int .u64 ((v.tick t).all t x).v1, .int .u64 ((v.tick t).all t x).t2, .int .u64 ((v.tick t).all t x).v2, .int .u64 ((v.tick t).all t x).la]) :=
  tri_0 (call_winmax_Max_Reset _ t x) fun w0 S R h => by
    unfold W_winmax_Max_Reset
    refine w_ite (fun c => (by cases c)) fun _ => ?_
    refine w_deref (w_ld h rfl (w_deref ?_))
    refine w_setTo h b [.int .u64 (v.tick t).w, .int .u64 (v.tick t).t0, .int .u64 (v.tick t).v0, .int .u64 (v.tick t).t1, .int .u64 (v.tick t).v1, .int .u64 (v.tick t).t2, .int .u64 (v.tick t).v2, .int .u64 (v.tick t).la] rfl rfl rfl fun w h => ?_
    refine w_call (all_tri b (v.tick t) 0 t x (.inl rfl)) h fun r w h => ?_
    exact Own.keep (A := blk b [.int .u64 ((v.tick t).all t x).w, .int .u64 ((v.tick t).all t x).t0, .int .u64 ((v.tick t).all t x).v0, .int .u64 ((v.tick t).all t x).t1, .int .u64 ((v.tick t).all t x).v1, .int .u64 ((v.tick t).all t x).t2, .int .u64 ((v.tick t).all t x).v2, .int .u64 ((v.tick t).all t x).la]) h
end BbrP

namespace BbrW
open Arith ArithC _root_.Go.X.Target BbrM BbrP
theorem U4 {w : Int} (h : U w) : IntKind.u64.wrap (w.tdiv 4) = w / 4 := by
  unfold U at h; rw [Int.tdiv_eq_ediv_of_nonneg h.1, wu (by omega) (by omega)]
theorem U2 {w : Int} (h : U w) : IntKind.u64.wrap (w.tdiv 2) = w / 2 := by
  unfold U at h; rw [Int.tdiv_eq_ediv_of_nonneg h.1, wu (by omega) (by omega)]
theorem maxupd_tri (b : Nat) (v : Wn) (hv : OkW v) (t x : Int) (ht : U t) (hx : U x) : Tri Try.prog N_winmax_Max_Update [.lf (.ptr (some ⟨b, 0⟩)), .lf (.int .u64 t), .lf (.int .u64 x)] [.lf (.int .u64)] (blk b [.int .u64 v.w, .int .u64 v.t0, .int .u64 v.v0, .int .u64 v.t1, .int .u64 v.v1, .int .u64 v.t2, .int .u64 v.v2, .int .u64 v.la])
    (fun r => pur (r = (wUpd v t x).v0) (blk b [.int .u64 (wUpd v t x).w, .int .u64 (wUpd v t x).t0, .int .u64 (wUpd v t x).v0, .int .u64 (wUpd v t x).t1, .int .u64 (wUpd v t x).v1, .int .u64 (wUpd v t x).t2, .int .u64 (wUpd v t x).v2, .int .u64 (wUpd v t x).la])) :=
  tri_0 (call_winmax_Max_Update _ t x) fun w0 S R h => by
    unfold W_winmax_Max_Update
    refine w_ite (fun c => (by cases c)) fun _ => ?_
    refine w_deref (w_ld h rfl (w_deref ?_))
    refine w_setTo h b [.int .u64 (v.tick t).w, .int .u64 (v.tick t).t0, .int .u64 (v.tick t).v0, .int .u64 (v.tick t).t1, .int .u64 (v.tick t).v1, .int .u64 (v.tick t).t2, .int .u64 (v.tick t).v2, .int .u64 (v.tick t).la] rfl rfl rfl fun w h => ?_
    have hu := hv.tick ht
    have e0 : wUpd v t x = wU (v.tick t) (v.tick t).la x := rfl
    rw [e0]
    generalize v.tick t = u at *
    refine w_deref (w_ld h rfl ?_)
    refine w_new h fun n w h => ?_
    refine w_setTo h n [.int .u64 u.la, .int .u64 x] rfl rfl rfl fun w h => ?_
    have h : Own w0 S R w (blk b [.int .u64 u.w, .int .u64 u.t0, .int .u64 u.v0, .int .u64 u.t1, .int .u64 u.v1, .int .u64 u.t2, .int .u64 u.v2, .int .u64 u.la] ^ blk n [.int .u64 u.la, .int .u64 x]) := h.fin
    refine w_join h (fun _ => blk b [.int .u64 u.w, .int .u64 u.t0, .int .u64 u.v0, .int .u64 u.t1, .int .u64 u.v1, .int .u64 u.t2, .int .u64 u.v2, .int .u64 u.la] ^ blk n [.int .u64 u.la, .int .u64 x]) (fun y : Bool => y = decide (x ≥ u.v0 ∨ far u.la u.t2 u.w)) (fun (y : Bool) w hy h => ?_) ?_
    · rw [hy]
      refine w_ite (fun c => ?_) fun c => ?_
      · have c : x ≥ u.v0 ∨ far u.la u.t2 u.w := by simpa using c
        refine w_ld h rfl ?_
        refine w_call (reset_tri b u u.la x) h fun r w h => ?_
        have e : wU u u.la x = u.all u.la x := by unfold wU; rw [if_pos c]
        rw [e]
        have e2 : u.tick u.la = u := by unfold Wn.tick; simp
        rw [e2] at h
        exact Own.retP rfl h.keep
      have c : ¬ (x ≥ u.v0 ∨ far u.la u.t2 u.w) := by simpa using c
      have e : wU u u.la x = wS2 (wS1 u u.la x) u.la x := by unfold wU; rw [if_neg c]
      rw [e]
      refine w_join h (fun _ => blk b [.int .u64 (wS1 u u.la x).w, .int .u64 (wS1 u u.la x).t0, .int .u64 (wS1 u u.la x).v0, .int .u64 (wS1 u u.la x).t1, .int .u64 (wS1 u u.la x).v1, .int .u64 (wS1 u u.la x).t2, .int .u64 (wS1 u u.la x).v2, .int .u64 (wS1 u u.la x).la] ^ blk n [.int .u64 u.la, .int .u64 x]) (fun _ => True) (fun _ w _ h => ?_) ?_
      · have hs := hu.wS1 hu.la hx
        have hT := hu.la
        generalize u.la = T at *
        generalize wS1 u T x = s at *
        refine w_join h (fun _ => blk b [.int .u64 (wS2 s T x).w, .int .u64 (wS2 s T x).t0, .int .u64 (wS2 s T x).v0, .int .u64 (wS2 s T x).t1, .int .u64 (wS2 s T x).v1, .int .u64 (wS2 s T x).t2, .int .u64 (wS2 s T x).v2, .int .u64 (wS2 s T x).la] ^ blk n [.int .u64 T, .int .u64 x]) (fun _ => True) (fun _ w _ h => ?_) ?_
        · refine w_deref ⟨by decide, w_ld h rfl ?_⟩
          exact Own.retP rfl h.keep
        refine w_drw h fun w h => w_ld h rfl (w_deref (w_deref ⟨by decide, w_ld h rfl (w_ld (x := (s.t0, s.v0)) h rfl ?_)⟩))
        refine w_call (near_tri T s.t0 s.v0 s.w hT hs.t0) h fun r w h => ?_
        obtain ⟨hr, h⟩ := h.purP
        rw [hr, Bool.not_not]
        refine w_ite (fun c1 => ?_) fun c1 => ?_
        · have c1 : far T s.t0 s.w := by simpa using c1
          refine w_ldAll (x := (T, x)) h rfl ?_
          refine w_call (push_tri b s T x) h fun r w h => ?_
          refine w_drw h fun w h => w_ld h rfl (w_deref (w_deref ⟨by decide, w_ld h rfl (w_ld (x := (s.t1, s.v1)) h rfl ?_)⟩))
          refine w_call (near_tri T s.t1 s.v1 s.w hT hs.t1) h fun r w h => ?_
          obtain ⟨hr, h⟩ := h.purP
          rw [hr, Bool.not_not]
          refine w_ite (fun c2 => ?_) fun c2 => ?_
          · have c2 : far T s.t1 s.w := by simpa using c2
            refine w_ldAll (x := (T, x)) h rfl ?_
            refine w_call (push_tri b (s.push T x) T x) h fun r w h => ?_
            have e : wS2 s T x = (s.push T x).push T x := by unfold wS2; rw [if_pos c1, if_pos c2]
            rw [e]
            exact ⟨trivial, h.fin⟩
          · have c2 : ¬ far T s.t1 s.w := by simpa using c2
            have e : wS2 s T x = s.push T x := by unfold wS2; rw [if_pos c1, if_neg c2]
            rw [e]
            exact ⟨trivial, h.fin⟩
        have c1 : ¬ far T s.t0 s.w := by simpa using c1
        have hf : ∀ k, (wS2 s T x = k) = ((if s.t1 = s.t0 ∧ far T s.t0 (s.w / 4) then s.s12 T x else if s.t2 = s.t1 ∧ far T s.t0 (s.w / 2) then s.s2 T x else s) = k) := fun k => by unfold wS2; rw [if_neg c1]
        refine w_join h (fun _ => blk b [.int .u64 s.w, .int .u64 s.t0, .int .u64 s.v0, .int .u64 s.t1, .int .u64 s.v1, .int .u64 s.t2, .int .u64 s.v2, .int .u64 s.la] ^ blk n [.int .u64 T, .int .u64 x]) (fun y : Bool => y = decide (s.t1 = s.t0 ∧ far T s.t0 (s.w / 4))) (fun (y : Bool) w hy h => ?_) ?_
        · rw [hy]
          refine w_ite (fun c2 => ?_) fun c2 => ?_
          · have c2 : s.t1 = s.t0 ∧ far T s.t0 (s.w / 4) := by simpa using c2
            refine w_ldAll (x := (T, x)) h rfl ?_
            refine w_call (all_tri b s 1 T x (.inr (.inl rfl))) h fun r w h => ?_
            have e : wS2 s T x = s.s12 T x := by rw [hf, if_pos c2]
            rw [e]
            have h : Own w0 S R w (blk b [.int .u64 (s.s12 T x).w, .int .u64 (s.s12 T x).t0, .int .u64 (s.s12 T x).v0, .int .u64 (s.s12 T x).t1, .int .u64 (s.s12 T x).v1, .int .u64 (s.s12 T x).t2, .int .u64 (s.s12 T x).v2, .int .u64 (s.s12 T x).la] ^ blk n [.int .u64 T, .int .u64 x]) := h
            exact ⟨trivial, h⟩
          have c2 : ¬ (s.t1 = s.t0 ∧ far T s.t0 (s.w / 4)) := by simpa using c2
          refine w_join h (fun _ => blk b [.int .u64 s.w, .int .u64 s.t0, .int .u64 s.v0, .int .u64 s.t1, .int .u64 s.v1, .int .u64 s.t2, .int .u64 s.v2, .int .u64 s.la] ^ blk n [.int .u64 T, .int .u64 x]) (fun y : Bool => y = decide (s.t2 = s.t1 ∧ far T s.t0 (s.w / 2))) (fun (y : Bool) w hy h => ?_) ?_
          · rw [hy]
            refine w_ite (fun c3 => ?_) fun c3 => ?_
            · have c3 : s.t2 = s.t1 ∧ far T s.t0 (s.w / 2) := by simpa using c3
              refine w_ldAll (x := (T, x)) h rfl ?_
              refine w_call (all_tri b s 2 T x (.inr (.inr rfl))) h fun r w h => ?_
              have e : wS2 s T x = s.s2 T x := by rw [hf, if_neg c2, if_pos c3]
              rw [e]
              have h : Own w0 S R w (blk b [.int .u64 (s.s2 T x).w, .int .u64 (s.s2 T x).t0, .int .u64 (s.s2 T x).v0, .int .u64 (s.s2 T x).t1, .int .u64 (s.s2 T x).v1, .int .u64 (s.s2 T x).t2, .int .u64 (s.s2 T x).v2, .int .u64 (s.s2 T x).la] ^ blk n [.int .u64 T, .int .u64 x]) := h
              exact ⟨trivial, h⟩
            · have c3 : ¬ (s.t2 = s.t1 ∧ far T s.t0 (s.w / 2)) := by simpa using c3
              have e : wS2 s T x = s := by rw [hf, if_neg c2, if_neg c3]
              rw [e]
              exact ⟨trivial, h.fin⟩
          · refine w_drw h fun w h => w_deref (w_deref ⟨by decide, by decide, w_ld h rfl (w_ld h rfl ?_)⟩)
            refine w_ite (fun c3 => ?_) fun c3 => ?_
            · have c3 : s.t2 = s.t1 := by simpa using c3
              refine w_ld h rfl (w_deref (w_deref ⟨by decide, w_ld h rfl (w_ld (x := (s.t0, s.v0)) h rfl ?_)⟩))
              rw [U2 hs.w]
              refine w_call (near_tri T s.t0 s.v0 (s.w / 2) hT hs.t0) h fun r w h => ?_
              obtain ⟨hr, h⟩ := h.purP
              exact ⟨by rw [hr, Bool.not_not]; simp [c3], h.fin⟩
            · have c3 : ¬ s.t2 = s.t1 := by simpa using c3
              exact ⟨by simp [c3], h.fin⟩
        · refine w_drw h fun w h => w_deref (w_deref ⟨by decide, by decide, w_ld h rfl (w_ld h rfl ?_)⟩)
          refine w_ite (fun c3 => ?_) fun c3 => ?_
          · have c3 : s.t1 = s.t0 := by simpa using c3
            refine w_ld h rfl (w_deref (w_deref ⟨by decide, w_ld h rfl (w_ld (x := (s.t0, s.v0)) h rfl ?_)⟩))
            rw [U4 hs.w]
            refine w_call (near_tri T s.t0 s.v0 (s.w / 4) hT hs.t0) h fun r w h => ?_
            obtain ⟨hr, h⟩ := h.purP
            exact ⟨by rw [hr, Bool.not_not]; simp [c3], h.fin⟩
          · have c3 : ¬ s.t1 = s.t0 := by simpa using c3
            exact ⟨by simp [c3], h.fin⟩
      · refine w_loop (fun _ : Int => blk b [.int .u64 u.w, .int .u64 u.t0, .int .u64 u.v0, .int .u64 u.t1, .int .u64 u.v1, .int .u64 u.t2, .int .u64 u.v2, .int .u64 u.la] ^ blk n [.int .u64 u.la, .int .u64 x]) (fun i : Int => (0 ≤ i ∧ i ≤ 3) ∧ (i ≥ 2 → ¬ x ≥ u.v1) ∧ (i ≥ 3 → ¬ x ≥ u.v2)) (fun i : Int => 3 - i.toNat) h ⟨⟨by simp, by simp⟩, by simp, by simp⟩ ?_
        rintro (i : Int) w ⟨⟨h0, h1⟩, h2, h3⟩ h
        refine w_ite (fun c => ?_) fun c => ?_
        · have c : i < 3 := by simpa using c
          have hi : i = 0 ∨ i = 1 ∨ i = 2 := by omega
          refine w_join h (fun _ => blk b [.int .u64 u.w, .int .u64 u.t0, .int .u64 u.v0, .int .u64 u.t1, .int .u64 u.v1, .int .u64 u.t2, .int .u64 u.v2, .int .u64 u.la] ^ blk n [.int .u64 u.la, .int .u64 x]) (fun y : Bool => y = (decide (i = 1 ∧ x ≥ u.v1) || decide (i = 2 ∧ x ≥ u.v2))) (fun (y : Bool) w hy h => ?_) ?_
          · rw [hy]
            refine w_ite (fun c2 => ?_) fun c2 => ?_
            · refine w_ldAll (x := (u.la, x)) h rfl ?_
              refine w_call (all_tri b u i u.la x hi) h fun r w h => ?_
              have c2 : (i = 1 ∧ x ≥ u.v1) ∨ (i = 2 ∧ x ≥ u.v2) := by simpa using c2
              have e : wS1 u u.la x = if i = 0 then u.all u.la x else if i = 1 then u.s12 u.la x else u.s2 u.la x := by
                unfold wS1
                rcases c2 with ⟨rfl, cc⟩ | ⟨rfl, cc⟩
                · rw [if_pos cc]; rfl
                · rw [if_neg (h2 (by omega)), if_pos cc]; rfl
              rw [e]
              exact ⟨trivial, h.fin⟩
            · have c2 : ¬ ((i = 1 ∧ x ≥ u.v1) ∨ (i = 2 ∧ x ≥ u.v2)) := by simpa using c2
              rw [wi (n := i + 1) (by omega) (by omega)]
              refine ⟨⟨⟨⟨by omega, by omega⟩, fun hh => ?_, fun hh => ?_⟩, h⟩, by omega⟩
              · by_cases hi1 : i = 1
                · intro hx1; exact c2 (.inl ⟨hi1, hx1⟩)
                · exact h2 (by omega)
              · intro hx1; exact c2 (.inr ⟨by omega, hx1⟩)
          · refine w_ite (fun c2 => ?_) fun c2 => ?_
            · have c2 : i > 0 := by simpa using c2
              refine w_deref ⟨⟨h0, c⟩, ?_⟩
              have hi : i = 1 ∨ i = 2 := by omega
              rcases hi with rfl | rfl
              · exact w_ld h rfl ⟨by simp, h⟩
              · exact w_ld h rfl ⟨by simp, h⟩
            · have c2 : i = 0 := by have : ¬ i > 0 := by simpa using c2
                                    omega
              exact ⟨by simp [c2], h⟩
        · have c : i = 3 := by have : ¬ i < 3 := by simpa using c
                               omega
          have e : wS1 u u.la x = u := by unfold wS1; rw [if_neg (h2 (by omega)), if_neg (h3 (by omega))]
          rw [e]
          exact ⟨trivial, h⟩
    · refine w_drw h fun w h => w_deref ⟨by decide, w_ld h rfl ?_⟩
      refine w_ite (fun c => ?_) fun c => ?_
      · have c : x ≥ u.v0 := by simpa using c
        exact ⟨by simp [c], h⟩
      · have c : ¬ x ≥ u.v0 := by simpa using c
        refine w_ld h rfl (w_deref (w_deref ⟨by decide, w_ld h rfl (w_ld (x := (u.t2, u.v2)) h rfl ?_)⟩))
        refine w_call (near_tri u.la u.t2 u.v2 u.w hu.la hu.t2) h fun r w h => ?_
        obtain ⟨hr, h⟩ := h.purP
        exact ⟨by rw [hr, Bool.not_not]; simp [c], h.fin⟩
end BbrW


end Go.X
