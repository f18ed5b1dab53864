/- Contracts and plain facts: BbrP. -/
import Derived.Test.YteeabliibhedoaaBPlain
import Derived.Test.YteeabliibhedoaaBArith
import Derived.Test.YteeabliibhedoaaBArithC
import Derived.Test.YteeabliibhedoaaBTarget
import Derived.Test.YteeabliibhedoaaBBbrM
import Derived.Test.YteeabliibhedoaaXw
import Derived.Test.YteeabliibhedoaaK
import Derived.Test.YteeabliibhedoaaF0
import Derived.Test.YteeabliibhedoaaF1
set_option linter.unusedVariables false
set_option linter.unusedSimpArgs false
set_option linter.unusedSectionVars false
namespace Go.X
open Go.Proofs
namespace BbrP
open Arith ArithC _root_.Go.X.Target BbrM
theorem wnew_tri (w : Int) : Tri Try.prog N_winmax_New [.lf (.int .u64 w)] [.lf .ptr] emp (fun r => ex fun n : Nat => pur (r = some ⟨n, 0⟩) (blk n [.int .u64 (Wn.mk w 0 0 0 0 0 0 0).w, .int .u64 (Wn.mk w 0 0 0 0 0 0 0).t0, .int .u64 (Wn.mk w 0 0 0 0 0 0 0).v0, .int .u64 (Wn.mk w 0 0 0 0 0 0 0).t1, .int .u64 (Wn.mk w 0 0 0 0 0 0 0).v1, .int .u64 (Wn.mk w 0 0 0 0 0 0 0).t2, .int .u64 (Wn.mk w 0 0 0 0 0 0 0).v2, .int .u64 (Wn.mk w 0 0 0 0 0 0 0).la])) :=
  tri_0 (call_winmax_New w) fun w0 S R h => by
    unfold W_winmax_New
    refine w_new h fun n w h => ?_
    exact Own.retE n (Own.retP rfl h.fin)
theorem best_tri (b : Nat) (v : Wn) : Tri Try.prog N_winmax_Max_Best [.lf (.ptr (some ⟨b, 0⟩))] [.lf (.int .u64)] (blk b [.int .u64 v.w, .int .u64 v.t0, .int .u64 v.v0, .int .u64 v.t1, .int .u64 v.v1, .int .u64 v.t2, .int .u64 v.v2, .int .u64 v.la]) (fun r => pur (r = v.v0) (blk b [.int .u64 v.w, .int .u64 v.t0, .int .u64 v.v0, .int .u64 v.t1, .int .u64 v.v1, .int .u64 v.t2, .int .u64 v.v2, .int .u64 v.la])) :=
  tri_0 (call_winmax_Max_Best _) fun w0 S R h => by
    unfold W_winmax_Max_Best
    refine w_ite (fun c => (by cases c)) fun _ => ?_
    refine w_deref ⟨by decide, w_ld h rfl ?_⟩
    exact Own.retP rfl h.fin
theorem near_tri (t s v w : Int) (ht : U t) (hs : U s) : Tri Try.prog N_winmax_near [.lf (.int .u64 t), .agg (Ks.mk KP (s, v)), .lf (.int .u64 w)] [.lf .bool] emp (fun r => pur (r = !decide (far t s w)) emp) :=
  tri_0 (call_winmax_near t (s, v) w) fun w0 S R h => by
    unfold W_winmax_near
    refine w_new h fun n w h => ?_
    refine w_ld h rfl ?_
    rw [rsub_eq ht hs]
    exact Own.retP (by unfold far; rw [Bool.eq_iff_iff]; simp) h.fin
theorem push_tri (b : Nat) (v : Wn) (t x : Int) : Tri Try.prog N_winmax_Max_push [.lf (.ptr (some ⟨b, 0⟩)), .agg (Ks.mk KP (t, x))] [] (blk b [.int .u64 v.w, .int .u64 v.t0, .int .u64 v.v0, .int .u64 v.t1, .int .u64 v.v1, .int .u64 v.t2, .int .u64 v.v2, .int .u64 v.la]) (fun _ => blk b [.int .u64 (v.push t x).w, .int .u64 (v.push t x).t0, .int .u64 (v.push t x).v0, .int .u64 (v.push t x).t1, .int .u64 (v.push t x).v1, .int .u64 (v.push t x).t2, .int .u64 (v.push t x).v2, .int .u64 (v.push t x).la]) :=
  tri_0 (call_winmax_Max_push _ (t, x)) fun w0 S R h => by
    unfold W_winmax_Max_push
    refine w_new h fun n w h => ?_
    refine w_drw h fun w h => ?_
    refine w_ldAll h rfl ?_
    refine w_deref (w_deref (w_deref (w_deref (w_deref ⟨by decide, by decide, w_ld h rfl (w_ld h rfl ⟨by decide, ?_⟩)⟩))))
    refine w_set h rfl fun w h => ?_
    dsimp only [upd, over] at h
    refine w_chkAll h ⟨by decide, ?_⟩
    refine w_set h rfl fun w h => ?_
    dsimp only [upd, over] at h
    refine w_chkAll h ⟨by decide, ?_⟩
    refine w_set h rfl fun w h => ?_
    dsimp only [upd, over] at h
    exact Own.keep (A := blk b [.int .u64 (v.push t x).w, .int .u64 (v.push t x).t0, .int .u64 (v.push t x).v0, .int .u64 (v.push t x).t1, .int .u64 (v.push t x).v1, .int .u64 (v.push t x).t2, .int .u64 (v.push t x).v2, .int .u64 (v.push t x).la]) h
def stA (v : Wn) (f t x : Int) (i : Int) : Wn := { v with
  t0 := if f = 0 ∧ 0 < i then t else v.t0, v0 := if f = 0 ∧ 0 < i then x else v.v0
  t1 := if f ≤ 1 ∧ 1 < f + i then t else v.t1, v1 := if f ≤ 1 ∧ 1 < f + i then x else v.v1
  t2 := if 2 < f + i then t else v.t2, v2 := if 2 < f + i then x else v.v2 }
theorem all_tri (b : Nat) (v : Wn) (f t x : Int) (hf : f = 0 ∨ f = 1 ∨ f = 2) : Tri Try.prog N_winmax_Max_all [.lf (.ptr (some ⟨b, 0⟩)), .lf (.int .i64 f), .agg (Ks.mk KP (t, x))] [] (blk b [.int .u64 v.w, .int .u64 v.t0, .int .u64 v.v0, .int .u64 v.t1, .int .u64 v.v1, .int .u64 v.t2, .int .u64 v.v2, .int .u64 v.la])
    (fun _ => blk b [.int .u64 (if f = 0 then v.all t x else if f = 1 then v.s12 t x else v.s2 t x).w, .int .u64 (if f = 0 then v.all t x else if f = 1 then v.s12 t x else v.s2 t x).t0, .int .u64 (if f = 0 then v.all t x else if f = 1 then v.s12 t x else v.s2 t x).v0, .int .u64 (if f = 0 then v.all t x else if f = 1 then v.s12 t x else v.s2 t x).t1, .int .u64 (if f = 0 then v.all t x else if f = 1 then v.s12 t x else v.s2 t x).v1, .int .u64 (if f = 0 then v.all t x else if f = 1 then v.s12 t x else v.s2 t x).t2, .int .u64 (if f = 0 then v.all t x else if f = 1 then v.s12 t x else v.s2 t x).v2, .int .u64 (if f = 0 then v.all t x else if f = 1 then v.s12 t x else v.s2 t x).la]) :=
  tri_0 (call_winmax_Max_all _ f (t, x)) fun w0 S R h => by
    unfold W_winmax_Max_all
    refine w_new h fun n w h => ?_
    refine w_deref ?_
    refine ⟨⟨rfl, fun _ => by simp⟩, f.toNat, 3, 3, ?_, rfl, rfl, ⟨by omega, Nat.le_refl _, Nat.le_refl _⟩, ?_⟩
    · show f = f.toNat; omega
    have h : Own w0 S R w (blk b [.int .u64 (stA v f t x 0).w, .int .u64 (stA v f t x 0).t0, .int .u64 (stA v f t x 0).v0, .int .u64 (stA v f t x 0).t1, .int .u64 (stA v f t x 0).v1, .int .u64 (stA v f t x 0).t2, .int .u64 (stA v f t x 0).v2, .int .u64 (stA v f t x 0).la] ^ blk n (Ks.mk KP (t, x)) ^ emp) := by
      have h := h.blkEq (b := b) (L' := [.int .u64 (stA v f t x 0).w, .int .u64 (stA v f t x 0).t0, .int .u64 (stA v f t x 0).v0, .int .u64 (stA v f t x 0).t1, .int .u64 (stA v f t x 0).v1, .int .u64 (stA v f t x 0).t2, .int .u64 (stA v f t x 0).v2, .int .u64 (stA v f t x 0).la]) (by rcases hf with rfl | rfl | rfl <;> simp [stA])
      exact h
    have hlen : ((Sl.sub ⟨some ⟨b, 0 + 1⟩, 3, 3⟩ f.toNat 3 3 2).len : Int) = 3 - f := by
      show ((3 - f.toNat : Nat) : Int) = _; omega
    refine w_loop (fun i : Int => blk b [.int .u64 (stA v f t x i).w, .int .u64 (stA v f t x i).t0, .int .u64 (stA v f t x i).v0, .int .u64 (stA v f t x i).t1, .int .u64 (stA v f t x i).v1, .int .u64 (stA v f t x i).t2, .int .u64 (stA v f t x i).v2, .int .u64 (stA v f t x i).la] ^ blk n (Ks.mk KP (t, x)) ^ emp) (fun i : Int => 0 ≤ i ∧ i ≤ 3 - f) (fun i : Int => 3 - i.toNat) h ⟨Int.le_refl _, by omega⟩ ?_
    rintro (i : Int) w ⟨h0, h1⟩ h
    rw [hlen]
    refine w_ite (fun c => ?_) fun c => ?_
    · have c : i < 3 - f := by simpa using c
      refine w_drw h fun w h => w_ldAll h rfl (w_deref ?_)
      rw [wi (n := f + i) (by omega) (by omega), wi (n := i + 1) (by omega) (by omega)]
      refine ⟨by omega, ?_⟩
      have hi : (f = 0 ∧ i = 0) ∨ (f = 0 ∧ i = 1) ∨ (f = 0 ∧ i = 2) ∨ (f = 1 ∧ i = 0) ∨ (f = 1 ∧ i = 1) ∨ (f = 2 ∧ i = 0) := by omega
      refine w_setTo h b [.int .u64 (stA v f t x (i + 1)).w, .int .u64 (stA v f t x (i + 1)).t0, .int .u64 (stA v f t x (i + 1)).v0, .int .u64 (stA v f t x (i + 1)).t1, .int .u64 (stA v f t x (i + 1)).v1, .int .u64 (stA v f t x (i + 1)).t2, .int .u64 (stA v f t x (i + 1)).v2, .int .u64 (stA v f t x (i + 1)).la] rfl ?_ ?_ fun w h => ?_
      · rcases hi with ⟨rfl, rfl⟩ | ⟨rfl, rfl⟩ | ⟨rfl, rfl⟩ | ⟨rfl, rfl⟩ | ⟨rfl, rfl⟩ | ⟨rfl, rfl⟩ <;> rfl
      · rcases hi with ⟨rfl, rfl⟩ | ⟨rfl, rfl⟩ | ⟨rfl, rfl⟩ | ⟨rfl, rfl⟩ | ⟨rfl, rfl⟩ | ⟨rfl, rfl⟩ <;> rfl
      · exact ⟨⟨⟨by show 0 ≤ i + 1; omega, by show i + 1 ≤ _; omega⟩, h⟩, by show 3 - (i + 1).toNat < 3 - i.toNat; omega⟩
    · have c : i = 3 - f := by have : ¬ i < 3 - f := by simpa using c
                               omega
      subst c
      refine Own.keep (A := blk b [.int .u64 (if f = 0 then v.all t x else if f = 1 then v.s12 t x else v.s2 t x).w, .int .u64 (if f = 0 then v.all t x else if f = 1 then v.s12 t x else v.s2 t x).t0, .int .u64 (if f = 0 then v.all t x else if f = 1 then v.s12 t x else v.s2 t x).v0, .int .u64 (if f = 0 then v.all t x else if f = 1 then v.s12 t x else v.s2 t x).t1, .int .u64 (if f = 0 then v.all t x else if f = 1 then v.s12 t x else v.s2 t x).v1, .int .u64 (if f = 0 then v.all t x else if f = 1 then v.s12 t x else v.s2 t x).t2, .int .u64 (if f = 0 then v.all t x else if f = 1 then v.s12 t x else v.s2 t x).v2, .int .u64 (if f = 0 then v.all t x else if f = 1 then v.s12 t x else v.s2 t x).la]) (h.blkEq (b := b) ?_)
      rcases hf with rfl | rfl | rfl <;> simp [stA, Wn.all, Wn.s12, Wn.s2]
theorem reset_tri (b : Nat) (v : Wn) (t x : Int) : Tri Try.prog N_winmax_Max_Reset [.lf (.ptr (some ⟨b, 0⟩)), .lf (.int .u64 t), .lf (.int .u64 x)] [] (blk b [.int .u64 v.w, .int .u64 v.t0, .int .u64 v.v0, .int .u64 v.t1, .int .u64 v.v1, .int .u64 v.t2, .int .u64 v.v2, .int .u64 v.la]) (fun _ => blk b [.int .u64 ((v.tick t).all t x).w, .int .u64 ((v.tick t).all t x).t0, .int .u64 ((v.tick t).all t x).v0, .int .u64 ((v.tick t).all t x).t1, .int .u64 ((v.tick t).all t x).v1, .int .u64 ((v.tick t).all t x).t2, .int .u64 ((v.tick t).all t x).v2, .int .u64 ((v.tick t).all t x).la]) :=
  tri_0 (call_winmax_Max_Reset _ t x) fun w0 S R h => by
    unfold W_winmax_Max_Reset
    refine w_ite (fun c => (by cases c)) fun _ => ?_
    refine w_deref (w_ld h rfl (w_deref ?_))
    refine w_setTo h b [.int .u64 (v.tick t).w, .int .u64 (v.tick t).t0, .int .u64 (v.tick t).v0, .int .u64 (v.tick t).t1, .int .u64 (v.tick t).v1, .int .u64 (v.tick t).t2, .int .u64 (v.tick t).v2, .int .u64 (v.tick t).la] rfl rfl rfl fun w h => ?_
    refine w_call (all_tri b (v.tick t) 0 t x (.inl rfl)) h fun r w h => ?_
    exact Own.keep (A := blk b [.int .u64 ((v.tick t).all t x).w, .int .u64 ((v.tick t).all t x).t0, .int .u64 ((v.tick t).all t x).v0, .int .u64 ((v.tick t).all t x).t1, .int .u64 ((v.tick t).all t x).v1, .int .u64 ((v.tick t).all t x).t2, .int .u64 ((v.tick t).all t x).v2, .int .u64 ((v.tick t).all t x).la]) h
end BbrP

end Go.X
