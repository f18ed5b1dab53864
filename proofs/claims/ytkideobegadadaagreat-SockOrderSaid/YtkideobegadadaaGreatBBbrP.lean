/- Contracts and plain facts: BbrH BbrP. -/
import Derived.Test.YtkideobegadadaaGreatBArith
import Derived.Test.YtkideobegadadaaGreatBBbrMm
import Derived.Test.YtkideobegadadaaGreatBBbrG
import Derived.Test.YtkideobegadadaaGreatBWf
import Derived.Test.YtkideobegadadaaGreatBTarget
import Derived.Test.YtkideobegadadaaGreatXw
import Derived.Test.YtkideobegadadaaGreatK
import Derived.Test.YtkideobegadadaaGreatF0
import Derived.Test.YtkideobegadadaaGreatF1
set_option linter.unusedVariables false
set_option linter.unusedSimpArgs false
set_option linter.unusedSectionVars false
namespace Go.X
open Go.Proofs
namespace BbrH
open Arith BbrM BbrMm BbrF BbrG
structure Bd (m : Md) (t : Int) : Prop where
  win : m.win ≤ t
  sav : m.sav ≤ t
theorem le_if {p : Prop} [Decidable p] {a b t : Int} (ha : a ≤ t) (hb : b ≤ t) : (if p then a else b) ≤ t := by split <;> assumption
theorem b_meas {m : Md} {t : Int} (h : Bd m t) (s : Sm) : Bd (mMeas m s) t := by unfold mMeas; (repeat' split) <;> exact ⟨h.win, h.sav⟩
theorem b_cyc {m : Md} {t : Int} (h : Bd m t) (s : Sm) : Bd (mCyc m s) t := by unfold mCyc; split <;> exact ⟨h.win, h.sav⟩
theorem b_m1 {m : Md} {t : Int} (h : Bd m t) : Bd (mM1 m) t := by unfold mM1; split <;> exact ⟨h.win, h.sav⟩
theorem b_m2 {m : Md} {t : Int} (h : Bd m t) (s : Sm) : Bd (mM2 m s) t := by unfold mM2; split <;> exact ⟨h.win, h.sav⟩
theorem b_probed {m : Md} {t : Int} (h : Bd m t) (h0 : 0 ≤ t) (r : Bool × Bool) (now : Int) : Bd (mProbed m r now) t := by
  unfold mProbed
  split
  · exact ⟨h.win, le_if h.win h.sav⟩
  · split
    · split
      · exact ⟨le_if h.sav h.win, h0⟩
      · exact ⟨le_if h.sav h.win, h0⟩
    · exact h
theorem b_look {m : Md} {t : Int} (h : Bd m t) (h0 : 0 ≤ t) (s : Sm) (o : Bool) : Bd (mLook m s o) t := by
  have : Bd { m with b := (mPr m s o).2 } t := ⟨h.win, h.sav⟩
  exact b_probed this h0 _ _
theorem b_pace {m : Md} {t : Int} (h : Bd m t) : Bd (mPace m) t := by unfold mPace; (repeat' split) <;> exact ⟨h.win, h.sav⟩
theorem b_rec {m : Md} {t : Int} (h : Bd m t) (h0 : 0 ≤ t) (s : Sm) (o : Bool) : Bd (mRecover m s o) t := by
  unfold mRecover mOver
  split
  · exact ⟨h.win, le_if h.win h.sav⟩
  · split
    · split
      · exact ⟨h.win, h.sav⟩
      · split
        · exact ⟨le_if h.sav h.win, h0⟩
        · exact ⟨h.win, h.sav⟩
    · exact h
theorem add_le {a b t : Int} (h : a ≤ t) : addI a b ≤ addI t b := by unfold addI; (repeat' split) <;> omega
theorem le_add {t b : Int} (h : U t) (hb : U b) : t ≤ addI t b := by unfold U addI at *; split <;> omega
theorem sub_le {a b : Int} (h : U a) (hb : U b) : subI a b ≤ a := by unfold U subI at *; split <;> omega
def Ok2 (x t : Int) (s : Sm) : Prop := x ≤ addI t (sAck s) ∨ x ≤ addI (sFli s) (sAck s)
theorem ok2_if {p : Prop} [Decidable p] {a b t : Int} {s : Sm} (ha : Ok2 a t s) (hb : Ok2 b t s) : Ok2 (if p then a else b) t s := by split <;> assumption
theorem win_b {m : Md} {t : Int} (h : Bd m t) (hm : OkM m) (ht : U t) (h4 : 4 * m.mss ≤ t) {s : Sm} (hs : OkS s) (tso : Int) : Ok2 (mWindow m s tso).win t s ∧ (mWindow m s tso).sav ≤ t := by
  have hmss := hm.mss
  have hv : Bd (mW1 m s) t := ⟨le_if (by omega) (Int.le_trans (sub_le hm.win hs.lost) h.win), h.sav⟩
  have hvm : (mW1 m s).mss = m.mss := rfl
  unfold mWindow
  generalize mW1 m s = v at *
  have tl : t ≤ addI t (sAck s) := le_add ht hs.ack
  have vl : Ok2 v.win t s := .inl (Int.le_trans hv.win tl)
  have al : Ok2 (addI v.win (sAck s)) t s := .inl (add_le hv.win)
  have hx : Ok2 (mW2 v s tso).win t s ∧ (mW2 v s tso).sav ≤ t ∧ (mW2 v s tso).mss = v.mss := by
    unfold mW2
    split
    · exact ⟨ok2_if (.inr (Int.le_refl _)) vl, hv.sav, rfl⟩
    · split
      · split
        · refine ⟨?_, hv.sav, rfl⟩
          show Ok2 (if mTar v tso < addI v.win (sAck s) then mTar v tso else addI v.win (sAck s)) t s
          split
          · rename_i hlt
            rcases al with a | a
            · exact .inl (by omega)
            · exact .inr (by omega)
          · exact al
        · split
          · exact ⟨al, hv.sav, rfl⟩
          · exact ⟨vl, hv.sav, rfl⟩
      · exact ⟨vl, hv.sav, rfl⟩
  generalize mW2 v s tso = x at *
  obtain ⟨x1, x2, x3⟩ := hx
  have fl : Ok2 (4 * x.mss) t s := .inl (by rw [x3, hvm]; omega)
  unfold mW4
  split
  · exact ⟨fl, x2⟩
  · exact ⟨ok2_if fl x1, x2⟩
theorem upd_b {m : Md} {t : Int} (h : Bd m t) (hm : OkM m) (ht : U t) (h4 : 4 * m.mss ≤ t) {s : Sm} (hs : OkS s) (tso : Int) : Ok2 (mUpd m s tso).win t s ∧ (mUpd m s tso).sav ≤ t := by
  have b1 : Bd (mU1 m s) t := ⟨h.win, h.sav⟩
  have b2 := b_cyc (b_meas b1 s) s
  have b3 : Bd (mPipe (mCyc (mMeas (mU1 m s) s) s) (rB m.r s) s) t := ⟨b2.win, b2.sav⟩
  have b4 := b_rec (b_pace (b_look (b_m2 (b_m1 b3) s) ht.1 s (rB m.r s))) ht.1 s (rB m.r s)
  have o4 : OkM (mRecover (mPace (mU2 (mU1 m s) (rB m.r s) s)) s (rB m.r s)) := (((((((hm.u1 hs).meas hs).cyc hs).pipe.m1.m2 hs).look hs).pace.recover hs))
  have e : (mRecover (mPace (mU2 (mU1 m s) (rB m.r s) s)) s (rB m.r s)).mss = m.mss := by rw [(k_rec _ s _).mss, pace_mss, (k_u2 _ _ s).mss]
  exact win_b (m := mRecover (mPace (mU2 (mU1 m s) (rB m.r s) s)) s (rB m.r s)) b4 o4 ht (by rw [e]; exact h4) hs tso
end BbrH

namespace BbrP
open Arith ArithC _root_.Go.X.Target BbrM
theorem wnew_tri (w : Int) : Tri Tryz.prog N_winmax_New [.lf (.int .u64 w)] [.lf .ptr] emp (fun r => ex fun n : Nat => pur (r = some ⟨n, 0⟩) (blk n [.int .u64 (Wn.mk w 0 0 0 0 0 0 0).w, .int .u64 (Wn.mk w 0 0 0 0 0 0 0).t0, .int .u64 (Wn.mk w 0 0 0 0 0 0 0).v0, .int .u64 (Wn.mk w 0 0 0 0 0 0 0).t1, .int .u64 (Wn.mk w 0 0 0 0 0 0 0).v1, .int .u64 (Wn.mk w 0 0 0 0 0 0 0).t2, .int .u64 (Wn.mk w 0 0 0 0 0 0 0).v2, .int .u64 (Wn.mk w 0 0 0 0 0 0 0).la])) :=
  tri_0 (call_winmax_New w) fun w0 S R h => by
    unfold W_winmax_New
    refine w_new h fun n w h => ?_
    exact Own.retE n (Own.retP rfl h.fin)
theorem best_tri (b : Nat) (v : Wn) : Tri Tryz.prog N_winmax_Max_Best [.lf (.ptr (some ⟨b, 0⟩))] [.lf (.int .u64)] (blk b [.int .u64 v.w, .int .u64 v.t0, .int .u64 v.v0, .int .u64 v.t1, .int .u64 v.v1, .int .u64 v.t2, .int .u64 v.v2, .int .u64 v.la]) (fun r => pur (r = v.v0) (blk b [.int .u64 v.w, .int .u64 v.t0, .int .u64 v.v0, .int .u64 v.t1, .int .u64 v.v1, .int .u64 v.t2, .int .u64 v.v2, .int .u64 v.la])) :=
  tri_0 (call_winmax_Max_Best _) fun w0 S R h => by
    unfold W_winmax_Max_Best
    refine w_ite (fun c => (by cases c)) fun _ => ?_
    refine w_deref ⟨by decide, w_ld h rfl ?_⟩
    exact Own.retP rfl h.fin
theorem near_tri (t s v w : Int) (ht : U t) (hs : U s) : Tri Tryz.prog N_winmax_near [.lf (.int .u64 t), .agg (Ks.mk KP (s, v)), .lf (.int .u64 w)] [.lf .bool] emp (fun r => pur (r = !decide (far t s w)) emp) :=
  tri_0 (call_winmax_near t (s, v) w) fun w0 S R h => by
    unfold W_winmax_near
    refine w_new h fun n w h => ?_
    refine w_ld h rfl ?_
    rw [rsub_eq ht hs]
    exact Own.retP (by unfold far; rw [Bool.eq_iff_iff]; simp) h.fin
theorem push_tri (b : Nat) (v : Wn) (t x : Int) : Tri Tryz.prog N_winmax_Max_push [.lf (.ptr (some ⟨b, 0⟩)), .agg (Ks.mk KP (t, x))] [] (blk b [.int .u64 v.w, .int .u64 v.t0, .int .u64 v.v0, .int .u64 v.t1, .int .u64 v.v1, .int .u64 v.t2, .int .u64 v.v2, .int .u64 v.la]) (fun _ => blk b [.int .u64 (v.push t x).w, .int .u64 (v.push t x).t0, .int .u64 (v.push t x).v0, .int .u64 (v.push t x).t1, .int .u64 (v.push t x).v1, .int .u64 (v.push t x).t2, .int .u64 (v.push t x).v2, .int .u64 (v.push t x).la]) :=
  tri_0 (call_winmax_Max_push _ (t, x)) fun w0 S R h => by
    unfold W_winmax_Max_push
    refine w_new h fun n w h => ?_
    refine w_drw h fun w h => ?_
    refine w_ldAll h rfl ?_
    refine w_deref (w_deref (w_deref (w_deref (w_deref ⟨by decide, by decide, w_ld h rfl (w_ld h rfl ⟨by decide, ?_⟩)⟩))))
    refine w_set h rfl fun w h => ?_
    dsimp only [upd, over] at h
    refine w_chkAll h ⟨by decide, ?_⟩
    refine w_set h rfl fun w h => ?_
    dsimp only [upd, over] at h
    refine w_chkAll h ⟨by decide, ?_⟩
    refine w_set h rfl fun w h => ?_
    dsimp only [upd, over] at h
    exact Own.keep (A := blk b [.int .u64 (v.push t x).w, .int .u64 (v.push t x).t0, .int .u64 (v.push t x).v0, .int .u64 (v.push t x).t1, .int .u64 (v.push t x).v1, .int .u64 (v.push t x).t2, .int .u64 (v.push t x).v2, .int .u64 (v.push t x).la]) h
def stA (v : Wn) (f t x : Int) (i : Int) : Wn := { v with
  t0 := if f = 0 ∧ 0 < i then t else v.t0, v0 := if f = 0 ∧ 0 < i then x else v.v0
  t1 := if f ≤ 1 ∧ 1 < f + i then t else v.t1, v1 := if f ≤ 1 ∧ 1 < f + i then x else v.v1
  t2 := if 2 < f + i then t else v.t2, v2 := if 2 < f + i then x else v.v2 }
theorem all_tri (b : Nat) (v : Wn) (f t x : Int) (hf : f = 0 ∨ f = 1 ∨ f = 2) : Tri Tryz.prog N_winmax_Max_all [.lf (.ptr (some ⟨b, 0⟩)), .lf (.int .i64 f), .agg (Ks.mk KP (t, x))] [] (blk b [.int .u64 v.w, .int .u64 v.t0, .int .u64 v.v0, .int .u64 v.t1, .int .u64 v.v1, .int .u64 v.t2, .int .u64 v.v2, .int .u64 v.la])
    (fun _ => blk b [.int .u64 (if f = 0 then v.all t x else if f = 1 then v.s12 t x else v.s2 t x).w, .int .u64 (if f = 0 then v.all t x else if f = 1 then v.s12 t x else v.s2 t x).t0, .int .u64 (if f = 0 then v.all t x else if f = 1 then v.s12 t x else v.s2 t x).v0, .int .u64 (if f = 0 then v.all t x else if f = 1 then v.s12 t x else v.s2 t x).t1, .int .u64 (if f = 0 then v.all t x else if f = 1 then v.s12 t x else v.s2 t x).v1, .int .u64 (if f = 0 then v.all t x else if f = 1 then v.s12 t x else v.s2 t x).t2, .int .u64 (if f = 0 then v.all t x else if f = 1 then v.s12 t x else v.s2 t x).v2, .int .u64 (if f = 0 then v.all t x else if f = 1 then v.s12 t x else v.s2 t x).la]) :=
  tri_0 (call_winmax_Max_all _ f (t, x)) fun w0 S R h => by
    unfold W_winmax_Max_all
    refine w_new h fun n w h => ?_
    refine w_deref ?_
    refine ⟨⟨rfl, fun _ => by simp⟩, f.toNat, 3, 3, ?_, rfl, rfl, ⟨by omega, Nat.le_refl _, Nat.le_refl _⟩, ?_⟩
    · show f = f.toNat; omega
    have h : Own w0 S R w (blk b [.int .u64 (stA v f t x 0).w, .int .u64 (stA v f t x 0).t0, .int .u64 (stA v f t x 0).v0, .int .u64 (stA v f t x 0).t1, .int .u64 (stA v f t x 0).v1, .int .u64 (stA v f t x 0).t2, .int .u64 (stA v f t x 0).v2, .int .u64 (stA v f t x 0).la] ^ blk n (Ks.mk KP (t, x)) ^ emp) := by
      have h := h.blkEq (b := b) (L' := [.int .u64 (stA v f t x 0).w, .int .u64 (stA v f t x 0).t0, .int .u64 (stA v f t x 0).v0, .int .u64 (stA v f t x 0).t1, .int .u64 (stA v f t x 0).v1, .int .u64 (stA v f t x 0).t2, .int .u64 (stA v f t x 0).v2, .int .u64 (stA v f t x 0).la]) (by rcases hf with rfl | rfl | rfl <;> simp [stA])
      exact h
    have hlen : ((Sl.sub ⟨some ⟨b, 0 + 1⟩, 3, 3⟩ f.toNat 3 3 2).len : Int) = 3 - f := by
      show ((3 - f.toNat : Nat) : Int) = _; omega
    refine w_loop (fun i : Int => blk b [.int .u64 (stA v f t x i).w, .int .u64 (stA v f t x i).t0, .int .u64 (stA v f t x i).v0, .int .u64 (stA v f t x i).t1, .int .u64 (stA v f t x i).v1, .int .u64 (stA v f t x i).t2, .int .u64 (stA v f t x i).v2, .int .u64 (stA v f t x i).la] ^ blk n (Ks.mk KP (t, x)) ^ emp) (fun i : Int => 0 ≤ i ∧ i ≤ 3 - f) (fun i : Int => 3 - i.toNat) h ⟨Int.le_refl _, by omega⟩ ?_
    rintro (i : Int) w ⟨h0, h1⟩ h
    rw [hlen]
    refine w_ite (fun c => ?_) fun c => ?_
    · have c : i < 3 - f := by simpa using c
      refine w_drw h fun w h => w_ldAll h rfl (w_deref ?_)
      rw [wi (n := f + i) (by omega) (by omega), wi (n := i + 1) (by omega) (by omega)]
      refine ⟨by omega, ?_⟩
      have hi : (f = 0 ∧ i = 0) ∨ (f = 0 ∧ i = 1) ∨ (f = 0 ∧ i = 2) ∨ (f = 1 ∧ i = 0) ∨ (f = 1 ∧ i = 1) ∨ (f = 2 ∧ i = 0) := by omega
      refine w_setTo h b [.int .u64 (stA v f t x (i + 1)).w, .int .u64 (stA v f t x (i + 1)).t0, .int .u64 (stA v f t x (i + 1)).v0, .int .u64 (stA v f t x (i + 1)).t1, .int .u64 (stA v f t x (i + 1)).v1, .int .u64 (stA v f t x (i + 1)).t2, .int .u64 (stA v f t x (i + 1)).v2, .int .u64 (stA v f t x (i + 1)).la] rfl ?_ ?_ fun w h => ?_
      · rcases hi with ⟨rfl, rfl⟩ | ⟨rfl, rfl⟩ | ⟨rfl, rfl⟩ | ⟨rfl, rfl⟩ | ⟨rfl, rfl⟩ | ⟨rfl, rfl⟩ <;> rfl
      · rcases hi with ⟨rfl, rfl⟩ | ⟨rfl, rfl⟩ | ⟨rfl, rfl⟩ | ⟨rfl, rfl⟩ | ⟨rfl, rfl⟩ | ⟨rfl, rfl⟩ <;> rfl
      · exact ⟨⟨⟨by show 0 ≤ i + 1; omega, by show i + 1 ≤ _; omega⟩, h⟩, by show 3 - (i + 1).toNat < 3 - i.toNat; omega⟩
    · have c : i = 3 - f := by have : ¬ i < 3 - f := by simpa using c
                               omega
      subst c
      refine Own.keep (A := blk b [.int .u64 (if f = 0 then v.all t x else if f = 1 then v.s12 t x else v.s2 t x).w, .int .u64 (if f = 0 then v.all t x else if f = 1 then v.s12 t x else v.s2 t x).t0, .int .u64 (if f = 0 then v.all t x else if f = 1 then v.s12 t x else v.s2 t x).v0, .int .u64 (if f = 0 then v.all t x else if f = 1 then v.s12 t x else v.s2 t x).t1, .int .u64 (if f = 0 then v.all t x else if f = 1 then v.s12 t x else v.s2 t x).v1, .int .u64 (if f = 0 then v.all t x else if f = 1 then v.s12 t x else v.s2 t x).t2, .int .u64 (if f = 0 then v.all t x else if f = 1 then v.s12 t x else v.s2 t x).v2, .int .u64 (if f = 0 then v.all t x else if f = 1 then v.s12 t x else v.s2 t x).la]) (h.blkEq (b := b) ?_)
      rcases hf with rfl | rfl | rfl <;> simp [stA, Wn.all, Wn.s12, Wn.s2]
theorem reset_tri (b : Nat) (v : Wn) (t x : Int) : Tri Tryz.prog N_winmax_Max_Reset [.lf (.ptr (some ⟨b, 0⟩)), .lf (.int .u64 t), .lf (.int .u64 x)] [] (blk b [.int .u64 v.w, .int .u64 v.t0, .int .u64 v.v0, .int .u64 v.t1, .int .u64 v.v1, .int .u64 v.t2, .int .u64 v.v2, .int .u64 v.la]) (fun _ => blk b [.int .u64 ((v.tick t).all t x).w, .int .u64 ((v.tick t).all t x).t0, .int .u64 ((v.tick t).all t x).v0, .int .u64 ((v.tick t).all t x).t1, .int .u64 ((v.tick t).all t x).v1, .int .u64 ((v.tick t).all t x).t2, .int .u64 ((v.tick t).all t x).v2, .int .u64 ((v.tick t).all t x).la]) :=
  tri_0 (call_winmax_Max_Reset _ t x) fun w0 S R h => by
    unfold W_winmax_Max_Reset
    refine w_ite (fun c => (by cases c)) fun _ => ?_
    refine w_deref (w_ld h rfl (w_deref ?_))
    refine w_setTo h b [.int .u64 (v.tick t).w, .int .u64 (v.tick t).t0, .int .u64 (v.tick t).v0, .int .u64 (v.tick t).t1, .int .u64 (v.tick t).v1, .int .u64 (v.tick t).t2, .int .u64 (v.tick t).v2, .int .u64 (v.tick t).la] rfl rfl rfl fun w h => ?_
    refine w_call (all_tri b (v.tick t) 0 t x (.inl rfl)) h fun r w h => ?_
    exact Own.keep (A := blk b [.int .u64 ((v.tick t).all t x).w, .int .u64 ((v.tick t).all t x).t0, .int .u64 ((v.tick t).all t x).v0, .int .u64 ((v.tick t).all t x).t1, .int .u64 ((v.tick t).all t x).v1, .int .u64 ((v.tick t).all t x).t2, .int .u64 ((v.tick t).all t x).v2, .int .u64 ((v.tick t).all t x).la]) h
end BbrP


end Go.X
