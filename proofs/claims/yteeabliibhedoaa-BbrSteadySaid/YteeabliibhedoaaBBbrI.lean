/- Contracts and plain facts: BbrI. -/
import Derived.Test.YteeabliibhedoaaBArith
import Derived.Test.YteeabliibhedoaaBBbrM
import Derived.Test.YteeabliibhedoaaBBbrMm
import Derived.Test.YteeabliibhedoaaBBbrF
import Derived.Test.YteeabliibhedoaaBBbrG
import Derived.Test.YteeabliibhedoaaXw
import Derived.Test.YteeabliibhedoaaK
set_option linter.unusedVariables false
set_option linter.unusedSimpArgs false
set_option linter.unusedSectionVars false
namespace Go.X
namespace BbrI
open Arith BbrM BbrMm BbrF BbrG
structure K5 (u v : Md) : Prop where
  win : v.win = u.win
  sav : v.sav = u.sav
  rec' : v.rec' = u.rec'
  first : v.first = u.first
  til : v.til = u.til
theorem K5.trans {a b c : Md} (h : K5 a b) (g : K5 b c) : K5 a c := ⟨g.win.trans h.win, g.sav.trans h.sav, g.rec'.trans h.rec', g.first.trans h.first, g.til.trans h.til⟩
theorem f_meas (m : Md) (s : Sm) : K5 m (mMeas m s) := by unfold mMeas; (repeat' split) <;> exact ⟨rfl, rfl, rfl, rfl, rfl⟩
theorem f_cyc (m : Md) (s : Sm) : K5 m (mCyc m s) := by unfold mCyc; split <;> exact ⟨rfl, rfl, rfl, rfl, rfl⟩
theorem f_m1 (m : Md) : K5 m (mM1 m) := by unfold mM1; split <;> exact ⟨rfl, rfl, rfl, rfl, rfl⟩
theorem f_m2 (m : Md) (s : Sm) : K5 m (mM2 m s) := by unfold mM2; split <;> exact ⟨rfl, rfl, rfl, rfl, rfl⟩
theorem f_pace (m : Md) : K5 m (mPace m) := by unfold mPace; (repeat' split) <;> exact ⟨rfl, rfl, rfl, rfl, rfl⟩
theorem f_look (m : Md) (s : Sm) (o : Bool) (h1 : m.b.on = false) (h2 : bOld m.b (sNow s) = false) : K5 m (mLook m s o) ∧ (mLook m s o).b.on = false := by
  have e : mLook m s o = mProbed { m with b := (bU m.b (sNow s) (sRtt s) o (sFli s) (mFloor m)).2 } (bU m.b (sNow s) (sRtt s) o (sFli s) (mFloor m)).1 (sNow s) := rfl
  rw [e]
  unfold bU
  rw [h2, if_neg (by simp), if_neg (by rw [h1]; simp)]
  refine ⟨⟨rfl, rfl, rfl, rfl, rfl⟩, ?_⟩
  show (bNew _ _ _).on = false
  rw [new_on]; exact h1
theorem old_no {b : Pb} (h : OkB b) {now : Int} (hn : now ≤ 10000000000) : bOld b now = false := by
  have h1 := h.at'
  unfold U at h1
  unfold bOld
  have : ¬ now > addI b.at' 10000000000 := by unfold addI; split <;> omega
  simp [this]
/-- Till recovery nothing of it turns, while no probe comes. -/
theorem f_u2 {m : Md} (hm : OkM m) {s : Sm} (hs : OkS s) (hold : bOld m.b (sNow s) = false) (hon : m.b.on = false) (o : Bool) :
    K5 m (mPace (mU2 (mU1 m s) o s)) ∧ (mPace (mU2 (mU1 m s) o s)).b.on = false := by
  have a : K5 m (mU1 m s) := ⟨rfl, rfl, rfl, rfl, rfl⟩
  have b := f_meas (mU1 m s) s
  have c := f_cyc (mMeas (mU1 m s) s) s
  have d : K5 (mCyc (mMeas (mU1 m s) s) s) (mPipe (mCyc (mMeas (mU1 m s) s) s) o s) := ⟨rfl, rfl, rfl, rfl, rfl⟩
  have e := f_m1 (mPipe (mCyc (mMeas (mU1 m s) s) s) o s)
  have f := f_m2 (mM1 (mPipe (mCyc (mMeas (mU1 m s) s) s) o s)) s
  have ok : OkM (mM2 (mM1 (mPipe (mCyc (mMeas (mU1 m s) s) s) o s)) s) := ((hm.u1 hs).meas hs |>.cyc hs).pipe.m1.m2 hs
  have hb : (mM2 (mM1 (mPipe (mCyc (mMeas (mU1 m s) s) s) o s)) s).b = m.b := by
    rw [(mm _ s).2.1]
    have := ((s_meas (mU1 m s) s).trans (s_cyc _ s)).b
    exact this
  have g := f_look (mM2 (mM1 (mPipe (mCyc (mMeas (mU1 m s) s) s) o s)) s) s o (by rw [hb]; exact hon) (by rw [hb]; exact hold)
  have p := f_pace (mU2 (mU1 m s) o s)
  refine ⟨(((((a.trans b).trans c).trans d).trans e).trans f).trans (g.1.trans p), ?_⟩
  rw [(s_pace _).b]
  exact g.2
/-- What it is while nothing is lost. -/
structure Quiet (m : Md) : Prop where
  ok : OkM m
  inv : BbrG.Inv m
  mss : m.mss = 1000
  on : m.b.on = false
  rec' : m.rec' = false
theorem Quiet.new : Quiet (mNew 1000) := ⟨OkM.new _, BbrG.Inv.new _, rfl, rfl, rfl⟩
theorem upd_b' (m : Md) (s : Sm) (t : Int) : (mUpd m s t).b = (mPace (mU2 (mU1 m s) (rB m.r s) s)).b := by
  have e : mUpd m s t = mU3 (mU2 (mU1 m s) (rB m.r s) s) (rB m.r s) s t := rfl
  rw [e, (s_u3 _ _ s t).b, (s_pace _).b]
theorem w2_rec (m : Md) (s : Sm) (t : Int) : (mW2 m s t).rec' = m.rec' := by unfold mW2; (repeat' split) <;> rfl
theorem w4_rec (m : Md) : (mW4 m).rec' = m.rec' := by unfold mW4; split <;> rfl
theorem window_rec (m : Md) (s : Sm) (t : Int) : (mWindow m s t).rec' = m.rec' := by
  unfold mWindow; rw [w4_rec]; show (mW2 (mW1 m s) s t).rec' = _; rw [w2_rec]
theorem Quiet.go {m : Md} (h : Quiet m) {s : Sm} (hs : OkS s) (hold : bOld m.b (sNow s) = false) (hl : sLost s = 0) {t : Int} (ht : U t) : Quiet (mUpd m s t) := by
  obtain ⟨k, hon⟩ := f_u2 h.ok hs hold h.on (rB m.r s)
  refine ⟨h.ok.upd hs ht, (tr m s t h.inv).inv, by rw [upd_mss]; exact h.mss, by rw [upd_b']; exact hon, ?_⟩
  show (mWindow (mRecover (mPace (mU2 (mU1 m s) (rB m.r s) s)) s (rB m.r s)) s t).rec' = false
  rw [window_rec]
  have k1 := k.rec'
  generalize mPace (mU2 (mU1 m s) (rB m.r s) s) = x at *
  unfold mRecover
  rw [if_neg (by omega), if_neg (by rw [k1, h.rec']; simp), k1, h.rec']
theorem Quiet.upd {m : Md} (h : Quiet m) {s : Sm} (hs : OkS s) (hn : sNow s ≤ 10000000000) (hl : sLost s = 0) {t : Int} (ht : U t) : Quiet (mUpd m s t) := h.go hs (old_no h.ok.b hn) hl ht
end BbrI

end Go.X
