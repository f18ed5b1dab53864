/- Contracts and plain facts: BbrI. -/
import Derived.Test.YteeabliibhedoaaBArith
import Derived.Test.YteeabliibhedoaaBBbrM
import Derived.Test.YteeabliibhedoaaBBbrMm
import Derived.Test.YteeabliibhedoaaBBbrF
import Derived.Test.YteeabliibhedoaaBBbrG
import Derived.Test.YteeabliibhedoaaBBbrH
import Derived.Test.YteeabliibhedoaaXw
import Derived.Test.YteeabliibhedoaaK
set_option linter.unusedVariables false
set_option linter.unusedSimpArgs false
set_option linter.unusedSectionVars false
namespace Go.X
namespace BbrI
open Arith BbrM BbrMm BbrF BbrG BbrH
structure K5 (u v : Md) : Prop where
  win : v.win = u.win
  sav : v.sav = u.sav
  rec' : v.rec' = u.rec'
  first : v.first = u.first
  til : v.til = u.til
theorem K5.trans {a b c : Md} (h : K5 a b) (g : K5 b c) : K5 a c := ⟨g.win.trans h.win, g.sav.trans h.sav, g.rec'.trans h.rec', g.first.trans h.first, g.til.trans h.til⟩
theorem f_meas (m : Md) (s : Sm) : K5 m (mMeas m s) := by unfold mMeas; (repeat' split) <;> exact ⟨rfl, rfl, rfl, rfl, rfl⟩
theorem f_cyc (m : Md) (s : Sm) : K5 m (mCyc m s) := by unfold mCyc; split <;> exact ⟨rfl, rfl, rfl, rfl, rfl⟩
theorem f_m1 (m : Md) : K5 m (mM1 m) := by unfold mM1; split <;> exact ⟨rfl, rfl, rfl, rfl, rfl⟩
theorem f_m2 (m : Md) (s : Sm) : K5 m (mM2 m s) := by unfold mM2; split <;> exact ⟨rfl, rfl, rfl, rfl, rfl⟩
theorem f_pace (m : Md) : K5 m (mPace m) := by unfold mPace; (repeat' split) <;> exact ⟨rfl, rfl, rfl, rfl, rfl⟩
theorem f_look (m : Md) (s : Sm) (o : Bool) (h1 : m.b.on = false) (h2 : bOld m.b (sNow s) = false) : K5 m (mLook m s o) ∧ (mLook m s o).b.on = false := by
  have e : mLook m s o = mProbed { m with b := (bU m.b (sNow s) (sRtt s) o (sFli s) (mFloor m)).2 } (bU m.b (sNow s) (sRtt s) o (sFli s) (mFloor m)).1 (sNow s) := rfl
  rw [e]
  unfold bU
  rw [h2, if_neg (by simp), if_neg (by rw [h1]; simp)]
  refine ⟨⟨rfl, rfl, rfl, rfl, rfl⟩, ?_⟩
  show (bNew _ _ _).on = false
  rw [new_on]; exact h1
theorem old_no {b : Pb} (h : OkB b) {now : Int} (hn : now ≤ 10000000000) : bOld b now = false := by
  have h1 := h.at'
  unfold U at h1
  unfold bOld
  have : ¬ now > addI b.at' 10000000000 := by unfold addI; split <;> omega
  simp [this]
/-- Till recovery nothing of it turns, while no probe comes. -/
theorem f_u2 {m : Md} (hm : OkM m) {s : Sm} (hs : OkS s) (hn : sNow s ≤ 10000000000) (hon : m.b.on = false) (o : Bool) :
    K5 m (mPace (mU2 (mU1 m s) o s)) ∧ (mPace (mU2 (mU1 m s) o s)).b.on = false := by
  have a : K5 m (mU1 m s) := ⟨rfl, rfl, rfl, rfl, rfl⟩
  have b := f_meas (mU1 m s) s
  have c := f_cyc (mMeas (mU1 m s) s) s
  have d : K5 (mCyc (mMeas (mU1 m s) s) s) (mPipe (mCyc (mMeas (mU1 m s) s) s) o s) := ⟨rfl, rfl, rfl, rfl, rfl⟩
  have e := f_m1 (mPipe (mCyc (mMeas (mU1 m s) s) s) o s)
  have f := f_m2 (mM1 (mPipe (mCyc (mMeas (mU1 m s) s) s) o s)) s
  have ok : OkM (mM2 (mM1 (mPipe (mCyc (mMeas (mU1 m s) s) s) o s)) s) := ((hm.u1 hs).meas hs |>.cyc hs).pipe.m1.m2 hs
  have hb : (mM2 (mM1 (mPipe (mCyc (mMeas (mU1 m s) s) s) o s)) s).b = m.b := by
    rw [(mm _ s).2.1]
    have := ((s_meas (mU1 m s) s).trans (s_cyc _ s)).b
    exact this
  have g := f_look (mM2 (mM1 (mPipe (mCyc (mMeas (mU1 m s) s) s) o s)) s) s o (by rw [hb]; exact hon) (old_no ok.b hn)
  have p := f_pace (mU2 (mU1 m s) o s)
  refine ⟨(((((a.trans b).trans c).trans d).trans e).trans f).trans (g.1.trans p), ?_⟩
  rw [(s_pace _).b]
  exact g.2
/-- What it is while nothing is lost. -/
structure Quiet (m : Md) : Prop where
  ok : OkM m
  inv : BbrG.Inv m
  mss : m.mss = 1000
  on : m.b.on = false
  rec' : m.rec' = false
theorem Quiet.new : Quiet (mNew 1000) := ⟨OkM.new _, BbrG.Inv.new _, rfl, rfl, rfl⟩
theorem upd_b' (m : Md) (s : Sm) (t : Int) : (mUpd m s t).b = (mPace (mU2 (mU1 m s) (rB m.r s) s)).b := by
  have e : mUpd m s t = mU3 (mU2 (mU1 m s) (rB m.r s) s) (rB m.r s) s t := rfl
  rw [e, (s_u3 _ _ s t).b, (s_pace _).b]
theorem w2_rec (m : Md) (s : Sm) (t : Int) : (mW2 m s t).rec' = m.rec' := by unfold mW2; (repeat' split) <;> rfl
theorem w4_rec (m : Md) : (mW4 m).rec' = m.rec' := by unfold mW4; split <;> rfl
theorem window_rec (m : Md) (s : Sm) (t : Int) : (mWindow m s t).rec' = m.rec' := by
  unfold mWindow; rw [w4_rec]; show (mW2 (mW1 m s) s t).rec' = _; rw [w2_rec]
theorem Quiet.upd {m : Md} (h : Quiet m) {s : Sm} (hs : OkS s) (hn : sNow s ≤ 10000000000) (hl : sLost s = 0) {t : Int} (ht : U t) : Quiet (mUpd m s t) := by
  obtain ⟨k, hon⟩ := f_u2 h.ok hs hn h.on (rB m.r s)
  refine ⟨h.ok.upd hs ht, (tr m s t h.inv).inv, by rw [upd_mss]; exact h.mss, by rw [upd_b']; exact hon, ?_⟩
  show (mWindow (mRecover (mPace (mU2 (mU1 m s) (rB m.r s) s)) s (rB m.r s)) s t).rec' = false
  rw [window_rec]
  have k1 := k.rec'
  generalize mPace (mU2 (mU1 m s) (rB m.r s) s) = x at *
  unfold mRecover
  rw [if_neg (by omega), if_neg (by rw [k1, h.rec']; simp), k1, h.rec']
/-- A loss. -/
theorem lossy {m : Md} (h : Quiet m) {s : Sm} (hs : OkS s) (hn : sNow s ≤ 10000000000) (hl : sLost s > 0) (hf : sFli s = 10000) (ha : sAck s = 0) {t : Int} (ht : U t) :
    10000 ≤ (mUpd m s t).win ∧ (mUpd m s t).win ≤ (if 10000 > m.win then 10000 else m.win) ∧ m.win ≤ (mUpd m s t).sav ∧ (mUpd m s t).rec' = true ∧ (mUpd m s t).til = addI (sDel s) 10000 ∧ (mUpd m s t).b.on = false := by
  obtain ⟨k, hon⟩ := f_u2 h.ok hs hn h.on (rB m.r s)
  have hb := upd_b' m s t
  have hi := (tr m s t h.inv).inv
  have hms := upd_mss m s t
  have hms := upd_mss m s t
  have hm3 : (mUpd m s t).mode ≠ 3 := fun hh => by have := hi.on.2 hh; rw [hb, hon] at this; cases this
  rw [hb]
  have e : mUpd m s t = mWindow (mRecover (mPace (mU2 (mU1 m s) (rB m.r s) s)) s (rB m.r s)) s t := rfl
  have hsm : (mPace (mU2 (mU1 m s) (rB m.r s) s)).mss = 1000 := by rw [pace_mss, (k_u2 _ _ s).mss]; exact h.mss
  have hmode := (s_window (mRecover (mPace (mU2 (mU1 m s) (rB m.r s) s)) s (rB m.r s)) s t).mode
  rw [← e] at hmode
  have hmode2 := (s_rec (mPace (mU2 (mU1 m s) (rB m.r s) s)) s (rB m.r s)).mode
  rw [e] at hm3 ⊢
  have hx3 : (mPace (mU2 (mU1 m s) (rB m.r s) s)).mode ≠ 3 := by rw [← hmode2, ← hmode, e]; exact hm3
  have hwu := h.ok.win
  have k1 := k.win
  have k3 := k.rec'
  clear hmode hmode2 hm3 e hms hi hb k
  generalize mPace (mU2 (mU1 m s) (rB m.r s) s) = x at *
  have er : mRecover x s (rB m.r s) = { x with rec' := true, first := true, til := addI (sDel s) (sFli s), sav := if x.win > x.sav then x.win else x.sav } := by
    unfold mRecover; rw [if_pos ⟨hl, by rw [k3, h.rec']⟩]
  rw [er]
  have e4 : mWindow { x with rec' := true, first := true, til := addI (sDel s) (sFli s), sav := if x.win > x.sav then x.win else x.sav } s t
      = { x with rec' := true, first := true, til := addI (sDel s) (sFli s), sav := if x.win > x.sav then x.win else x.sav, win :=
          if 4 * x.mss > (if addI (sFli s) (sAck s) > (if x.mss > subI x.win (sLost s) then x.mss else subI x.win (sLost s)) then addI (sFli s) (sAck s) else (if x.mss > subI x.win (sLost s) then x.mss else subI x.win (sLost s))) then 4 * x.mss
          else (if addI (sFli s) (sAck s) > (if x.mss > subI x.win (sLost s) then x.mss else subI x.win (sLost s)) then addI (sFli s) (sAck s) else (if x.mss > subI x.win (sLost s) then x.mss else subI x.win (sLost s))) } := by
    unfold mWindow mW2
    rw [if_pos rfl]
    unfold mW4
    rw [if_neg hx3]
    rfl
  rw [e4, hsm, k1, hf, ha]
  have hs1 := sub_le hwu hs.lost
  have ea : addI 10000 0 = 10000 := by decide
  rw [ea]
  refine ⟨?_, ?_, ?_, rfl, rfl, hon⟩
  · dsimp only; (repeat' split) <;> omega
  · dsimp only; (repeat' split) <;> omega
  · dsimp only; split <;> omega
/-- All is delivered again. -/
theorem after {m : Md} (hm : OkM m) (hi : BbrG.Inv m) (hon0 : m.b.on = false) (hrec : m.rec' = true) {s : Sm} (hs : OkS s) (hn : sNow s ≤ 10000000000) (hl : sLost s = 0) (hack : sAck s > 0) (htil : m.til ≤ sDel s) {t : Int} (ht : U t) {w0 : Int} (hsav : w0 ≤ m.sav)
    (hf : (mUpd m s t).p.full = false) : w0 ≤ (mUpd m s t).win := by
  obtain ⟨k, hon⟩ := f_u2 hm hs hn hon0 (rB m.r s)
  have hb := upd_b' m s t
  have hi' := (tr m s t hi).inv
  have hm3 : (mUpd m s t).mode ≠ 3 := fun hh => by have := hi'.on.2 hh; rw [hb, hon] at this; cases this
  have e : mUpd m s t = mWindow (mRecover (mPace (mU2 (mU1 m s) (rB m.r s) s)) s (rB m.r s)) s t := rfl
  have sw := (s_rec (mPace (mU2 (mU1 m s) (rB m.r s) s)) s (rB m.r s)).trans (s_window (mRecover (mPace (mU2 (mU1 m s) (rB m.r s) s)) s (rB m.r s)) s t)
  rw [← e] at sw
  have hx3 : (mPace (mU2 (mU1 m s) (rB m.r s) s)).mode ≠ 3 := by rw [← sw.mode]; exact hm3
  have hxf : (mPace (mU2 (mU1 m s) (rB m.r s) s)).p.full = false := by rw [← sw.p]; exact hf
  have ok : OkM (mPace (mU2 (mU1 m s) (rB m.r s) s)) := ((((((hm.u1 hs).meas hs).cyc hs).pipe.m1.m2 hs).look hs).pace)
  rw [e]
  have k2 := k.sav
  have k3 := k.rec'
  have k5 := k.til
  clear sw e hm3 hi' hb k hf
  generalize mPace (mU2 (mU1 m s) (rB m.r s) s) = x at *
  have er : mRecover x s (rB m.r s) = mBack { x with rec' := false, first := false } := by
    unfold mRecover
    rw [if_neg (by omega), if_pos (by rw [k3, hrec]), if_neg (by rw [k5]; omega)]
    unfold mOver
    rw [if_pos hx3]
  rw [er]
  have hy : w0 ≤ (mBack { x with rec' := false, first := false }).win := by
    show w0 ≤ if x.sav > x.win then x.sav else x.win
    split <;> omega
  have hyU : U (mBack { x with rec' := false, first := false }).win := U_if ok.sav ok.win
  have hy3 : (mBack { x with rec' := false, first := false }).mode ≠ 3 := hx3
  have hyf : (mBack { x with rec' := false, first := false }).p.full = false := hxf
  have hyr : (mBack { x with rec' := false, first := false }).first = false := rfl
  have hym : U (mBack { x with rec' := false, first := false }).mss := ok.mssU
  generalize mBack { x with rec' := false, first := false } = y at *
  have hv : w0 ≤ (mW1 y s).win := by
    show w0 ≤ if y.mss > subI y.win (sLost s) then y.mss else subI y.win (sLost s)
    have : subI y.win (sLost s) = y.win := by rw [hl]; have := hyU.1; unfold subI; rw [if_neg (by omega)]; omega
    rw [this]
    split <;> omega
  have hvU : U (mW1 y s).win := U_if hym (U_sub hyU hs.lost)
  have hv3 : (mW1 y s).mode ≠ 3 := hy3
  have hvf : (mW1 y s).p.full = false := hyf
  have hvr : (mW1 y s).first = false := hyr
  unfold mWindow
  generalize mW1 y s = v at *
  have hz : w0 ≤ (mW2 v s t).win ∧ (mW2 v s t).mode ≠ 3 := by
    unfold mW2
    rw [if_neg (by rw [hvr]; simp), if_pos hack, if_neg (by rw [hvf]; simp)]
    split
    · exact ⟨Int.le_trans hv (le_add hvU hs.ack), hv3⟩
    · exact ⟨hv, hv3⟩
  obtain ⟨z1, z2⟩ := hz
  generalize mW2 v s t = z at *
  unfold mW4
  rw [if_neg (show (mW3 z).mode ≠ 3 from z2)]
  show w0 ≤ if mFloor z > z.win then mFloor z else z.win
  split <;> omega
/-- The samples of BbrRecovers. -/
abbrev rS (y : Int) : Sm := (y * 1000000, y * 10000, (y - 1) * 10000, 1000000, 1000000, 10000, 0, 10000, false)
abbrev rL (n l : Int) : Sm := (n * 1000000 + 1, n * 10000, 0, 0, 0, 0, l, 10000, false)
abbrev rE (n : Int) : Sm := (n * 1000000 + 2, n * 10000 + 10000, n * 10000, 1000000, 1000000, 10000, 0, 0, false)
theorem rS_ok {y : Int} (h1 : 1 ≤ y) (h2 : y ≤ 5) : OkS (rS y) := ⟨⟨by show 0 ≤ y * 1000000; omega, by show y * 1000000 < _; omega⟩, ⟨by show 0 ≤ y * 10000; omega, by show y * 10000 < _; omega⟩, ⟨by show 0 ≤ (y - 1) * 10000; omega, by show (y - 1) * 10000 < _; omega⟩, U_lit 1000000, U_lit 1000000, U_lit 10000, U_lit 0, U_lit 10000⟩
theorem rL_ok {n l : Int} (h1 : 1 ≤ n) (h2 : n ≤ 5) (hl : U l) : OkS (rL n l) := ⟨⟨by show 0 ≤ n * 1000000 + 1; omega, by show n * 1000000 + 1 < _; omega⟩, ⟨by show 0 ≤ n * 10000; omega, by show n * 10000 < _; omega⟩, U_lit 0, U_lit 0, U_lit 0, U_lit 0, hl, U_lit 10000⟩
theorem rE_ok {n : Int} (h1 : 1 ≤ n) (h2 : n ≤ 5) : OkS (rE n) := ⟨⟨by show 0 ≤ n * 1000000 + 2; omega, by show n * 1000000 + 2 < _; omega⟩, ⟨by show 0 ≤ n * 10000 + 10000; omega, by show n * 10000 + 10000 < _; omega⟩, ⟨by show 0 ≤ n * 10000; omega, by show n * 10000 < _; omega⟩, U_lit 1000000, U_lit 1000000, U_lit 10000, U_lit 0, U_lit 0⟩
end BbrI

end Go.X
