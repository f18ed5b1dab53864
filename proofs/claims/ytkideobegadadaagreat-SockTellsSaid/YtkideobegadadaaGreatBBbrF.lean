/- Contracts and plain facts: BbrMm BbrF. -/
import Derived.Test.YtkideobegadadaaGreatBArith
import Derived.Test.YtkideobegadadaaGreatBBbrM
import Derived.Test.YtkideobegadadaaGreatXw
import Derived.Test.YtkideobegadadaaGreatK
set_option linter.unusedVariables false
set_option linter.unusedSimpArgs false
set_option linter.unusedSectionVars false
namespace Go.X
namespace BbrMm
open Arith BbrM
structure Md where
  w : Wn
  r : Rnd
  p : Pp
  c : Cy
  b : Pb
  q : Pl
  mss : Int
  mode : Int
  rate : Int
  win : Int
  sav : Int
  rec' : Bool
  first : Bool
  til : Int
structure OkM (m : Md) : Prop where
  w : OkW m.w
  r : OkR m.r
  p : OkP m.p
  c : OkC m.c
  b : OkB m.b
  q : OkL m.q
  mss : 100 ≤ m.mss ∧ m.mss ≤ 9000
  mode : 0 ≤ m.mode ∧ m.mode ≤ 3
  rate : U m.rate
  win : U m.win
  sav : U m.sav
  til : U m.til
def mBw (m : Md) : Int := if m.q.use then m.q.bw else m.w.v0
def mBdp (m : Md) (g : Int) : Int := bdpI (mBw m) m.b.best g
def mGain (m : Md) : Int := if m.mode = 0 then 739 else if m.mode = 1 then 88 else if m.mode = 2 ∧ m.q.use = false then cG m.c else 256
def mWide (m : Md) : Int := if m.mode = 2 then 512 else if m.mode = 3 then 256 else 739
def mFloor (m : Md) : Int := 4 * m.mss
theorem OkM.bw {m : Md} (h : OkM m) : U (mBw m) := by
  unfold mBw; split
  · exact h.q.bw
  · exact h.w.v0
theorem U_cG (c : Cy) : U (cG c) := by
  unfold cG; split
  · exact U_lit _
  · split <;> exact U_lit _
theorem U_gain (m : Md) : U (mGain m) := by
  unfold mGain; split
  · exact U_lit _
  · split
    · exact U_lit _
    · split
      · exact U_cG _
      · exact U_lit _
theorem U_wide (m : Md) : U (mWide m) := by
  unfold mWide; split
  · exact U_lit _
  · split <;> exact U_lit _
theorem OkM.mssU {m : Md} (h : OkM m) : U m.mss := by have := h.mss; unfold U; omega
theorem OkM.floor {m : Md} (h : OkM m) : U (mFloor m) := by have := h.mss; unfold U mFloor; omega
def mK (s : Sm) : Int := mdI (subI (sDel s) (sPri s)) 1000000000 (sTim s)
def mMeas (m : Md) (s : Sm) : Md := if sAck s = 0 ∨ sTim s = 0 then m else if sLim s = false ∨ mK s ≥ m.w.v0 then { m with w := wUpd m.w m.r.n (mK s) } else m
def mCyc (m : Md) (s : Sm) : Md := if m.mode = 2 ∧ m.q.use = false then { m with c := cU m.c (sNow s) m.b.best (sLost s) (sFli s) (mBdp m 320) (mBdp m 256) } else m
abbrev mPipe (m : Md) (o : Bool) (s : Sm) : Md := { m with p := pU m.p o (sLim s) m.w.v0 }
abbrev mCruise (m : Md) (now : Int) : Md := { m with mode := 2, c := cSt now 2 }
def mM1 (m : Md) : Md := if m.mode = 0 ∧ m.p.full = true then { m with mode := 1 } else m
def mM2 (m : Md) (s : Sm) : Md := if m.mode = 1 ∧ m.b.best > 0 ∧ sFli s ≤ mBdp m 256 then mCruise m (sNow s) else m
abbrev mBack (m : Md) : Md := { m with win := if m.sav > m.win then m.sav else m.win, sav := 0 }
abbrev mPr (m : Md) (s : Sm) (o : Bool) : (Bool × Bool) × Pb := bU m.b (sNow s) (sRtt s) o (sFli s) (mFloor m)
def mProbed (m : Md) (r : Bool × Bool) (now : Int) : Md :=
  if r.1 then { m with sav := if m.win > m.sav then m.win else m.sav, mode := 3 }
  else if r.2 then (if m.p.full then mCruise { mBack m with mode := 0 } now else { mBack m with mode := 0 })
  else m
def mLook (m : Md) (s : Sm) (o : Bool) : Md := mProbed { m with b := (mPr m s o).2 } (mPr m s o).1 (sNow s)
def mRt (m : Md) : Int := if 1 > rateI (mBw m) (mGain m) then 1 else rateI (mBw m) (mGain m)
def mPace (m : Md) : Md := if mBw m = 0 then m else if m.p.full = true ∨ mRt m > m.rate then { m with rate := mRt m } else m
def mOver (m : Md) : Md := if m.mode ≠ 3 then mBack { m with rec' := false, first := false } else { m with rec' := false, first := false }
def mRecover (m : Md) (s : Sm) (o : Bool) : Md :=
  if sLost s > 0 ∧ m.rec' = false then { m with rec' := true, first := true, til := addI (sDel s) (sFli s), sav := if m.win > m.sav then m.win else m.sav }
  else if m.rec' = true then (if sDel s < m.til then { m with first := m.first && !o } else mOver { m with first := m.first && !o })
  else m
abbrev mW1 (m : Md) (s : Sm) : Md := { m with win := if m.mss > subI m.win (sLost s) then m.mss else subI m.win (sLost s) }
def mTar (m : Md) (tso : Int) : Int := winI (mBw m) m.b.best (mWide m) tso m.mss
def mW2 (m : Md) (s : Sm) (tso : Int) : Md :=
  if m.first then { m with win := if addI (sFli s) (sAck s) > m.win then addI (sFli s) (sAck s) else m.win }
  else if sAck s > 0 then
    (if m.p.full then { m with win := if mTar m tso < addI m.win (sAck s) then mTar m tso else addI m.win (sAck s) }
     else if m.win < mTar m tso ∨ sDel s < 10 * m.mss then { m with win := addI m.win (sAck s) } else m)
  else m
abbrev mW3 (m : Md) : Md := { m with win := if mFloor m > m.win then mFloor m else m.win }
def mW4 (m : Md) : Md := if m.mode = 3 then { m with win := mFloor m } else m
def mWindow (m : Md) (s : Sm) (tso : Int) : Md := mW4 (mW3 (mW2 (mW1 m s) s tso))
abbrev mU1 (m : Md) (s : Sm) : Md := { m with r := rU m.r s, q := qUpd m.q (rB m.r s) s }
def mU2 (m : Md) (o : Bool) (s : Sm) : Md := mLook (mM2 (mM1 (mPipe (mCyc (mMeas m s) s) o s)) s) s o
def mU3 (m : Md) (o : Bool) (s : Sm) (tso : Int) : Md := mWindow (mRecover (mPace m) s o) s tso
def mUpd (m : Md) (s : Sm) (tso : Int) : Md := mU3 (mU2 (mU1 m s) (rB m.r s) s) (rB m.r s) s tso
abbrev St : Type := Int × Int × Int × Int × Int × Int × Int × Int × Bool × Bool
def mSt (m : Md) : St := (m.mode, m.c.ph, m.rate, m.win, mBw m, m.b.best, mGain m, m.r.n, m.p.full, m.q.use)
theorem U_if {p : Prop} [Decidable p] {a b : Int} (ha : U a) (hb : U b) : U (if p then a else b) := by split <;> assumption
theorem OkM.meas {m : Md} (h : OkM m) {s : Sm} (hs : OkS s) : OkM (mMeas m s) := by
  unfold mMeas; split
  · exact h
  · split
    · exact { h with w := h.w.wUpd h.r.n (U_md (U_sub hs.del hs.pri) (U_lit _) hs.tim) }
    · exact h
theorem OkM.cyc {m : Md} (h : OkM m) {s : Sm} (hs : OkS s) : OkM (mCyc m s) := by
  unfold mCyc; split
  · exact { h with c := h.c.cU hs.now }
  · exact h
theorem OkM.pipe {m : Md} (h : OkM m) {o : Bool} {s : Sm} : OkM (mPipe m o s) := { h with p := h.p.pU h.w.v0 }
theorem OkM.cruise {m : Md} (h : OkM m) {now : Int} (hn : U now) : OkM (mCruise m now) := { h with c := OkC.st hn, mode := by simp [mCruise] }
theorem OkM.m1 {m : Md} (h : OkM m) : OkM (mM1 m) := by
  unfold mM1; split
  · exact { h with mode := by simp }
  · exact h
theorem OkM.m2 {m : Md} (h : OkM m) {s : Sm} (hs : OkS s) : OkM (mM2 m s) := by
  unfold mM2; split
  · exact h.cruise hs.now
  · exact h
theorem OkM.back {m : Md} (h : OkM m) : OkM (mBack m) := { h with win := U_if h.sav h.win, sav := U_lit 0 }
theorem OkM.probed {m : Md} (h : OkM m) {r : Bool × Bool} {now : Int} (hn : U now) : OkM (mProbed m r now) := by
  unfold mProbed; split
  · exact { h with sav := U_if h.win h.sav, mode := by simp }
  · split
    · have hb : OkM { mBack m with mode := 0 } := { h.back with mode := by simp }
      split
      · exact hb.cruise hn
      · exact hb
    · exact h
theorem OkM.look {m : Md} (h : OkM m) {s : Sm} (hs : OkS s) {o : Bool} : OkM (mLook m s o) := by
  have : OkM { m with b := (mPr m s o).2 } := { h with b := h.b.bU hs.now hs.rtt }
  exact this.probed hs.now
theorem U_rt {m : Md} (h : OkM m) : U (mRt m) := U_if (U_lit 1) (U_rate h.bw (U_gain m))
theorem OkM.pace {m : Md} (h : OkM m) : OkM (mPace m) := by
  unfold mPace; split
  · exact h
  · split
    · exact { h with rate := U_rt h }
    · exact h
theorem OkM.recover {m : Md} (h : OkM m) {s : Sm} (hs : OkS s) {o : Bool} : OkM (mRecover m s o) := by
  unfold mRecover; split
  · exact { h with til := U_add hs.del hs.fli, sav := U_if h.win h.sav }
  · split
    · split
      · exact { h with }
      · unfold mOver
        have h2 : OkM { m with rec' := false, first := false } := { h with }
        split
        · exact h2.back
        · exact h2
    · exact h
theorem OkM.w1 {m : Md} (h : OkM m) {s : Sm} (hs : OkS s) : OkM (mW1 m s) := { h with win := U_if h.mssU (U_sub h.win hs.lost) }
theorem OkM.tar {m : Md} (h : OkM m) {tso : Int} (ht : U tso) : U (mTar m tso) := U_win h.bw h.b.best (U_wide m) ht h.mssU
theorem OkM.w2 {m : Md} (h : OkM m) {s : Sm} (hs : OkS s) {tso : Int} (ht : U tso) : OkM (mW2 m s tso) := by
  unfold mW2; split
  · exact { h with win := U_if (U_add hs.fli hs.ack) h.win }
  · split
    · split
      · exact { h with win := U_if (h.tar ht) (U_add h.win hs.ack) }
      · split
        · exact { h with win := U_add h.win hs.ack }
        · exact h
    · exact h
theorem OkM.w3 {m : Md} (h : OkM m) : OkM (mW3 m) := { h with win := U_if h.floor h.win }
theorem OkM.w4 {m : Md} (h : OkM m) : OkM (mW4 m) := by
  unfold mW4; split
  · exact { h with win := h.floor }
  · exact h
theorem OkM.window {m : Md} (h : OkM m) {s : Sm} (hs : OkS s) {tso : Int} (ht : U tso) : OkM (mWindow m s tso) := ((h.w1 hs).w2 hs ht).w3.w4
theorem OkM.u1 {m : Md} (h : OkM m) {s : Sm} (hs : OkS s) : OkM (mU1 m s) := { h with r := h.r.rU hs, q := h.q.upd hs }
theorem OkM.upd {m : Md} (h : OkM m) {s : Sm} (hs : OkS s) {tso : Int} (ht : U tso) : OkM (mUpd m s tso) :=
  (((((((h.u1 hs).meas hs).cyc hs).pipe.m1.m2 hs).look hs).pace.recover hs).window hs ht)
/-- A new one. -/
def mMss (n : Int) : Int := if 9000 < (if 100 > n then 100 else n) then 9000 else (if 100 > n then 100 else n)
abbrev mNew (n : Int) : Md := { w := ⟨10, 0, 0, 0, 0, 0, 0, 0⟩, r := ⟨0, 0⟩, p := ⟨0, 0, false⟩, c := ⟨0, 0⟩, b := ⟨0, 0, false, 0, false⟩, q := ⟨false, false, 0, 0, 0, 0, 0, 0⟩, mss := mMss n, mode := 0, rate := rateI (10 * mMss n * 1000) 739, win := 10 * mMss n, sav := 0, rec' := false, first := false, til := 0 }
theorem mss_r (n : Int) : 100 ≤ mMss n ∧ mMss n ≤ 9000 := by unfold mMss; split <;> split <;> omega
theorem OkM.new (n : Int) : OkM (mNew n) := by
  have := mss_r n
  exact { w := ⟨U_lit 10, U_lit 0, U_lit 0, U_lit 0, U_lit 0, U_lit 0, U_lit 0, U_lit 0⟩, r := ⟨U_lit 0, U_lit 0⟩, p := ⟨U_lit 0, (by simp [mNew]), fun _ => by simp [mNew]⟩, c := ⟨(by simp [mNew]), U_lit 0⟩, b := ⟨U_lit 0, U_lit 0, U_lit 0⟩, q := ⟨U_lit 0, (by simp [mNew]), U_lit 0, U_lit 0, U_lit 0, U_lit 0, (fun h => by simp [mNew] at h), fun _ h => by simp [mNew] at h⟩, mss := this, mode := (by simp [mNew]), rate := U_rate ⟨by omega, by omega⟩ (U_lit 739), win := ⟨(by show 0 ≤ 10 * mMss n; omega), by show 10 * mMss n < _; omega⟩, sav := U_lit 0, til := U_lit 0 }
end BbrMm

namespace BbrF
open Arith BbrM BbrMm
/-- What does not turn. -/
structure Keeps (a b : Md) : Prop where
  mss : b.mss = a.mss
  rate : b.rate = a.rate
theorem Keeps.trans {a b c : Md} (h : Keeps a b) (g : Keeps b c) : Keeps a c := ⟨g.mss.trans h.mss, g.rate.trans h.rate⟩
theorem k_meas (m : Md) (s : Sm) : Keeps m (mMeas m s) := by unfold mMeas; repeat' split
                                                             all_goals exact ⟨rfl, rfl⟩
theorem k_cyc (m : Md) (s : Sm) : Keeps m (mCyc m s) := by unfold mCyc; split <;> exact ⟨rfl, rfl⟩
theorem k_m1 (m : Md) : Keeps m (mM1 m) := by unfold mM1; split <;> exact ⟨rfl, rfl⟩
theorem k_m2 (m : Md) (s : Sm) : Keeps m (mM2 m s) := by unfold mM2; split <;> exact ⟨rfl, rfl⟩
theorem k_probed (m : Md) (r : Bool × Bool) (now : Int) : Keeps m (mProbed m r now) := by unfold mProbed; repeat' split
                                                                                          all_goals exact ⟨rfl, rfl⟩
theorem k_look (m : Md) (s : Sm) (o : Bool) : Keeps m (mLook m s o) := (⟨rfl, rfl⟩ : Keeps m { m with b := (mPr m s o).2 }).trans (k_probed _ _ _)
theorem k_rec (m : Md) (s : Sm) (o : Bool) : Keeps m (mRecover m s o) := by unfold mRecover mOver; repeat' split
                                                                            all_goals exact ⟨rfl, rfl⟩
theorem k_w2 (m : Md) (s : Sm) (t : Int) : Keeps m (mW2 m s t) := by unfold mW2; repeat' split
                                                                     all_goals exact ⟨rfl, rfl⟩
theorem k_w4 (m : Md) : Keeps m (mW4 m) := by unfold mW4; split <;> exact ⟨rfl, rfl⟩
theorem k_window (m : Md) (s : Sm) (t : Int) : Keeps m (mWindow m s t) := by
  have a : Keeps m (mW1 m s) := ⟨rfl, rfl⟩
  have b : Keeps (mW2 (mW1 m s) s t) (mW3 (mW2 (mW1 m s) s t)) := ⟨rfl, rfl⟩
  exact (a.trans (k_w2 _ s t)).trans (b.trans (k_w4 _))
theorem k_u2 (m : Md) (o : Bool) (s : Sm) : Keeps m (mU2 m o s) := by
  have a : Keeps (mCyc (mMeas m s) s) (mPipe (mCyc (mMeas m s) s) o s) := ⟨rfl, rfl⟩
  exact ((k_meas m s).trans (k_cyc _ s)).trans (a.trans (((k_m1 _).trans (k_m2 _ s)).trans (k_look _ s o)))
theorem pace_mss (m : Md) : (mPace m).mss = m.mss := by unfold mPace; repeat' split
                                                        all_goals rfl
theorem upd_mss (m : Md) (s : Sm) (t : Int) : (mUpd m s t).mss = m.mss := by
  unfold mUpd mU3
  rw [(k_window _ s t).mss, (k_rec _ s _).mss, pace_mss, (k_u2 _ _ s).mss]
end BbrF


end Go.X
