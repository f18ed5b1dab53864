/- Contracts and plain facts: BbrM BbrMm. -/
import Derived.Test.YtkideobegadadaaGreatBArith
import Derived.Test.YtkideobegadadaaGreatXw
import Derived.Test.YtkideobegadadaaGreatK
set_option linter.unusedVariables false
set_option linter.unusedSimpArgs false
set_option linter.unusedSectionVars false
namespace Go.X
namespace BbrM
open Arith
structure Wn where
  w : Int
  t0 : Int
  v0 : Int
  t1 : Int
  v1 : Int
  t2 : Int
  v2 : Int
  la : Int
structure OkW (v : Wn) : Prop where
  w : U v.w
  t0 : U v.t0
  v0 : U v.v0
  t1 : U v.t1
  v1 : U v.v1
  t2 : U v.t2
  v2 : U v.v2
  la : U v.la
def Wn.all (v : Wn) (t x : Int) : Wn := { v with t0 := t, v0 := x, t1 := t, v1 := x, t2 := t, v2 := x }
def Wn.s12 (v : Wn) (t x : Int) : Wn := { v with t1 := t, v1 := x, t2 := t, v2 := x }
def Wn.s2 (v : Wn) (t x : Int) : Wn := { v with t2 := t, v2 := x }
def Wn.push (v : Wn) (t x : Int) : Wn := { v with t0 := v.t1, v0 := v.v1, t1 := v.t2, v1 := v.v2, t2 := t, v2 := x }
def far (t s w : Int) : Prop := subI t s > w
instance (t s w : Int) : Decidable (far t s w) := by unfold far; infer_instance
def wS1 (v : Wn) (t x : Int) : Wn := if x ≥ v.v1 then v.s12 t x else if x ≥ v.v2 then v.s2 t x else v
def wS2 (v : Wn) (t x : Int) : Wn :=
  if far t v.t0 v.w then (if far t v.t1 v.w then (v.push t x).push t x else v.push t x)
  else if v.t1 = v.t0 ∧ far t v.t0 (v.w / 4) then v.s12 t x
  else if v.t2 = v.t1 ∧ far t v.t0 (v.w / 2) then v.s2 t x else v
def Wn.tick (v : Wn) (t : Int) : Wn := { v with la := if t > v.la then t else v.la }
def wU (v : Wn) (t x : Int) : Wn := if x ≥ v.v0 ∨ far t v.t2 v.w then v.all t x else wS2 (wS1 v t x) t x
def wUpd (v : Wn) (t x : Int) : Wn := wU (v.tick t) (v.tick t).la x
theorem OkW.all {v : Wn} (h : OkW v) {t x : Int} (ht : U t) (hx : U x) : OkW (v.all t x) := ⟨h.w, ht, hx, ht, hx, ht, hx, h.la⟩
theorem OkW.s12 {v : Wn} (h : OkW v) {t x : Int} (ht : U t) (hx : U x) : OkW (v.s12 t x) := ⟨h.w, h.t0, h.v0, ht, hx, ht, hx, h.la⟩
theorem OkW.s2 {v : Wn} (h : OkW v) {t x : Int} (ht : U t) (hx : U x) : OkW (v.s2 t x) := ⟨h.w, h.t0, h.v0, h.t1, h.v1, ht, hx, h.la⟩
theorem OkW.push {v : Wn} (h : OkW v) {t x : Int} (ht : U t) (hx : U x) : OkW (v.push t x) := ⟨h.w, h.t1, h.v1, h.t2, h.v2, ht, hx, h.la⟩
theorem OkW.tick {v : Wn} (h : OkW v) {t : Int} (ht : U t) : OkW (v.tick t) := ⟨h.w, h.t0, h.v0, h.t1, h.v1, h.t2, h.v2, by
  show U (if _ then _ else _); split
  · exact ht
  · exact h.la⟩
theorem OkW.wS1 {v : Wn} (h : OkW v) {t x : Int} (ht : U t) (hx : U x) : OkW (wS1 v t x) := by
  unfold BbrM.wS1; split
  · exact h.s12 ht hx
  · split
    · exact h.s2 ht hx
    · exact h
theorem OkW.wS2 {v : Wn} (h : OkW v) {t x : Int} (ht : U t) (hx : U x) : OkW (wS2 v t x) := by
  unfold BbrM.wS2; split
  · split
    · exact (h.push ht hx).push ht hx
    · exact h.push ht hx
  · split
    · exact h.s12 ht hx
    · split
      · exact h.s2 ht hx
      · exact h
theorem OkW.wU {v : Wn} (h : OkW v) {t x : Int} (ht : U t) (hx : U x) : OkW (wU v t x) := by
  unfold BbrM.wU; split
  · exact h.all ht hx
  · exact (h.wS1 ht hx).wS2 ht hx
theorem OkW.wUpd {v : Wn} (h : OkW v) {t x : Int} (ht : U t) (hx : U x) : OkW (wUpd v t x) := (h.tick ht).wU (h.tick ht).la hx
/-- A sample: now, delivered, prior, time, rtt, acked, lost, flight, limited. -/
abbrev Sm : Type := Int × Int × Int × Int × Int × Int × Int × Int × Bool
abbrev sNow (s : Sm) : Int := s.1
abbrev sDel (s : Sm) : Int := s.2.1
abbrev sPri (s : Sm) : Int := s.2.2.1
abbrev sTim (s : Sm) : Int := s.2.2.2.1
abbrev sRtt (s : Sm) : Int := s.2.2.2.2.1
abbrev sAck (s : Sm) : Int := s.2.2.2.2.2.1
abbrev sLost (s : Sm) : Int := s.2.2.2.2.2.2.1
abbrev sFli (s : Sm) : Int := s.2.2.2.2.2.2.2.1
abbrev sLim (s : Sm) : Bool := s.2.2.2.2.2.2.2.2
structure OkS (s : Sm) : Prop where
  now : U (sNow s)
  del : U (sDel s)
  pri : U (sPri s)
  tim : U (sTim s)
  rtt : U (sRtt s)
  ack : U (sAck s)
  lost : U (sLost s)
  fli : U (sFli s)
structure Rnd where
  n : Int
  nx : Int
structure OkR (r : Rnd) : Prop where
  n : U r.n
  nx : U r.nx
def rB (r : Rnd) (s : Sm) : Bool := decide (sAck s > 0) && !decide (sPri s < r.nx)
def rU (r : Rnd) (s : Sm) : Rnd := if rB r s then ⟨IntKind.u64.wrap (r.n + 1), sDel s⟩ else r
theorem OkR.rU {r : Rnd} (h : OkR r) {s : Sm} (hs : OkS s) : OkR (rU r s) := by
  unfold BbrM.rU; split
  · exact ⟨U_wrap _, hs.del⟩
  · exact h
structure Pp where
  best : Int
  n : Int
  full : Bool
structure OkP (p : Pp) : Prop where
  best : U p.best
  n : 0 ≤ p.n ∧ p.n ≤ 3
  full : p.full = false → p.n < 3
def pU (p : Pp) (start limited : Bool) (bw : Int) : Pp :=
  if !p.full && start && !limited then
    (if bw ≥ mdI p.best 320 256 then ⟨bw, 0, p.full⟩ else ⟨p.best, p.n + 1, decide (p.n + 1 = 3)⟩)
  else p
theorem OkP.pU {p : Pp} (h : OkP p) {a b : Bool} {bw : Int} (hb : U bw) : OkP (pU p a b bw) := by
  unfold BbrM.pU; split
  · rename_i hc
    have hf : p.full = false := by simp at hc; exact hc.1.1
    have hn := h.full hf
    have := h.n
    split
    · exact ⟨hb, by simp, fun _ => by simp⟩
    · exact ⟨h.best, by simp; omega, fun hh => by simp at hh ⊢; omega⟩
  · exact h
structure Cy where
  ph : Int
  at' : Int
structure OkC (c : Cy) : Prop where
  ph : 0 ≤ c.ph ∧ c.ph < 8
  at' : U c.at'
def cSt (now ph : Int) : Cy := ⟨ph % 8, now⟩
def cB (c : Cy) (now rtt lost fl up one : Int) : Bool :=
  if c.ph = 0 then decide (subI now c.at' > rtt) && (decide (lost > 0) || decide (fl ≥ up))
  else if c.ph = 1 then decide (subI now c.at' > rtt) || decide (fl ≤ one) else decide (subI now c.at' > rtt)
def cU (c : Cy) (now rtt lost fl up one : Int) : Cy := if cB c now rtt lost fl up one then cSt now (c.ph + 1) else c
def cG (c : Cy) : Int := if c.ph = 0 then 320 else if c.ph = 1 then 192 else 256
theorem OkC.st {now ph : Int} (h : U now) : OkC (cSt now ph) := ⟨by unfold cSt; dsimp only; omega, h⟩
theorem OkC.cU {c : Cy} (h : OkC c) {now rtt lost fl up one : Int} (hn : U now) : OkC (cU c now rtt lost fl up one) := by
  unfold BbrM.cU; split
  · exact OkC.st hn
  · exact h
structure Pb where
  best : Int
  at' : Int
  on : Bool
  til : Int
  rd : Bool
structure OkB (b : Pb) : Prop where
  best : U b.best
  at' : U b.at'
  til : U b.til
def bOld (b : Pb) (now : Int) : Bool := decide (b.best > 0) && decide (now > addI b.at' 10000000000)
def bTake (b : Pb) (now rtt : Int) : Bool := decide (rtt > 0) && (decide (b.best = 0) || (decide (rtt ≤ b.best) || bOld b now))
def bNew (b : Pb) (now rtt : Int) : Pb := if bTake b now rtt then { b with best := rtt, at' := now } else b
def bLv (b : Pb) (now : Int) (start : Bool) (fl floor : Int) : Bool × Pb :=
  if b.til = 0 then (if fl ≤ floor then (false, { b with til := addI now 200000000, rd := false }) else (false, b))
  else if !(b.rd || start) then (false, { b with rd := b.rd || start })
  else if now ≤ b.til then (false, { b with rd := b.rd || start })
  else (true, { b with rd := b.rd || start, at' := now, on := false })
/-- What begins, what ends, and what it is then. -/
def bU (b : Pb) (now rtt : Int) (start : Bool) (fl floor : Int) : (Bool × Bool) × Pb :=
  if bOld b now && !b.on then ((true, false), { bNew b now rtt with on := true, til := 0, rd := false })
  else if b.on then ((false, (bLv (bNew b now rtt) now start fl floor).1), (bLv (bNew b now rtt) now start fl floor).2)
  else ((false, false), bNew b now rtt)
theorem OkB.new {b : Pb} (h : OkB b) {now rtt : Int} (hn : U now) (hr : U rtt) : OkB (bNew b now rtt) := by
  unfold bNew; split
  · exact ⟨hr, hn, h.til⟩
  · exact h
theorem OkB.lv {b : Pb} (h : OkB b) {now fl floor : Int} {st : Bool} (hn : U now) : OkB (bLv b now st fl floor).2 := by
  unfold bLv; split
  · split
    · exact ⟨h.best, h.at', U_add hn (U_lit _)⟩
    · exact h
  · split
    · exact ⟨h.best, h.at', h.til⟩
    · split
      · exact ⟨h.best, h.at', h.til⟩
      · exact ⟨h.best, hn, h.til⟩
theorem OkB.bU {b : Pb} (h : OkB b) {now rtt fl floor : Int} {st : Bool} (hn : U now) (hr : U rtt) : OkB (bU b now rtt st fl floor).2 := by
  have := h.new hn hr
  unfold BbrM.bU; split
  · exact ⟨this.best, this.at', U_lit 0⟩
  · split
    · exact this.lv hn
    · exact this
structure Pl where
  use : Bool
  mea : Bool
  bw : Int
  n : Int
  lost : Int
  t0 : Int
  d0 : Int
  l0 : Int
structure OkL (q : Pl) : Prop where
  bw : U q.bw
  n : 0 ≤ q.n ∧ q.n ≤ 48
  lost : U q.lost
  t0 : U q.t0
  d0 : U q.d0
  l0 : U q.l0
  nu : q.use = true → q.n < 48
  nm : q.use = false → q.mea = true → q.n ≤ 16
def avg (a b : Int) : Int := a / 2 + b / 2 + (a % 2 + b % 2) / 2
def apart (a b : Int) : Int := if a < b then b - a else a - b
theorem U_avg {a b : Int} (ha : U a) (hb : U b) : U (avg a b) := by unfold U avg at *; omega
def qMeas (q : Pl) (s : Sm) : Option Int :=
  if subI (sDel s) q.d0 = 0 ∨ subI (sNow s) q.t0 = 0 then none
  else if subI q.lost q.l0 < mdI (subI (sDel s) q.d0) 50 256 then none
  else some (mdI (subI (sDel s) q.d0) 1000000000 (subI (sNow s) q.t0))
def qBegin (q : Pl) (s : Sm) : Pl := { q with mea := true, n := 0, t0 := sNow s, d0 := sDel s, l0 := q.lost }
def qLeave (q : Pl) : Pl := { q with use := false, mea := false, bw := 0 }
def qGot (q : Pl) (s : Sm) (r : Int) : Pl := if q.bw > 0 ∧ apart q.bw r ≤ q.bw / 8 then { q with bw := avg q.bw r, use := true, n := 0 } else qBegin { q with bw := r } s
def qEnd (q : Pl) (s : Sm) : Pl := match qMeas q s with
  | none => q
  | some r => qGot q s r
def qAdd (q : Pl) (s : Sm) : Pl := { q with lost := addI q.lost (sLost s) }
def qTick (q : Pl) (o : Bool) : Pl := if o then { q with n := q.n + 1 } else q
def qGo (q : Pl) (o : Bool) (s : Sm) : Pl :=
  if q.use then (if o = true ∧ q.n = 48 then { qLeave q with n := 0 } else q)
  else if q.n > 16 then qLeave q
  else if q.n ≥ 4 ∧ sLost s > 0 then qEnd q s else q
def qUpd (q : Pl) (o : Bool) (s : Sm) : Pl :=
  if q.use = false ∧ q.mea = false then (if sLost s > 0 then qBegin (qAdd q s) s else qAdd q s)
  else if q.use = false ∧ sLim s = true then qLeave (qAdd q s)
  else qGo (qTick (qAdd q s) o) o s
theorem OkL.begin {q : Pl} {s : Sm} (hb : U q.bw) (hl : U q.lost) (hs : OkS s) : OkL (qBegin q s) :=
  ⟨hb, by simp [qBegin], hl, hs.now, hs.del, hl, fun _ => by simp [qBegin], fun _ _ => by simp [qBegin]⟩
theorem OkL.leave {q : Pl} (h : OkL q) : OkL (qLeave q) := ⟨U_lit 0, h.n, h.lost, h.t0, h.d0, h.l0, fun hh => by simp [qLeave] at hh, fun _ hh => by simp [qLeave] at hh⟩
theorem OkL.add {q : Pl} (h : OkL q) {s : Sm} (hs : OkS s) : OkL (qAdd q s) := ⟨h.bw, h.n, U_add h.lost hs.lost, h.t0, h.d0, h.l0, h.nu, h.nm⟩
theorem U_meas {q : Pl} (h : OkL q) {s : Sm} (hs : OkS s) {r : Int} (hr : qMeas q s = some r) : U r := by
  unfold qMeas at hr
  split at hr
  · cases hr
  · split at hr
    · cases hr
    · cases hr; exact U_md (U_sub hs.del h.d0) (U_lit _) (U_sub hs.now h.t0)
theorem OkL.got {q : Pl} (h : OkL q) {s : Sm} (hs : OkS s) {r : Int} (hr : U r) : OkL (qGot q s r) := by
  unfold qGot
  split
  · exact ⟨U_avg h.bw hr, by simp, h.lost, h.t0, h.d0, h.l0, fun _ => by simp, fun _ _ => by simp⟩
  · exact OkL.begin hr h.lost hs
theorem OkL.end' {q : Pl} (h : OkL q) {s : Sm} (hs : OkS s) : OkL (qEnd q s) := by
  unfold qEnd
  split
  · exact h
  · rename_i r hr
    exact h.got hs (U_meas h hs hr)
theorem qGo_ok {q : Pl} (h : OkL q) {o : Bool} {s : Sm} (hs : OkS s) (hm : q.use = false → q.mea = true) : OkL (qGo (qTick q o) o s) := by
  obtain ⟨use, mea, bw, n, lost, t0, d0, l0⟩ := q
  have h1 := h.n
  have h2 := h.nu
  have h3 := h.nm
  dsimp only at h1 h2 h3 hm
  cases o with
  | false =>
    show OkL (qGo _ false s)
    unfold qGo
    simp only [qTick, Bool.false_eq_true, if_false, false_and]
    split
    · exact h
    · split
      · exact h.leave
      · split
        · exact h.end' hs
        · exact h
  | true =>
    unfold qGo
    simp only [qTick, if_true, true_and]
    split
    · rename_i hu
      have hu : use = true := hu
      have := h2 hu
      split
      · exact ⟨U_lit 0, by simp, h.lost, h.t0, h.d0, h.l0, (fun hh => by simp [qLeave] at hh), (fun _ hh => by simp [qLeave] at hh)⟩
      · rename_i h48
        exact ⟨h.bw, (by dsimp only; omega), h.lost, h.t0, h.d0, h.l0, (fun _ => by dsimp only; omega), (fun hh => by dsimp only at hh; rw [hu] at hh; cases hh)⟩
    · rename_i hu
      have hu : use = false := by simpa using hu
      have := h3 hu (hm hu)
      split
      · exact ⟨U_lit 0, (by simp [qLeave]; omega), h.lost, h.t0, h.d0, h.l0, (fun hh => by simp [qLeave] at hh), (fun _ hh => by simp [qLeave] at hh)⟩
      · rename_i h16
        have hk : OkL ⟨use, mea, bw, n + 1, lost, t0, d0, l0⟩ := ⟨h.bw, (by dsimp only; omega), h.lost, h.t0, h.d0, h.l0, (fun hh => by dsimp only at hh; rw [hu] at hh; cases hh), (fun _ _ => by dsimp only; omega)⟩
        split
        · exact hk.end' hs
        · exact hk
theorem OkL.upd {q : Pl} (h : OkL q) {o : Bool} {s : Sm} (hs : OkS s) : OkL (qUpd q o s) := by
  unfold qUpd
  split
  · split
    · exact OkL.begin h.bw (U_add h.lost hs.lost) hs
    · exact h.add hs
  · rename_i h0
    split
    · exact (h.add hs).leave
    · exact qGo_ok (h.add hs) hs (fun hu => by
        have hu : q.use = false := hu
        cases hm : q.mea with
        | false => exact absurd ⟨hu, hm⟩ h0
        | true => exact hm)
end BbrM

namespace BbrMm
open Arith BbrM
structure Md where
  w : Wn
  r : Rnd
  p : Pp
  c : Cy
  b : Pb
  q : Pl
  mss : Int
  mode : Int
  rate : Int
  win : Int
  sav : Int
  rec' : Bool
  first : Bool
  til : Int
structure OkM (m : Md) : Prop where
  w : OkW m.w
  r : OkR m.r
  p : OkP m.p
  c : OkC m.c
  b : OkB m.b
  q : OkL m.q
  mss : 100 ≤ m.mss ∧ m.mss ≤ 9000
  mode : 0 ≤ m.mode ∧ m.mode ≤ 3
  rate : U m.rate
  win : U m.win
  sav : U m.sav
  til : U m.til
def mBw (m : Md) : Int := if m.q.use then m.q.bw else m.w.v0
def mBdp (m : Md) (g : Int) : Int := bdpI (mBw m) m.b.best g
def mGain (m : Md) : Int := if m.mode = 0 then 739 else if m.mode = 1 then 88 else if m.mode = 2 ∧ m.q.use = false then cG m.c else 256
def mWide (m : Md) : Int := if m.mode = 2 then 512 else if m.mode = 3 then 256 else 739
def mFloor (m : Md) : Int := 4 * m.mss
theorem OkM.bw {m : Md} (h : OkM m) : U (mBw m) := by
  unfold mBw; split
  · exact h.q.bw
  · exact h.w.v0
theorem U_cG (c : Cy) : U (cG c) := by
  unfold cG; split
  · exact U_lit _
  · split <;> exact U_lit _
theorem U_gain (m : Md) : U (mGain m) := by
  unfold mGain; split
  · exact U_lit _
  · split
    · exact U_lit _
    · split
      · exact U_cG _
      · exact U_lit _
theorem U_wide (m : Md) : U (mWide m) := by
  unfold mWide; split
  · exact U_lit _
  · split <;> exact U_lit _
theorem OkM.mssU {m : Md} (h : OkM m) : U m.mss := by have := h.mss; unfold U; omega
theorem OkM.floor {m : Md} (h : OkM m) : U (mFloor m) := by have := h.mss; unfold U mFloor; omega
def mK (s : Sm) : Int := mdI (subI (sDel s) (sPri s)) 1000000000 (sTim s)
def mMeas (m : Md) (s : Sm) : Md := if sAck s = 0 ∨ sTim s = 0 then m else if sLim s = false ∨ mK s ≥ m.w.v0 then { m with w := wUpd m.w m.r.n (mK s) } else m
def mCyc (m : Md) (s : Sm) : Md := if m.mode = 2 ∧ m.q.use = false then { m with c := cU m.c (sNow s) m.b.best (sLost s) (sFli s) (mBdp m 320) (mBdp m 256) } else m
abbrev mPipe (m : Md) (o : Bool) (s : Sm) : Md := { m with p := pU m.p o (sLim s) m.w.v0 }
abbrev mCruise (m : Md) (now : Int) : Md := { m with mode := 2, c := cSt now 2 }
def mM1 (m : Md) : Md := if m.mode = 0 ∧ m.p.full = true then { m with mode := 1 } else m
def mM2 (m : Md) (s : Sm) : Md := if m.mode = 1 ∧ m.b.best > 0 ∧ sFli s ≤ mBdp m 256 then mCruise m (sNow s) else m
abbrev mBack (m : Md) : Md := { m with win := if m.sav > m.win then m.sav else m.win, sav := 0 }
abbrev mPr (m : Md) (s : Sm) (o : Bool) : (Bool × Bool) × Pb := bU m.b (sNow s) (sRtt s) o (sFli s) (mFloor m)
def mProbed (m : Md) (r : Bool × Bool) (now : Int) : Md :=
  if r.1 then { m with sav := if m.win > m.sav then m.win else m.sav, mode := 3 }
  else if r.2 then (if m.p.full then mCruise { mBack m with mode := 0 } now else { mBack m with mode := 0 })
  else m
def mLook (m : Md) (s : Sm) (o : Bool) : Md := mProbed { m with b := (mPr m s o).2 } (mPr m s o).1 (sNow s)
def mRt (m : Md) : Int := if 1 > rateI (mBw m) (mGain m) then 1 else rateI (mBw m) (mGain m)
def mPace (m : Md) : Md := if mBw m = 0 then m else if m.p.full = true ∨ mRt m > m.rate then { m with rate := mRt m } else m
def mOver (m : Md) : Md := if m.mode ≠ 3 then mBack { m with rec' := false, first := false } else { m with rec' := false, first := false }
def mRecover (m : Md) (s : Sm) (o : Bool) : Md :=
  if sLost s > 0 ∧ m.rec' = false then { m with rec' := true, first := true, til := addI (sDel s) (sFli s), sav := if m.win > m.sav then m.win else m.sav }
  else if m.rec' = true then (if sDel s < m.til then { m with first := m.first && !o } else mOver { m with first := m.first && !o })
  else m
abbrev mW1 (m : Md) (s : Sm) : Md := { m with win := if m.mss > subI m.win (sLost s) then m.mss else subI m.win (sLost s) }
def mTar (m : Md) (tso : Int) : Int := winI (mBw m) m.b.best (mWide m) tso m.mss
def mW2 (m : Md) (s : Sm) (tso : Int) : Md :=
  if m.first then { m with win := if addI (sFli s) (sAck s) > m.win then addI (sFli s) (sAck s) else m.win }
  else if sAck s > 0 then
    (if m.p.full then { m with win := if mTar m tso < addI m.win (sAck s) then mTar m tso else addI m.win (sAck s) }
     else if m.win < mTar m tso ∨ sDel s < 10 * m.mss then { m with win := addI m.win (sAck s) } else m)
  else m
abbrev mW3 (m : Md) : Md := { m with win := if mFloor m > m.win then mFloor m else m.win }
def mW4 (m : Md) : Md := if m.mode = 3 then { m with win := mFloor m } else m
def mWindow (m : Md) (s : Sm) (tso : Int) : Md := mW4 (mW3 (mW2 (mW1 m s) s tso))
abbrev mU1 (m : Md) (s : Sm) : Md := { m with r := rU m.r s, q := qUpd m.q (rB m.r s) s }
def mU2 (m : Md) (o : Bool) (s : Sm) : Md := mLook (mM2 (mM1 (mPipe (mCyc (mMeas m s) s) o s)) s) s o
def mU3 (m : Md) (o : Bool) (s : Sm) (tso : Int) : Md := mWindow (mRecover (mPace m) s o) s tso
def mUpd (m : Md) (s : Sm) (tso : Int) : Md := mU3 (mU2 (mU1 m s) (rB m.r s) s) (rB m.r s) s tso
abbrev St : Type := Int × Int × Int × Int × Int × Int × Int × Int × Bool × Bool
def mSt (m : Md) : St := (m.mode, m.c.ph, m.rate, m.win, mBw m, m.b.best, mGain m, m.r.n, m.p.full, m.q.use)
theorem U_if {p : Prop} [Decidable p] {a b : Int} (ha : U a) (hb : U b) : U (if p then a else b) := by split <;> assumption
theorem OkM.meas {m : Md} (h : OkM m) {s : Sm} (hs : OkS s) : OkM (mMeas m s) := by
  unfold mMeas; split
  · exact h
  · split
    · exact { h with w := h.w.wUpd h.r.n (U_md (U_sub hs.del hs.pri) (U_lit _) hs.tim) }
    · exact h
theorem OkM.cyc {m : Md} (h : OkM m) {s : Sm} (hs : OkS s) : OkM (mCyc m s) := by
  unfold mCyc; split
  · exact { h with c := h.c.cU hs.now }
  · exact h
theorem OkM.pipe {m : Md} (h : OkM m) {o : Bool} {s : Sm} : OkM (mPipe m o s) := { h with p := h.p.pU h.w.v0 }
theorem OkM.cruise {m : Md} (h : OkM m) {now : Int} (hn : U now) : OkM (mCruise m now) := { h with c := OkC.st hn, mode := by simp [mCruise] }
theorem OkM.m1 {m : Md} (h : OkM m) : OkM (mM1 m) := by
  unfold mM1; split
  · exact { h with mode := by simp }
  · exact h
theorem OkM.m2 {m : Md} (h : OkM m) {s : Sm} (hs : OkS s) : OkM (mM2 m s) := by
  unfold mM2; split
  · exact h.cruise hs.now
  · exact h
theorem OkM.back {m : Md} (h : OkM m) : OkM (mBack m) := { h with win := U_if h.sav h.win, sav := U_lit 0 }
theorem OkM.probed {m : Md} (h : OkM m) {r : Bool × Bool} {now : Int} (hn : U now) : OkM (mProbed m r now) := by
  unfold mProbed; split
  · exact { h with sav := U_if h.win h.sav, mode := by simp }
  · split
    · have hb : OkM { mBack m with mode := 0 } := { h.back with mode := by simp }
      split
      · exact hb.cruise hn
      · exact hb
    · exact h
theorem OkM.look {m : Md} (h : OkM m) {s : Sm} (hs : OkS s) {o : Bool} : OkM (mLook m s o) := by
  have : OkM { m with b := (mPr m s o).2 } := { h with b := h.b.bU hs.now hs.rtt }
  exact this.probed hs.now
theorem U_rt {m : Md} (h : OkM m) : U (mRt m) := U_if (U_lit 1) (U_rate h.bw (U_gain m))
theorem OkM.pace {m : Md} (h : OkM m) : OkM (mPace m) := by
  unfold mPace; split
  · exact h
  · split
    · exact { h with rate := U_rt h }
    · exact h
theorem OkM.recover {m : Md} (h : OkM m) {s : Sm} (hs : OkS s) {o : Bool} : OkM (mRecover m s o) := by
  unfold mRecover; split
  · exact { h with til := U_add hs.del hs.fli, sav := U_if h.win h.sav }
  · split
    · split
      · exact { h with }
      · unfold mOver
        have h2 : OkM { m with rec' := false, first := false } := { h with }
        split
        · exact h2.back
        · exact h2
    · exact h
theorem OkM.w1 {m : Md} (h : OkM m) {s : Sm} (hs : OkS s) : OkM (mW1 m s) := { h with win := U_if h.mssU (U_sub h.win hs.lost) }
theorem OkM.tar {m : Md} (h : OkM m) {tso : Int} (ht : U tso) : U (mTar m tso) := U_win h.bw h.b.best (U_wide m) ht h.mssU
theorem OkM.w2 {m : Md} (h : OkM m) {s : Sm} (hs : OkS s) {tso : Int} (ht : U tso) : OkM (mW2 m s tso) := by
  unfold mW2; split
  · exact { h with win := U_if (U_add hs.fli hs.ack) h.win }
  · split
    · split
      · exact { h with win := U_if (h.tar ht) (U_add h.win hs.ack) }
      · split
        · exact { h with win := U_add h.win hs.ack }
        · exact h
    · exact h
theorem OkM.w3 {m : Md} (h : OkM m) : OkM (mW3 m) := { h with win := U_if h.floor h.win }
theorem OkM.w4 {m : Md} (h : OkM m) : OkM (mW4 m) := by
  unfold mW4; split
  · exact { h with win := h.floor }
  · exact h
theorem OkM.window {m : Md} (h : OkM m) {s : Sm} (hs : OkS s) {tso : Int} (ht : U tso) : OkM (mWindow m s tso) := ((h.w1 hs).w2 hs ht).w3.w4
theorem OkM.u1 {m : Md} (h : OkM m) {s : Sm} (hs : OkS s) : OkM (mU1 m s) := { h with r := h.r.rU hs, q := h.q.upd hs }
theorem OkM.upd {m : Md} (h : OkM m) {s : Sm} (hs : OkS s) {tso : Int} (ht : U tso) : OkM (mUpd m s tso) :=
  (((((((h.u1 hs).meas hs).cyc hs).pipe.m1.m2 hs).look hs).pace.recover hs).window hs ht)
/-- A new one. -/
def mMss (n : Int) : Int := if 9000 < (if 100 > n then 100 else n) then 9000 else (if 100 > n then 100 else n)
abbrev mNew (n : Int) : Md := { w := ⟨10, 0, 0, 0, 0, 0, 0, 0⟩, r := ⟨0, 0⟩, p := ⟨0, 0, false⟩, c := ⟨0, 0⟩, b := ⟨0, 0, false, 0, false⟩, q := ⟨false, false, 0, 0, 0, 0, 0, 0⟩, mss := mMss n, mode := 0, rate := rateI (10 * mMss n * 1000) 739, win := 10 * mMss n, sav := 0, rec' := false, first := false, til := 0 }
theorem mss_r (n : Int) : 100 ≤ mMss n ∧ mMss n ≤ 9000 := by unfold mMss; split <;> split <;> omega
theorem OkM.new (n : Int) : OkM (mNew n) := by
  have := mss_r n
  exact { w := ⟨U_lit 10, U_lit 0, U_lit 0, U_lit 0, U_lit 0, U_lit 0, U_lit 0, U_lit 0⟩, r := ⟨U_lit 0, U_lit 0⟩, p := ⟨U_lit 0, (by simp [mNew]), fun _ => by simp [mNew]⟩, c := ⟨(by simp [mNew]), U_lit 0⟩, b := ⟨U_lit 0, U_lit 0, U_lit 0⟩, q := ⟨U_lit 0, (by simp [mNew]), U_lit 0, U_lit 0, U_lit 0, U_lit 0, (fun h => by simp [mNew] at h), fun _ h => by simp [mNew] at h⟩, mss := this, mode := (by simp [mNew]), rate := U_rate ⟨by omega, by omega⟩ (U_lit 739), win := ⟨(by show 0 ≤ 10 * mMss n; omega), by show 10 * mMss n < _; omega⟩, sav := U_lit 0, til := U_lit 0 }
end BbrMm


end Go.X
