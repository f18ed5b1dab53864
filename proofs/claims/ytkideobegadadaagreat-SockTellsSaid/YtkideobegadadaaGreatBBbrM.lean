/- Contracts and plain facts: Target BbrM. -/
import Derived.Test.YtkideobegadadaaGreatBArith
import Derived.Test.YtkideobegadadaaGreatBArithC
import Derived.Test.YtkideobegadadaaGreatXw
import Derived.Test.YtkideobegadadaaGreatK
import Derived.Test.YtkideobegadadaaGreatF0
import Derived.Test.YtkideobegadadaaGreatF1
set_option linter.unusedVariables false
set_option linter.unusedSimpArgs false
set_option linter.unusedSectionVars false
namespace Go.X
open Go.Proofs
namespace Target
open Arith ArithC
abbrev KP : Ks := [.int .u64, .int .u64]
def scF : Int → List (Int × Int) → Int
  | v, [] => v
  | v, p :: r => if v = 0 then v else scF (mdI v p.1 p.2) r
theorem sc_tri (v : Int) (s : Sl) (ps : List (Int × Int)) (hv : U v) (hp : ∀ p ∈ ps, U p.1 ∧ U p.2) (hl : ps.length ≤ 1000000) :
    Tri Tryz.prog N_target_scaled [.lf (.int .u64 v), .lf (.sl s)] [.lf (.int .u64)] (arr s KP ps) (fun r => pur (r = scF v ps) (arr s KP ps)) :=
  tri_0 (call_target_scaled v s) fun w0 S R h => by
    unfold W_target_scaled
    have h : Own w0 S R w0 (arr s KP ps ^ emp) := h.le (star_emp _)
    have hs := (h.rd (s := s)).2
    refine w_loop (fun (_ : Int × Int) => arr s KP ps ^ emp) (fun (y : Int × Int) => ((0 ≤ y.2 ∧ y.2 ≤ ps.length) ∧ U y.1) ∧ scF y.1 (ps.drop y.2.toNat) = scF v ps) (fun (y : Int × Int) => ps.length - y.2.toNat) h ⟨⟨⟨by simp, by simp⟩, hv⟩, rfl⟩ ?_
    rintro (⟨n, i⟩ : Int × Int) w ⟨⟨⟨h0, h1⟩, hn⟩, h2⟩ h
    dsimp only at h0 h1 h2 hn h ⊢
    refine w_ite (fun c => ?_) fun c => ?_
    · have hi : i.toNat < ps.length := by simp at c; omega
      obtain ⟨p, hpp⟩ : ∃ p, ps[i.toNat]? = some p := ⟨_, at_some hi⟩
      have hU := hp p (List.mem_of_getElem? hpp)
      rw [drop_at hpp, scF] at h2
      refine w_idx h h0 hi (w_ldE h s i.toNat hpp rfl ?_)
      refine w_new h fun n5 w h => ?_
      refine w_setAll h (by rfl) fun w h => ?_
      refine w_ite (fun c2 => ?_) fun c2 => ?_
      · have c2 : n = 0 := by simpa using c2
        rw [if_pos c2] at h2
        exact Own.retP h2 h.fin
      have c2 : ¬ n = 0 := by simpa using c2
      rw [if_neg c2] at h2
      have h : Own w0 S R w (blk n5 [.int .u64 p.1, .int .u64 p.2] ^ arr s KP ps ^ emp) := h
      refine ⟨by decide, w_ld h rfl ⟨by decide, w_ld h rfl ?_⟩⟩
      refine w_call (md_tri n p.1 p.2 hn hU.1 hU.2) h fun r w h => ?_
      obtain ⟨hr, h⟩ := h.purP
      rw [hr, wi (n := i + 1) (by omega) (by omega)]
      refine ⟨⟨⟨⟨⟨by show 0 ≤ i + 1; omega, by show i + 1 ≤ _; omega⟩, U_md hn hU.1 hU.2⟩, ?_⟩, h.fin⟩, by show _ - (i + 1).toNat < _; omega⟩
      show scF (mdI n p.1 p.2) (ps.drop (i + 1).toNat) = _
      rw [show (i + 1).toNat = i.toNat + 1 by omega]
      exact h2
    · have hi : i.toNat = ps.length := by simp at c; omega
      rw [hi, List.drop_length] at h2
      exact Own.retP h2 h.fin
theorem md0 (b c : Int) : mdI 0 b c = 0 := by unfold mdI; simp
theorem rate_tri (bw g : Int) (hb : U bw) (hg : U g) : Tri Tryz.prog N_target_Rate [.lf (.int .u64 bw), .lf (.int .u64 g)] [.lf (.int .u64)] emp (fun r => pur (r = rateI bw g) emp) :=
  tri_0 (call_target_Rate bw g) fun w0 S R h => by
    unfold W_target_Rate
    refine w_new h fun n1 w h => ?_
    have h := h.arrOf ⟨some ⟨n1, 0⟩, 1, 1⟩ ⟨n1, 0⟩ KP [(g, (256 : Int))] rfl rfl (Nat.le_refl _) (by simp) (by simp) (fun i hi => by
      have : i < 2 := hi
      match i with | 0 => rfl | 1 => rfl)
    refine w_call (sc_tri bw ⟨some ⟨n1, 0⟩, 1, 1⟩ [(g, 256)] hb (by intro p hp; rw [List.mem_singleton] at hp; rw [hp]; exact ⟨hg, U_lit _⟩) (by simp)) h fun r w h => ?_
    obtain ⟨hr, h⟩ := h.purP
    refine Own.retP ?_ h.fin
    rw [hr]
    show (if bw = 0 then bw else mdI bw g 256) = _
    split
    · rename_i h; rw [h, rateI, md0]
    · rfl
theorem bdp_tri (bw rtt g : Int) (hb : U bw) (hq : U rtt) (hg : U g) : Tri Tryz.prog N_target_Bdp [.lf (.int .u64 bw), .lf (.int .u64 rtt), .lf (.int .u64 g)] [.lf (.int .u64)] emp (fun r => pur (r = bdpI bw rtt g) emp) :=
  tri_0 (call_target_Bdp bw rtt g) fun w0 S R h => by
    unfold W_target_Bdp
    refine w_new h fun n1 w h => ?_
    have h := h.arrOf ⟨some ⟨n1, 0⟩, 2, 2⟩ ⟨n1, 0⟩ KP [(rtt, (1000000000 : Int)), (g, (256 : Int))] rfl rfl (Nat.le_refl _) (by simp) (by simp) (fun i hi => by
      have : i < 4 := hi
      match i with | 0 => rfl | 1 => rfl | 2 => rfl | 3 => rfl)
    refine w_call (sc_tri bw ⟨some ⟨n1, 0⟩, 2, 2⟩ [(rtt, 1000000000), (g, 256)] hb (by
      intro p hp
      simp only [List.mem_cons, List.not_mem_nil, or_false] at hp
      rcases hp with hp | hp <;> rw [hp]
      · exact ⟨hq, U_lit _⟩
      · exact ⟨hg, U_lit _⟩) (by simp)) h fun r w h => ?_
    obtain ⟨hr, h⟩ := h.purP
    refine Own.retP ?_ h.fin
    rw [hr]
    show (if bw = 0 then bw else if mdI bw rtt 1000000000 = 0 then mdI bw rtt 1000000000 else mdI (mdI bw rtt 1000000000) g 256) = _
    unfold bdpI
    split
    · rename_i h; rw [h, md0, md0]
    · split
      · rename_i h; rw [h, md0]
      · rfl
theorem win_tri (bw rtt g tso mss : Int) (hb : U bw) (hq : U rtt) (hg : U g) (ht : U tso) (hm : U mss) : Tri Tryz.prog N_target_Window [.lf (.int .u64 bw), .lf (.int .u64 rtt), .lf (.int .u64 g), .lf (.int .u64 tso), .lf (.int .u64 mss)] [.lf (.int .u64)] emp (fun r => pur (r = winI bw rtt g tso mss) emp) :=
  tri_0 (call_target_Window bw rtt g tso mss) fun w0 S R h => by
    unfold W_target_Window
    refine w_ite (fun c => ?_) fun c => ?_
    · repeat' (first
        | (refine w_drw h fun w h => ?_)
        | (refine w_deref ?_)
        | (refine w_ldAll h rfl ?_)
        | (refine w_ld h rfl ?_)
        | (refine w_chkAll h ?_)
        | (refine w_chk h rfl ?_)
        | (refine w_setAll h (by rfl) fun w h => ?_)
        | (refine w_new h fun n w h => ?_)
        | (refine w_leave h fun w h => ?_)
        | (refine w_set h rfl fun w h => ?_; dsimp only [upd, over] at h)
        | (refine w_call (satmul_tri 10 mss (U_lit _) hm) h fun r w h => ?_; obtain ⟨hr, h⟩ := h.purP; (try dsimp only at hr h); try rw [hr]))
      exact Own.retP (by unfold winI; rw [if_pos (show rtt = 0 by simpa using c)]) h.fin
    · repeat' (first
        | (refine w_drw h fun w h => ?_)
        | (refine w_deref ?_)
        | (refine w_ldAll h rfl ?_)
        | (refine w_ld h rfl ?_)
        | (refine w_chkAll h ?_)
        | (refine w_chk h rfl ?_)
        | (refine w_setAll h (by rfl) fun w h => ?_)
        | (refine w_new h fun n w h => ?_)
        | (refine w_leave h fun w h => ?_)
        | (refine w_set h rfl fun w h => ?_; dsimp only [upd, over] at h)
        | (refine w_call (bdp_tri bw rtt g hb hq hg) h fun r w h => ?_; obtain ⟨hr, h⟩ := h.purP; (try dsimp only at hr h); try rw [hr])
        | (refine w_call (satmul_tri 3 tso (U_lit _) ht) h fun r w h => ?_; obtain ⟨hr, h⟩ := h.purP; (try dsimp only at hr h); try rw [hr])
        | (refine w_call (satmul_tri 4 mss (U_lit _) hm) h fun r w h => ?_; obtain ⟨hr, h⟩ := h.purP; (try dsimp only at hr h); try rw [hr])
        | (refine w_call (satadd_tri (bdpI bw rtt g) (mulI 3 tso) (U_bdp hb hq hg) (U_mul (U_lit _) ht)) h fun r w h => ?_; obtain ⟨hr, h⟩ := h.purP; (try dsimp only at hr h); try rw [hr]))
      exact Own.retP (by unfold winI; rw [if_neg (show ¬ rtt = 0 by simpa using c)]) h.fin
end Target

namespace BbrM
open Arith
structure Wn where
  w : Int
  t0 : Int
  v0 : Int
  t1 : Int
  v1 : Int
  t2 : Int
  v2 : Int
  la : Int
structure OkW (v : Wn) : Prop where
  w : U v.w
  t0 : U v.t0
  v0 : U v.v0
  t1 : U v.t1
  v1 : U v.v1
  t2 : U v.t2
  v2 : U v.v2
  la : U v.la
def Wn.all (v : Wn) (t x : Int) : Wn := { v with t0 := t, v0 := x, t1 := t, v1 := x, t2 := t, v2 := x }
def Wn.s12 (v : Wn) (t x : Int) : Wn := { v with t1 := t, v1 := x, t2 := t, v2 := x }
def Wn.s2 (v : Wn) (t x : Int) : Wn := { v with t2 := t, v2 := x }
def Wn.push (v : Wn) (t x : Int) : Wn := { v with t0 := v.t1, v0 := v.v1, t1 := v.t2, v1 := v.v2, t2 := t, v2 := x }
def far (t s w : Int) : Prop := subI t s > w
instance (t s w : Int) : Decidable (far t s w) := by unfold far; infer_instance
def wS1 (v : Wn) (t x : Int) : Wn := if x ≥ v.v1 then v.s12 t x else if x ≥ v.v2 then v.s2 t x else v
def wS2 (v : Wn) (t x : Int) : Wn :=
  if far t v.t0 v.w then (if far t v.t1 v.w then (v.push t x).push t x else v.push t x)
  else if v.t1 = v.t0 ∧ far t v.t0 (v.w / 4) then v.s12 t x
  else if v.t2 = v.t1 ∧ far t v.t0 (v.w / 2) then v.s2 t x else v
def Wn.tick (v : Wn) (t : Int) : Wn := { v with la := if t > v.la then t else v.la }
def wU (v : Wn) (t x : Int) : Wn := if x ≥ v.v0 ∨ far t v.t2 v.w then v.all t x else wS2 (wS1 v t x) t x
def wUpd (v : Wn) (t x : Int) : Wn := wU (v.tick t) (v.tick t).la x
theorem OkW.all {v : Wn} (h : OkW v) {t x : Int} (ht : U t) (hx : U x) : OkW (v.all t x) := ⟨h.w, ht, hx, ht, hx, ht, hx, h.la⟩
theorem OkW.s12 {v : Wn} (h : OkW v) {t x : Int} (ht : U t) (hx : U x) : OkW (v.s12 t x) := ⟨h.w, h.t0, h.v0, ht, hx, ht, hx, h.la⟩
theorem OkW.s2 {v : Wn} (h : OkW v) {t x : Int} (ht : U t) (hx : U x) : OkW (v.s2 t x) := ⟨h.w, h.t0, h.v0, h.t1, h.v1, ht, hx, h.la⟩
theorem OkW.push {v : Wn} (h : OkW v) {t x : Int} (ht : U t) (hx : U x) : OkW (v.push t x) := ⟨h.w, h.t1, h.v1, h.t2, h.v2, ht, hx, h.la⟩
theorem OkW.tick {v : Wn} (h : OkW v) {t : Int} (ht : U t) : OkW (v.tick t) := ⟨h.w, h.t0, h.v0, h.t1, h.v1, h.t2, h.v2, by
  show U (if _ then _ else _); split
  · exact ht
  · exact h.la⟩
theorem OkW.wS1 {v : Wn} (h : OkW v) {t x : Int} (ht : U t) (hx : U x) : OkW (wS1 v t x) := by
  unfold BbrM.wS1; split
  · exact h.s12 ht hx
  · split
    · exact h.s2 ht hx
    · exact h
theorem OkW.wS2 {v : Wn} (h : OkW v) {t x : Int} (ht : U t) (hx : U x) : OkW (wS2 v t x) := by
  unfold BbrM.wS2; split
  · split
    · exact (h.push ht hx).push ht hx
    · exact h.push ht hx
  · split
    · exact h.s12 ht hx
    · split
      · exact h.s2 ht hx
      · exact h
theorem OkW.wU {v : Wn} (h : OkW v) {t x : Int} (ht : U t) (hx : U x) : OkW (wU v t x) := by
  unfold BbrM.wU; split
  · exact h.all ht hx
  · exact (h.wS1 ht hx).wS2 ht hx
theorem OkW.wUpd {v : Wn} (h : OkW v) {t x : Int} (ht : U t) (hx : U x) : OkW (wUpd v t x) := (h.tick ht).wU (h.tick ht).la hx
/-- A sample: now, delivered, prior, time, rtt, acked, lost, flight, limited. -/
abbrev Sm : Type := Int × Int × Int × Int × Int × Int × Int × Int × Bool
abbrev sNow (s : Sm) : Int := s.1
abbrev sDel (s : Sm) : Int := s.2.1
abbrev sPri (s : Sm) : Int := s.2.2.1
abbrev sTim (s : Sm) : Int := s.2.2.2.1
abbrev sRtt (s : Sm) : Int := s.2.2.2.2.1
abbrev sAck (s : Sm) : Int := s.2.2.2.2.2.1
abbrev sLost (s : Sm) : Int := s.2.2.2.2.2.2.1
abbrev sFli (s : Sm) : Int := s.2.2.2.2.2.2.2.1
abbrev sLim (s : Sm) : Bool := s.2.2.2.2.2.2.2.2
structure OkS (s : Sm) : Prop where
  now : U (sNow s)
  del : U (sDel s)
  pri : U (sPri s)
  tim : U (sTim s)
  rtt : U (sRtt s)
  ack : U (sAck s)
  lost : U (sLost s)
  fli : U (sFli s)
structure Rnd where
  n : Int
  nx : Int
structure OkR (r : Rnd) : Prop where
  n : U r.n
  nx : U r.nx
def rB (r : Rnd) (s : Sm) : Bool := decide (sAck s > 0) && !decide (sPri s < r.nx)
def rU (r : Rnd) (s : Sm) : Rnd := if rB r s then ⟨IntKind.u64.wrap (r.n + 1), sDel s⟩ else r
theorem OkR.rU {r : Rnd} (h : OkR r) {s : Sm} (hs : OkS s) : OkR (rU r s) := by
  unfold BbrM.rU; split
  · exact ⟨U_wrap _, hs.del⟩
  · exact h
structure Pp where
  best : Int
  n : Int
  full : Bool
structure OkP (p : Pp) : Prop where
  best : U p.best
  n : 0 ≤ p.n ∧ p.n ≤ 3
  full : p.full = false → p.n < 3
def pU (p : Pp) (start limited : Bool) (bw : Int) : Pp :=
  if !p.full && start && !limited then
    (if bw ≥ mdI p.best 320 256 then ⟨bw, 0, p.full⟩ else ⟨p.best, p.n + 1, decide (p.n + 1 = 3)⟩)
  else p
theorem OkP.pU {p : Pp} (h : OkP p) {a b : Bool} {bw : Int} (hb : U bw) : OkP (pU p a b bw) := by
  unfold BbrM.pU; split
  · rename_i hc
    have hf : p.full = false := by simp at hc; exact hc.1.1
    have hn := h.full hf
    have := h.n
    split
    · exact ⟨hb, by simp, fun _ => by simp⟩
    · exact ⟨h.best, by simp; omega, fun hh => by simp at hh ⊢; omega⟩
  · exact h
structure Cy where
  ph : Int
  at' : Int
structure OkC (c : Cy) : Prop where
  ph : 0 ≤ c.ph ∧ c.ph < 8
  at' : U c.at'
def cSt (now ph : Int) : Cy := ⟨ph % 8, now⟩
def cB (c : Cy) (now rtt lost fl up one : Int) : Bool :=
  if c.ph = 0 then decide (subI now c.at' > rtt) && (decide (lost > 0) || decide (fl ≥ up))
  else if c.ph = 1 then decide (subI now c.at' > rtt) || decide (fl ≤ one) else decide (subI now c.at' > rtt)
def cU (c : Cy) (now rtt lost fl up one : Int) : Cy := if cB c now rtt lost fl up one then cSt now (c.ph + 1) else c
def cG (c : Cy) : Int := if c.ph = 0 then 320 else if c.ph = 1 then 192 else 256
theorem OkC.st {now ph : Int} (h : U now) : OkC (cSt now ph) := ⟨by unfold cSt; dsimp only; omega, h⟩
theorem OkC.cU {c : Cy} (h : OkC c) {now rtt lost fl up one : Int} (hn : U now) : OkC (cU c now rtt lost fl up one) := by
  unfold BbrM.cU; split
  · exact OkC.st hn
  · exact h
structure Pb where
  best : Int
  at' : Int
  on : Bool
  til : Int
  rd : Bool
structure OkB (b : Pb) : Prop where
  best : U b.best
  at' : U b.at'
  til : U b.til
def bOld (b : Pb) (now : Int) : Bool := decide (b.best > 0) && decide (now > addI b.at' 10000000000)
def bTake (b : Pb) (now rtt : Int) : Bool := decide (rtt > 0) && (decide (b.best = 0) || (decide (rtt ≤ b.best) || bOld b now))
def bNew (b : Pb) (now rtt : Int) : Pb := if bTake b now rtt then { b with best := rtt, at' := now } else b
def bLv (b : Pb) (now : Int) (start : Bool) (fl floor : Int) : Bool × Pb :=
  if b.til = 0 then (if fl ≤ floor then (false, { b with til := addI now 200000000, rd := false }) else (false, b))
  else if !(b.rd || start) then (false, { b with rd := b.rd || start })
  else if now ≤ b.til then (false, { b with rd := b.rd || start })
  else (true, { b with rd := b.rd || start, at' := now, on := false })
/-- What begins, what ends, and what it is then. -/
def bU (b : Pb) (now rtt : Int) (start : Bool) (fl floor : Int) : (Bool × Bool) × Pb :=
  if bOld b now && !b.on then ((true, false), { bNew b now rtt with on := true, til := 0, rd := false })
  else if b.on then ((false, (bLv (bNew b now rtt) now start fl floor).1), (bLv (bNew b now rtt) now start fl floor).2)
  else ((false, false), bNew b now rtt)
theorem OkB.new {b : Pb} (h : OkB b) {now rtt : Int} (hn : U now) (hr : U rtt) : OkB (bNew b now rtt) := by
  unfold bNew; split
  · exact ⟨hr, hn, h.til⟩
  · exact h
theorem OkB.lv {b : Pb} (h : OkB b) {now fl floor : Int} {st : Bool} (hn : U now) : OkB (bLv b now st fl floor).2 := by
  unfold bLv; split
  · split
    · exact ⟨h.best, h.at', U_add hn (U_lit _)⟩
    · exact h
  · split
    · exact ⟨h.best, h.at', h.til⟩
    · split
      · exact ⟨h.best, h.at', h.til⟩
      · exact ⟨h.best, hn, h.til⟩
theorem OkB.bU {b : Pb} (h : OkB b) {now rtt fl floor : Int} {st : Bool} (hn : U now) (hr : U rtt) : OkB (bU b now rtt st fl floor).2 := by
  have := h.new hn hr
  unfold BbrM.bU; split
  · exact ⟨this.best, this.at', U_lit 0⟩
  · split
    · exact this.lv hn
    · exact this
structure Pl where
  use : Bool
  mea : Bool
  bw : Int
  n : Int
  lost : Int
  t0 : Int
  d0 : Int
  l0 : Int
structure OkL (q : Pl) : Prop where
  bw : U q.bw
  n : 0 ≤ q.n ∧ q.n ≤ 48
  lost : U q.lost
  t0 : U q.t0
  d0 : U q.d0
  l0 : U q.l0
  nu : q.use = true → q.n < 48
  nm : q.use = false → q.mea = true → q.n ≤ 16
def avg (a b : Int) : Int := a / 2 + b / 2 + (a % 2 + b % 2) / 2
def apart (a b : Int) : Int := if a < b then b - a else a - b
theorem U_avg {a b : Int} (ha : U a) (hb : U b) : U (avg a b) := by unfold U avg at *; omega
def qMeas (q : Pl) (s : Sm) : Option Int :=
  if subI (sDel s) q.d0 = 0 ∨ subI (sNow s) q.t0 = 0 then none
  else if subI q.lost q.l0 < mdI (subI (sDel s) q.d0) 50 256 then none
  else some (mdI (subI (sDel s) q.d0) 1000000000 (subI (sNow s) q.t0))
def qBegin (q : Pl) (s : Sm) : Pl := { q with mea := true, n := 0, t0 := sNow s, d0 := sDel s, l0 := q.lost }
def qLeave (q : Pl) : Pl := { q with use := false, mea := false, bw := 0 }
def qGot (q : Pl) (s : Sm) (r : Int) : Pl := if q.bw > 0 ∧ apart q.bw r ≤ q.bw / 8 then { q with bw := avg q.bw r, use := true, n := 0 } else qBegin { q with bw := r } s
def qEnd (q : Pl) (s : Sm) : Pl := match qMeas q s with
  | none => q
  | some r => qGot q s r
def qAdd (q : Pl) (s : Sm) : Pl := { q with lost := addI q.lost (sLost s) }
def qTick (q : Pl) (o : Bool) : Pl := if o then { q with n := q.n + 1 } else q
def qGo (q : Pl) (o : Bool) (s : Sm) : Pl :=
  if q.use then (if o = true ∧ q.n = 48 then { qLeave q with n := 0 } else q)
  else if q.n > 16 then qLeave q
  else if q.n ≥ 4 ∧ sLost s > 0 then qEnd q s else q
def qUpd (q : Pl) (o : Bool) (s : Sm) : Pl :=
  if q.use = false ∧ q.mea = false then (if sLost s > 0 then qBegin (qAdd q s) s else qAdd q s)
  else if q.use = false ∧ sLim s = true then qLeave (qAdd q s)
  else qGo (qTick (qAdd q s) o) o s
theorem OkL.begin {q : Pl} {s : Sm} (hb : U q.bw) (hl : U q.lost) (hs : OkS s) : OkL (qBegin q s) :=
  ⟨hb, by simp [qBegin], hl, hs.now, hs.del, hl, fun _ => by simp [qBegin], fun _ _ => by simp [qBegin]⟩
theorem OkL.leave {q : Pl} (h : OkL q) : OkL (qLeave q) := ⟨U_lit 0, h.n, h.lost, h.t0, h.d0, h.l0, fun hh => by simp [qLeave] at hh, fun _ hh => by simp [qLeave] at hh⟩
theorem OkL.add {q : Pl} (h : OkL q) {s : Sm} (hs : OkS s) : OkL (qAdd q s) := ⟨h.bw, h.n, U_add h.lost hs.lost, h.t0, h.d0, h.l0, h.nu, h.nm⟩
theorem U_meas {q : Pl} (h : OkL q) {s : Sm} (hs : OkS s) {r : Int} (hr : qMeas q s = some r) : U r := by
  unfold qMeas at hr
  split at hr
  · cases hr
  · split at hr
    · cases hr
    · cases hr; exact U_md (U_sub hs.del h.d0) (U_lit _) (U_sub hs.now h.t0)
theorem OkL.got {q : Pl} (h : OkL q) {s : Sm} (hs : OkS s) {r : Int} (hr : U r) : OkL (qGot q s r) := by
  unfold qGot
  split
  · exact ⟨U_avg h.bw hr, by simp, h.lost, h.t0, h.d0, h.l0, fun _ => by simp, fun _ _ => by simp⟩
  · exact OkL.begin hr h.lost hs
theorem OkL.end' {q : Pl} (h : OkL q) {s : Sm} (hs : OkS s) : OkL (qEnd q s) := by
  unfold qEnd
  split
  · exact h
  · rename_i r hr
    exact h.got hs (U_meas h hs hr)
theorem qGo_ok {q : Pl} (h : OkL q) {o : Bool} {s : Sm} (hs : OkS s) (hm : q.use = false → q.mea = true) : OkL (qGo (qTick q o) o s) := by
  obtain ⟨use, mea, bw, n, lost, t0, d0, l0⟩ := q
  have h1 := h.n
  have h2 := h.nu
  have h3 := h.nm
  dsimp only at h1 h2 h3 hm
  cases o with
  | false =>
    show OkL (qGo _ false s)
    unfold qGo
    simp only [qTick, Bool.false_eq_true, if_false, false_and]
    split
    · exact h
    · split
      · exact h.leave
      · split
        · exact h.end' hs
        · exact h
  | true =>
    unfold qGo
    simp only [qTick, if_true, true_and]
    split
    · rename_i hu
      have hu : use = true := hu
      have := h2 hu
      split
      · exact ⟨U_lit 0, by simp, h.lost, h.t0, h.d0, h.l0, (fun hh => by simp [qLeave] at hh), (fun _ hh => by simp [qLeave] at hh)⟩
      · rename_i h48
        exact ⟨h.bw, (by dsimp only; omega), h.lost, h.t0, h.d0, h.l0, (fun _ => by dsimp only; omega), (fun hh => by dsimp only at hh; rw [hu] at hh; cases hh)⟩
    · rename_i hu
      have hu : use = false := by simpa using hu
      have := h3 hu (hm hu)
      split
      · exact ⟨U_lit 0, (by simp [qLeave]; omega), h.lost, h.t0, h.d0, h.l0, (fun hh => by simp [qLeave] at hh), (fun _ hh => by simp [qLeave] at hh)⟩
      · rename_i h16
        have hk : OkL ⟨use, mea, bw, n + 1, lost, t0, d0, l0⟩ := ⟨h.bw, (by dsimp only; omega), h.lost, h.t0, h.d0, h.l0, (fun hh => by dsimp only at hh; rw [hu] at hh; cases hh), (fun _ _ => by dsimp only; omega)⟩
        split
        · exact hk.end' hs
        · exact hk
theorem OkL.upd {q : Pl} (h : OkL q) {o : Bool} {s : Sm} (hs : OkS s) : OkL (qUpd q o s) := by
  unfold qUpd
  split
  · split
    · exact OkL.begin h.bw (U_add h.lost hs.lost) hs
    · exact h.add hs
  · rename_i h0
    split
    · exact (h.add hs).leave
    · exact qGo_ok (h.add hs) hs (fun hu => by
        have hu : q.use = false := hu
        cases hm : q.mea with
        | false => exact absurd ⟨hu, hm⟩ h0
        | true => exact hm)
end BbrM


end Go.X
