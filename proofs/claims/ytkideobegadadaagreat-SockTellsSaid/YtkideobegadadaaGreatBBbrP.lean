/- Contracts and plain facts: BbrS BbrP. -/
import Derived.Test.YtkideobegadadaaGreatBArith
import Derived.Test.YtkideobegadadaaGreatBBbrM
import Derived.Test.YtkideobegadadaaGreatBBbrF
import Derived.Test.YtkideobegadadaaGreatBBbrI
import Derived.Test.YtkideobegadadaaGreatBArithC
import Derived.Test.YtkideobegadadaaGreatXw
import Derived.Test.YtkideobegadadaaGreatK
import Derived.Test.YtkideobegadadaaGreatF0
import Derived.Test.YtkideobegadadaaGreatF1
set_option linter.unusedVariables false
set_option linter.unusedSimpArgs false
set_option linter.unusedSectionVars false
namespace Go.X
open Go.Proofs
namespace BbrS
open Arith BbrM BbrMm BbrF BbrG BbrI
/-- Round y of a steady path: B bytes each rtt. -/
def sS (B rtt y : Int) : Sm := (y * rtt, y * B, (y - 1) * B, rtt, rtt, B, 0, B, false)
/-- What the model is behind y rounds. -/
structure Sy (B rtt x y : Int) (m : Md) : Prop where
  ok : OkM m
  inv : BbrG.Inv m
  mss : m.mss = 1000
  v0 : m.w.v0 ≤ x
  v1 : 1 ≤ y → m.w.v0 = x
  n : m.r.n = y
  nx : m.r.nx = y * B
  best : (y = 0 ∧ m.b.best = 0) ∨ m.b.best = rtt
  at' : m.b.at' = y * rtt
  on : m.b.on = false
  use : m.q.use = false
  mea : m.q.mea = false
  pp : (y = 0 ∧ m.p = ⟨0, 0, false⟩) ∨ (1 ≤ y ∧ y ≤ 3 ∧ m.p = ⟨x, y - 1, false⟩) ∨ (4 ≤ y ∧ m.p.full = true)
structure Path (B rtt x : Int) : Prop where
  hB : 1 ≤ B ∧ B ≤ 100000000
  hr : 10000000 ≤ rtt ∧ rtt ≤ 100000000
  hx : x = mdI B 1000000000 rtt
  x4 : 4 ≤ x ∧ x ≤ 10000000000000000
theorem mul_r {y a c : Int} (h0 : 0 ≤ y) (h1 : y ≤ 1000) (ha : 0 ≤ a) (hc : a ≤ c) : 0 ≤ y * a ∧ y * a ≤ 1000 * c :=
  ⟨Int.mul_nonneg h0 ha, Int.mul_le_mul h1 hc ha (by omega)⟩
theorem sS_ok {B rtt x y : Int} (h : Path B rtt x) (h1 : 1 ≤ y) (h2 : y ≤ 1000) : OkS (sS B rtt y) := by
  have hB := h.hB
  have hr := h.hr
  have a := mul_r (y := y) (a := rtt) (c := 100000000) (by omega) h2 (by omega) hr.2
  have b := mul_r (y := y) (a := B) (c := 100000000) (by omega) h2 (by omega) hB.2
  have c := mul_r (y := y - 1) (a := B) (c := 100000000) (by omega) (by omega) (by omega) hB.2
  exact ⟨⟨a.1, by show y * rtt < _; omega⟩, ⟨b.1, by show y * B < _; omega⟩, ⟨c.1, by show (y - 1) * B < _; omega⟩, ⟨by show 0 ≤ rtt; omega, by show rtt < _; omega⟩, ⟨by show 0 ≤ rtt; omega, by show rtt < _; omega⟩, ⟨by show 0 ≤ B; omega, by show B < _; omega⟩, ⟨by show (0 : Int) ≤ 0; omega, by show (0 : Int) < _; omega⟩, ⟨by show 0 ≤ B; omega, by show B < _; omega⟩⟩
theorem mK_eq {B rtt x y : Int} (h : Path B rtt x) (h1 : 1 ≤ y) : mK (sS B rtt y) = x := by
  have hB := h.hB
  show mdI (subI (y * B) ((y - 1) * B)) 1000000000 rtt = x
  have e : y * B - (y - 1) * B = B := by rw [Int.sub_mul]; omega
  have : subI (y * B) ((y - 1) * B) = B := by unfold subI; rw [if_neg (by omega), e]
  rw [this, h.hx]
theorem Sy.start (B rtt x : Int) (hx : 0 ≤ x) : Sy B rtt x 0 (mNew 1000) :=
  ⟨OkM.new _, BbrG.Inv.new _, rfl, hx, fun h => by omega, rfl, by simp, .inl ⟨rfl, rfl⟩, by simp, rfl, rfl, rfl, .inl ⟨rfl, rfl⟩⟩
structure K2 (u v : Md) : Prop where
  w : v.w = u.w
  q : v.q = u.q
theorem K2.trans {a b c : Md} (h : K2 a b) (g : K2 b c) : K2 a c := ⟨g.w.trans h.w, g.q.trans h.q⟩
theorem g_cyc (m : Md) (s : Sm) : K2 m (mCyc m s) := by unfold mCyc; split <;> exact ⟨rfl, rfl⟩
theorem g_m1 (m : Md) : K2 m (mM1 m) := by unfold mM1; split <;> exact ⟨rfl, rfl⟩
theorem g_m2 (m : Md) (s : Sm) : K2 m (mM2 m s) := by unfold mM2; split <;> exact ⟨rfl, rfl⟩
theorem g_pace (m : Md) : K2 m (mPace m) := by unfold mPace; (repeat' split) <;> exact ⟨rfl, rfl⟩
theorem g_rec (m : Md) (s : Sm) (o : Bool) : K2 m (mRecover m s o) := by unfold mRecover mOver; (repeat' split) <;> exact ⟨rfl, rfl⟩
theorem g_w2 (m : Md) (s : Sm) (t : Int) : K2 m (mW2 m s t) := by unfold mW2; (repeat' split) <;> exact ⟨rfl, rfl⟩
theorem g_w4 (m : Md) : K2 m (mW4 m) := by unfold mW4; split <;> exact ⟨rfl, rfl⟩
theorem g_window (m : Md) (s : Sm) (t : Int) : K2 m (mWindow m s t) := by
  have a : K2 m (mW1 m s) := ⟨rfl, rfl⟩
  have b : K2 (mW2 (mW1 m s) s t) (mW3 (mW2 (mW1 m s) s t)) := ⟨rfl, rfl⟩
  exact (a.trans (g_w2 _ s t)).trans (b.trans (g_w4 _))
theorem g_u3 (m : Md) (o : Bool) (s : Sm) (t : Int) : K2 m (mU3 m o s t) := ((g_pace m).trans (g_rec _ s o)).trans (g_window _ s t)
/-- A probe that does not come. -/
theorem calm_look (m : Md) (s : Sm) (o : Bool) (h1 : m.b.on = false) (h2 : bOld m.b (sNow s) = false) : mLook m s o = { m with b := bNew m.b (sNow s) (sRtt s) } := by
  have e : mLook m s o = mProbed { m with b := (bU m.b (sNow s) (sRtt s) o (sFli s) (mFloor m)).2 } (bU m.b (sNow s) (sRtt s) o (sFli s) (mFloor m)).1 (sNow s) := rfl
  rw [e]
  unfold bU
  rw [h2, if_neg (by simp), if_neg (by rw [h1]; simp)]
  rfl
theorem wUpd_v0 (v : Wn) (t x : Int) (h : v.v0 ≤ x) : (wUpd v t x).v0 = x := by
  unfold wUpd wU
  rw [if_pos (.inl (show x ≥ (v.tick t).v0 from h))]
  rfl
theorem Sy.old {B rtt x y : Int} (p : Path B rtt x) (h0 : 0 ≤ y) (h1 : y < 1000) {m : Md} (h : Sy B rtt x y m) : bOld m.b (sNow (sS B rtt (y + 1))) = false := by
  have hr := p.hr
  have hyr := mul_r (y := y) (a := rtt) (c := 100000000) h0 (by omega) (by omega) hr.2
  have e1 : (y + 1) * rtt = y * rtt + rtt := by rw [Int.add_mul]; omega
  unfold bOld
  rw [h.at']
  have : ¬ sNow (sS B rtt (y + 1)) > addI (y * rtt) 10000000000 := by
    show ¬ (y + 1) * rtt > _
    rw [e1]; unfold addI; split <;> omega
  simp [this]
/-- One round more. -/
theorem Sy.next {B rtt x y : Int} (p : Path B rtt x) (h0 : 0 ≤ y) (h1 : y < 1000) {m : Md} (h : Sy B rtt x y m) : Sy B rtt x (y + 1) (mUpd m (sS B rtt (y + 1)) 2000) := by
  have hB := p.hB
  have hr := p.hr
  have hx4 := p.x4
  have hs := sS_ok p (y := y + 1) (by omega) (by omega)
  have t2 : U 2000 := U_lit 2000
  have hn : sNow (sS B rtt (y + 1)) = (y + 1) * rtt := rfl
  have hk := mK_eq p (y := y + 1) (by omega)
  have hyr := mul_r (y := y) (a := rtt) (c := 100000000) h0 (by omega) (by omega) hr.2
  have hyB := mul_r (y := y) (a := B) (c := 100000000) h0 (by omega) (by omega) hB.2
  have e1 : (y + 1) * rtt = y * rtt + rtt := by rw [Int.add_mul]; omega
  have e2 : (y + 1) * B = y * B + B := by rw [Int.add_mul]; omega
  -- the round
  have hrB : rB m.r (sS B rtt (y + 1)) = true := by
    unfold rB
    show (decide (B > 0) && !decide ((y + 1 - 1) * B < m.r.nx)) = true
    rw [h.nx, show y + 1 - 1 = y by omega]
    simp; omega
  have hr1 : rU m.r (sS B rtt (y + 1)) = ⟨y + 1, (y + 1) * B⟩ := by
    unfold rU
    rw [if_pos hrB, h.n, wu (by omega) (by omega)]
    rfl
  -- the policer
  have hq : qUpd m.q true (sS B rtt (y + 1)) = qAdd m.q (sS B rtt (y + 1)) := by
    unfold qUpd
    rw [if_pos ⟨h.use, h.mea⟩, if_neg (by show ¬ (0 : Int) > 0; omega)]
  have e : mUpd m (sS B rtt (y + 1)) 2000 = mU3 (mU2 (mU1 m (sS B rtt (y + 1))) true (sS B rtt (y + 1))) true (sS B rtt (y + 1)) 2000 := by
    show mU3 (mU2 (mU1 m (sS B rtt (y + 1))) (rB m.r (sS B rtt (y + 1))) (sS B rtt (y + 1))) (rB m.r (sS B rtt (y + 1))) (sS B rtt (y + 1)) 2000 = _
    rw [hrB]
  have hinv := (tr m (sS B rtt (y + 1)) 2000 h.inv).inv
  have hok := h.ok.upd hs t2
  have hms : (mUpd m (sS B rtt (y + 1)) 2000).mss = 1000 := by rw [upd_mss]; exact h.mss
  -- the parts
  have z1 := s_u3 (mU2 (mU1 m (sS B rtt (y + 1))) true (sS B rtt (y + 1))) true (sS B rtt (y + 1)) 2000
  have z2 := g_u3 (mU2 (mU1 m (sS B rtt (y + 1))) true (sS B rtt (y + 1))) true (sS B rtt (y + 1)) 2000
  rw [← e] at z1 z2
  generalize mUpd m (sS B rtt (y + 1)) 2000 = z at *
  have a1 : (mU1 m (sS B rtt (y + 1))).r = ⟨y + 1, (y + 1) * B⟩ := hr1
  have a2 : (mU1 m (sS B rtt (y + 1))).q = qAdd m.q (sS B rtt (y + 1)) := by
    show qUpd m.q (rB m.r (sS B rtt (y + 1))) (sS B rtt (y + 1)) = _
    rw [hrB, hq]
  have a3 : (mU1 m (sS B rtt (y + 1))).w = m.w := rfl
  have a4 : (mU1 m (sS B rtt (y + 1))).p = m.p := rfl
  have a5 : (mU1 m (sS B rtt (y + 1))).b = m.b := rfl
  have e2' : mU2 (mU1 m (sS B rtt (y + 1))) true (sS B rtt (y + 1)) = mLook (mM2 (mM1 (mPipe (mCyc (mMeas (mU1 m (sS B rtt (y + 1))) (sS B rtt (y + 1))) (sS B rtt (y + 1))) true (sS B rtt (y + 1)))) (sS B rtt (y + 1))) (sS B rtt (y + 1)) true := rfl
  rw [e2'] at z1 z2
  generalize mU1 m (sS B rtt (y + 1)) = a at *
  have b0 : mMeas a (sS B rtt (y + 1)) = { a with w := wUpd a.w a.r.n x } := by
    unfold mMeas
    rw [if_neg (by show ¬ (B = 0 ∨ rtt = 0); omega), if_pos (.inl rfl), hk]
  rw [b0] at z1 z2
  have b1 : ({ a with w := wUpd a.w a.r.n x } : Md).w.v0 = x := wUpd_v0 _ _ _ (by rw [a3]; exact h.v0)
  have b2 : ({ a with w := wUpd a.w a.r.n x } : Md).r = a.r := rfl
  have b3 : ({ a with w := wUpd a.w a.r.n x } : Md).p = a.p := rfl
  have b4 : ({ a with w := wUpd a.w a.r.n x } : Md).b = a.b := rfl
  have b5 : ({ a with w := wUpd a.w a.r.n x } : Md).q = a.q := rfl
  generalize ({ a with w := wUpd a.w a.r.n x } : Md) = c at *
  have c1 := s_cyc c (sS B rtt (y + 1))
  have c2 := g_cyc c (sS B rtt (y + 1))
  generalize mCyc c (sS B rtt (y + 1)) = d at *
  have d1 := mm (mPipe d true (sS B rtt (y + 1))) (sS B rtt (y + 1))
  have d2 := (g_m1 (mPipe d true (sS B rtt (y + 1)))).trans (g_m2 _ (sS B rtt (y + 1)))
  obtain ⟨d3, d4, d5, _⟩ := d1
  generalize mM2 (mM1 (mPipe d true (sS B rtt (y + 1)))) (sS B rtt (y + 1)) = f at *
  have fb : f.b = m.b := by rw [d4]; show d.b = m.b; rw [c1.b, b4, a5]
  have fp : f.p = pU m.p true false x := by
    rw [d3]; show pU d.p true false d.w.v0 = _; rw [c1.p, b3, a4, c2.w, b1]
  have fr : f.r = ⟨y + 1, (y + 1) * B⟩ := by rw [d5]; show d.r = _; rw [c1.r, b2, a1]
  have fw : f.w.v0 = x := by rw [d2.w]; show d.w.v0 = _; rw [c2.w, b1]
  have fq : f.q = qAdd m.q (sS B rtt (y + 1)) := by rw [d2.q]; show d.q = _; rw [c2.q, b5, a2]
  have hold : bOld f.b (sNow (sS B rtt (y + 1))) = false := by
    rw [fb]
    unfold bOld
    rw [h.at']
    have : ¬ sNow (sS B rtt (y + 1)) > addI (y * rtt) 10000000000 := by
      rw [hn]; unfold addI; split <;> omega
    simp [this]
  have hlook := calm_look f (sS B rtt (y + 1)) true (by rw [fb]; exact h.on) hold
  rw [hlook] at z1 z2
  have hnew : bNew f.b (sNow (sS B rtt (y + 1))) (sRtt (sS B rtt (y + 1))) = { f.b with best := rtt, at' := (y + 1) * rtt } := by
    have htk : bTake f.b (sNow (sS B rtt (y + 1))) (sRtt (sS B rtt (y + 1))) = true := by
      unfold bTake
      rw [fb]
      show (decide (rtt > 0) && (decide (m.b.best = 0) || (decide (rtt ≤ m.b.best) || bOld m.b _))) = true
      rcases h.best with ⟨_, hb⟩ | hb
      · rw [hb]; simp; omega
      · rw [hb]; simp; omega
    unfold bNew
    rw [if_pos htk]
    rfl
  have zb : z.b = { f.b with best := rtt, at' := (y + 1) * rtt } := by rw [z1.b]; exact hnew
  have zp : z.p = pU m.p true false x := by rw [z1.p]; exact fp
  have zr : z.r = ⟨y + 1, (y + 1) * B⟩ := by rw [z1.r]; exact fr
  have zw : z.w.v0 = x := by rw [z2.w]; exact fw
  have zq : z.q = qAdd m.q (sS B rtt (y + 1)) := by rw [z2.q]; exact fq
  refine ⟨hok, hinv, hms, by omega, fun _ => zw, by rw [zr], by rw [zr], .inr (by rw [zb]), by rw [zb], by rw [zb]; show f.b.on = false; rw [fb]; exact h.on, by rw [zq]; exact h.use, by rw [zq]; exact h.mea, ?_⟩
  rw [zp]
  have hmd : mdI x 320 256 > x := by
    unfold mdI
    rw [if_neg (by omega), if_pos (by omega)]
    omega
  rcases h.pp with ⟨hy, hp⟩ | ⟨hy1, hy3, hp⟩ | ⟨hy4, hp⟩
  · refine .inr (.inl ⟨by omega, by omega, ?_⟩)
    rw [hp]
    unfold pU
    have : mdI 0 320 256 = 0 := by decide
    dsimp only
    rw [if_pos (show (!false && true && !false) = true from rfl), if_pos (by rw [this]; omega), hy]
    rfl
  · rw [hp]
    unfold pU
    dsimp only
    rw [if_pos (show (!false && true && !false) = true from rfl), if_neg (by omega)]
    by_cases h3 : y = 3
    · refine .inr (.inr ⟨by omega, ?_⟩)
      rw [h3]; rfl
    · refine .inr (.inl ⟨by omega, by omega, ?_⟩)
      have : decide (y - 1 + 1 = 3) = false := decide_eq_false (by omega)
      rw [this, show y - 1 + 1 = y + 1 - 1 by omega]
  · refine .inr (.inr ⟨by omega, ?_⟩)
    rw [p_full _ _ _ _ hp]; exact hp
structure Kc (u v : Md) : Prop where
  c : v.c = u.c
  first : v.first = u.first
theorem Kc.trans {a b c : Md} (h : Kc a b) (g : Kc b c) : Kc a c := ⟨g.c.trans h.c, g.first.trans h.first⟩
theorem c_pace (m : Md) : Kc m (mPace m) := by unfold mPace; (repeat' split) <;> exact ⟨rfl, rfl⟩
theorem c_w2 (m : Md) (s : Sm) (t : Int) : Kc m (mW2 m s t) := by unfold mW2; (repeat' split) <;> exact ⟨rfl, rfl⟩
theorem c_w4 (m : Md) : Kc m (mW4 m) := by unfold mW4; split <;> exact ⟨rfl, rfl⟩
theorem c_window (m : Md) (s : Sm) (t : Int) : Kc m (mWindow m s t) := by
  have a : Kc m (mW1 m s) := ⟨rfl, rfl⟩
  have b : Kc (mW2 (mW1 m s) s t) (mW3 (mW2 (mW1 m s) s t)) := ⟨rfl, rfl⟩
  exact (a.trans (c_w2 _ s t)).trans (b.trans (c_w4 _))
theorem rec_no {m : Md} (s : Sm) (o : Bool) (h : m.rec' = false) (hl : sLost s = 0) : mRecover m s o = m := by
  unfold mRecover; rw [if_neg (by omega), if_neg (by rw [h]; simp)]
theorem four_le (bw rtt g tso : Int) (h : rtt ≠ 0) : 4000 ≤ winI bw rtt g tso 1000 := by
  have e : mulI 4 1000 = 4000 := by decide
  unfold winI; rw [if_neg h, e]; split <;> omega
/-- What is told behind a round of a steady path. -/
theorem fin {B rtt x y : Int} (p : Path B rtt x) (h0 : 4 ≤ y) (h1 : y < 1000) {m : Md} (h : Sy B rtt x y m) (hq : Quiet m) (hf : m.first = false) :
    (mUpd m (sS B rtt (y + 1)) 2000).first = false ∧ ((mUpd m (sS B rtt (y + 1)) 2000).rate = (if 1 > rateI x (mGain (mUpd m (sS B rtt (y + 1)) 2000)) then 1 else rateI x (mGain (mUpd m (sS B rtt (y + 1)) 2000)))) ∧
      ((mUpd m (sS B rtt (y + 1)) 2000).mode = 2 → (mUpd m (sS B rtt (y + 1)) 2000).win ≤ winI x rtt 512 2000 1000) := by
  have hB := p.hB
  have hr := p.hr
  have hx4 := p.x4
  have hs := sS_ok p (y := y + 1) (by omega) (by omega)
  have t2 : U 2000 := U_lit 2000
  have hz := h.next p (by omega) h1
  obtain ⟨k, hon⟩ := f_u2 hq.ok hs (h.old p (by omega) h1) hq.on (rB m.r (sS B rtt (y + 1)))
  have e : mUpd m (sS B rtt (y + 1)) 2000 = mWindow (mRecover (mPace (mU2 (mU1 m (sS B rtt (y + 1))) (rB m.r (sS B rtt (y + 1))) (sS B rtt (y + 1)))) (sS B rtt (y + 1)) (rB m.r (sS B rtt (y + 1)))) (sS B rtt (y + 1)) 2000 := rfl
  rw [rec_no _ _ (by rw [k.rec', hq.rec']) rfl] at e
  have kf := k.first
  rw [hf] at kf
  have ok : OkM (mU2 (mU1 m (sS B rtt (y + 1))) (rB m.r (sS B rtt (y + 1))) (sS B rtt (y + 1))) := (((((hq.ok.u1 hs).meas hs).cyc hs).pipe.m1.m2 hs).look hs)
  generalize mU2 (mU1 m (sS B rtt (y + 1))) (rB m.r (sS B rtt (y + 1))) (sS B rtt (y + 1)) = f at *
  have w1 := s_window (mPace f) (sS B rtt (y + 1)) 2000
  have w2 := g_window (mPace f) (sS B rtt (y + 1)) 2000
  have w3 := c_window (mPace f) (sS B rtt (y + 1)) 2000
  have w4 := k_window (mPace f) (sS B rtt (y + 1)) 2000
  rw [← e] at w1 w2 w3 w4
  have q1 := s_pace f
  have q2 := g_pace f
  have q3 := c_pace f
  have hbw : mBw f = x := by
    unfold mBw
    rw [← q2.q, ← w2.q, hz.use, ← q2.w, ← w2.w]
    exact hz.v1 (by omega)
  have hgain : mGain f = mGain (mUpd m (sS B rtt (y + 1)) 2000) := by
    unfold mGain
    rw [w1.mode, q1.mode, w2.q, q2.q, w3.c, q3.c]
  have hfull : (mPace f).p.full = true := by
    rw [← w1.p]
    rcases hz.pp with ⟨a, _⟩ | ⟨_, a, _⟩ | ⟨_, a⟩
    · omega
    · omega
    · exact a
  have hpf : f.p.full = true := by rw [← q1.p]; exact hfull
  refine ⟨by rw [w3.first]; exact kf, ?_, fun hmode => ?_⟩
  · rw [w4.rate, ← hgain]
    unfold mPace
    rw [if_neg (by rw [hbw]; omega), if_pos (.inl hpf)]
    show mRt f = _
    unfold mRt
    rw [hbw]
  · have gm : (mPace f).mode = 2 := by rw [← w1.mode]; exact hmode
    have gbw : mBw (mPace f) = x := by unfold mBw; rw [q2.q, q2.w]; exact hbw
    have gb : (mPace f).b.best = rtt := by
      rw [← w1.b]
      rcases hz.best with ⟨a, _⟩ | a
      · omega
      · exact a
    have gs : (mPace f).mss = 1000 := by rw [← w4.mss]; exact hz.mss
    rw [e]
    generalize mPace f = g at *
    have u1 : (mW1 g (sS B rtt (y + 1))).first = false := kf
    have u2 : (mW1 g (sS B rtt (y + 1))).p.full = true := hfull
    have u3 : mTar (mW1 g (sS B rtt (y + 1))) 2000 = winI x rtt 512 2000 1000 := by
      show winI (mBw g) g.b.best (mWide g) 2000 g.mss = _
      rw [gbw, gb, gs]
      unfold mWide
      rw [if_pos gm]
    have u4 : (mW1 g (sS B rtt (y + 1))).mode = 2 := gm
    have u5 : (mW1 g (sS B rtt (y + 1))).mss = 1000 := gs
    unfold mWindow
    generalize mW1 g (sS B rtt (y + 1)) = v at *
    have e2 : mW2 v (sS B rtt (y + 1)) 2000 = { v with win := if mTar v 2000 < addI v.win (sAck (sS B rtt (y + 1))) then mTar v 2000 else addI v.win (sAck (sS B rtt (y + 1))) } := by
      unfold mW2
      rw [if_neg (by rw [u1]; simp), if_pos (by show B > 0; omega), if_pos u2]
    rw [e2, u3]
    unfold mW4
    rw [if_neg (by show ¬ v.mode = 3; omega)]
    have := four_le x rtt 512 2000 (by omega)
    show (if 4 * v.mss > (if winI x rtt 512 2000 1000 < addI v.win (sAck (sS B rtt (y + 1))) then winI x rtt 512 2000 1000 else addI v.win (sAck (sS B rtt (y + 1)))) then 4 * v.mss else (if winI x rtt 512 2000 1000 < addI v.win (sAck (sS B rtt (y + 1))) then winI x rtt 512 2000 1000 else addI v.win (sAck (sS B rtt (y + 1))))) ≤ _
    rw [u5]
    (repeat' split) <;> omega
theorem path {bw rtt : Int} (h1 : 1000000 ≤ bw ∧ bw < 101000000) (h2 : 10000000 ≤ rtt ∧ rtt < 100000000) : Path (mdI bw rtt 1000000000) rtt (mdI (mdI bw rtt 1000000000) 1000000000 rtt) := by
  have a := Int.mul_le_mul h1.1 h2.1 (by omega) (by omega)
  have b := Int.mul_le_mul (show bw ≤ 101000000 by omega) (show rtt ≤ 100000000 by omega) (by omega) (by omega)
  have eB : mdI bw rtt 1000000000 = bw * rtt / 1000000000 := by unfold mdI; rw [if_neg (by omega), if_pos (by omega)]
  obtain ⟨B, hB⟩ : ∃ B, mdI bw rtt 1000000000 = B := ⟨_, rfl⟩
  rw [hB] at eB ⊢
  have b1 : 10000 ≤ B ∧ B ≤ 10100000 := by omega
  have ex : mdI B 1000000000 rtt = B * 1000000000 / rtt := by unfold mdI; rw [if_neg (by omega), if_pos (by omega)]
  refine ⟨by omega, by omega, rfl, ?_, ?_⟩
  · rw [ex]; exact Int.le_ediv_of_mul_le (by omega) (by omega)
  · rw [ex]; exact Int.ediv_le_of_le_mul (by omega) (by omega)
end BbrS

namespace BbrP
open Arith ArithC _root_.Go.X.Target BbrM
theorem wnew_tri (w : Int) : Tri Tryz.prog N_winmax_New [.lf (.int .u64 w)] [.lf .ptr] emp (fun r => ex fun n : Nat => pur (r = some ⟨n, 0⟩) (blk n [.int .u64 (Wn.mk w 0 0 0 0 0 0 0).w, .int .u64 (Wn.mk w 0 0 0 0 0 0 0).t0, .int .u64 (Wn.mk w 0 0 0 0 0 0 0).v0, .int .u64 (Wn.mk w 0 0 0 0 0 0 0).t1, .int .u64 (Wn.mk w 0 0 0 0 0 0 0).v1, .int .u64 (Wn.mk w 0 0 0 0 0 0 0).t2, .int .u64 (Wn.mk w 0 0 0 0 0 0 0).v2, .int .u64 (Wn.mk w 0 0 0 0 0 0 0).la])) :=
  tri_0 (call_winmax_New w) fun w0 S R h => by
    unfold W_winmax_New
    refine w_new h fun n w h => ?_
    exact Own.retE n (Own.retP rfl h.fin)
theorem best_tri (b : Nat) (v : Wn) : Tri Tryz.prog N_winmax_Max_Best [.lf (.ptr (some ⟨b, 0⟩))] [.lf (.int .u64)] (blk b [.int .u64 v.w, .int .u64 v.t0, .int .u64 v.v0, .int .u64 v.t1, .int .u64 v.v1, .int .u64 v.t2, .int .u64 v.v2, .int .u64 v.la]) (fun r => pur (r = v.v0) (blk b [.int .u64 v.w, .int .u64 v.t0, .int .u64 v.v0, .int .u64 v.t1, .int .u64 v.v1, .int .u64 v.t2, .int .u64 v.v2, .int .u64 v.la])) :=
  tri_0 (call_winmax_Max_Best _) fun w0 S R h => by
    unfold W_winmax_Max_Best
    refine w_ite (fun c => (by cases c)) fun _ => ?_
    refine w_deref ⟨by decide, w_ld h rfl ?_⟩
    exact Own.retP rfl h.fin
theorem near_tri (t s v w : Int) (ht : U t) (hs : U s) : Tri Tryz.prog N_winmax_near [.lf (.int .u64 t), .agg (Ks.mk KP (s, v)), .lf (.int .u64 w)] [.lf .bool] emp (fun r => pur (r = !decide (far t s w)) emp) :=
  tri_0 (call_winmax_near t (s, v) w) fun w0 S R h => by
    unfold W_winmax_near
    refine w_new h fun n w h => ?_
    refine w_ld h rfl ?_
    rw [rsub_eq ht hs]
    exact Own.retP (by unfold far; rw [Bool.eq_iff_iff]; simp) h.fin
theorem push_tri (b : Nat) (v : Wn) (t x : Int) : Tri Tryz.prog N_winmax_Max_push [.lf (.ptr (some ⟨b, 0⟩)), .agg (Ks.mk KP (t, x))] [] (blk b [.int .u64 v.w, .int .u64 v.t0, .int .u64 v.v0, .int .u64 v.t1, .int .u64 v.v1, .int .u64 v.t2, .int .u64 v.v2, .int .u64 v.la]) (fun _ => blk b [.int .u64 (v.push t x).w, .int .u64 (v.push t x).t0, .int .u64 (v.push t x).v0, .int .u64 (v.push t x).t1, .int .u64 (v.push t x).v1, .int .u64 (v.push t x).t2, .int .u64 (v.push t x).v2, .int .u64 (v.push t x).la]) :=
  tri_0 (call_winmax_Max_push _ (t, x)) fun w0 S R h => by
    unfold W_winmax_Max_push
    refine w_new h fun n w h => ?_
    refine w_drw h fun w h => ?_
    refine w_ldAll h rfl ?_
    refine w_deref (w_deref (w_deref (w_deref (w_deref ⟨by decide, by decide, w_ld h rfl (w_ld h rfl ⟨by decide, ?_⟩)⟩))))
    refine w_set h rfl fun w h => ?_
    dsimp only [upd, over] at h
    refine w_chkAll h ⟨by decide, ?_⟩
    refine w_set h rfl fun w h => ?_
    dsimp only [upd, over] at h
    refine w_chkAll h ⟨by decide, ?_⟩
    refine w_set h rfl fun w h => ?_
    dsimp only [upd, over] at h
    exact Own.keep (A := blk b [.int .u64 (v.push t x).w, .int .u64 (v.push t x).t0, .int .u64 (v.push t x).v0, .int .u64 (v.push t x).t1, .int .u64 (v.push t x).v1, .int .u64 (v.push t x).t2, .int .u64 (v.push t x).v2, .int .u64 (v.push t x).la]) h
def stA (v : Wn) (f t x : Int) (i : Int) : Wn := { v with
  t0 := if f = 0 ∧ 0 < i then t else v.t0, v0 := if f = 0 ∧ 0 < i then x else v.v0
  t1 := if f ≤ 1 ∧ 1 < f + i then t else v.t1, v1 := if f ≤ 1 ∧ 1 < f + i then x else v.v1
  t2 := if 2 < f + i then t else v.t2, v2 := if 2 < f + i then x else v.v2 }
theorem all_tri (b : Nat) (v : Wn) (f t x : Int) (hf : f = 0 ∨ f = 1 ∨ f = 2) : Tri Tryz.prog N_winmax_Max_all [.lf (.ptr (some ⟨b, 0⟩)), .lf (.int .i64 f), .agg (Ks.mk KP (t, x))] [] (blk b [.int .u64 v.w, .int .u64 v.t0, .int .u64 v.v0, .int .u64 v.t1, .int .u64 v.v1, .int .u64 v.t2, .int .u64 v.v2, .int .u64 v.la])
    (fun _ => blk b [.int .u64 (if f = 0 then v.all t x else if f = 1 then v.s12 t x else v.s2 t x).w, .int .u64 (if f = 0 then v.all t x else if f = 1 then v.s12 t x else v.s2 t x).t0, .int .u64 (if f = 0 then v.all t x else if f = 1 then v.s12 t x else v.s2 t x).v0, .int .u64 (if f = 0 then v.all t x else if f = 1 then v.s12 t x else v.s2 t x).t1, .int .u64 (if f = 0 then v.all t x else if f = 1 then v.s12 t x else v.s2 t x).v1, .int .u64 (if f = 0 then v.all t x else if f = 1 then v.s12 t x else v.s2 t x).t2, .int .u64 (if f = 0 then v.all t x else if f = 1 then v.s12 t x else v.s2 t x).v2, .int .u64 (if f = 0 then v.all t x else if f = 1 then v.s12 t x else v.s2 t x).la]) :=
  tri_0 (call_winmax_Max_all _ f (t, x)) fun w0 S R h => by
    unfold W_winmax_Max_all
    refine w_new h fun n w h => ?_
    refine w_deref ?_
    refine ⟨⟨rfl, fun _ => by simp⟩, f.toNat, 3, 3, ?_, rfl, rfl, ⟨by omega, Nat.le_refl _, Nat.le_refl _⟩, ?_⟩
    · show f = f.toNat; omega
    have h : Own w0 S R w (blk b [.int .u64 (stA v f t x 0).w, .int .u64 (stA v f t x 0).t0, .int .u64 (stA v f t x 0).v0, .int .u64 (stA v f t x 0).t1, .int .u64 (stA v f t x 0).v1, .int .u64 (stA v f t x 0).t2, .int .u64 (stA v f t x 0).v2, .int .u64 (stA v f t x 0).la] ^ blk n (Ks.mk KP (t, x)) ^ emp) := by
      have h := h.blkEq (b := b) (L' := [.int .u64 (stA v f t x 0).w, .int .u64 (stA v f t x 0).t0, .int .u64 (stA v f t x 0).v0, .int .u64 (stA v f t x 0).t1, .int .u64 (stA v f t x 0).v1, .int .u64 (stA v f t x 0).t2, .int .u64 (stA v f t x 0).v2, .int .u64 (stA v f t x 0).la]) (by rcases hf with rfl | rfl | rfl <;> simp [stA])
      exact h
    have hlen : ((Sl.sub ⟨some ⟨b, 0 + 1⟩, 3, 3⟩ f.toNat 3 3 2).len : Int) = 3 - f := by
      show ((3 - f.toNat : Nat) : Int) = _; omega
    refine w_loop (fun i : Int => blk b [.int .u64 (stA v f t x i).w, .int .u64 (stA v f t x i).t0, .int .u64 (stA v f t x i).v0, .int .u64 (stA v f t x i).t1, .int .u64 (stA v f t x i).v1, .int .u64 (stA v f t x i).t2, .int .u64 (stA v f t x i).v2, .int .u64 (stA v f t x i).la] ^ blk n (Ks.mk KP (t, x)) ^ emp) (fun i : Int => 0 ≤ i ∧ i ≤ 3 - f) (fun i : Int => 3 - i.toNat) h ⟨Int.le_refl _, by omega⟩ ?_
    rintro (i : Int) w ⟨h0, h1⟩ h
    rw [hlen]
    refine w_ite (fun c => ?_) fun c => ?_
    · have c : i < 3 - f := by simpa using c
      refine w_drw h fun w h => w_ldAll h rfl (w_deref ?_)
      rw [wi (n := f + i) (by omega) (by omega), wi (n := i + 1) (by omega) (by omega)]
      refine ⟨by omega, ?_⟩
      have hi : (f = 0 ∧ i = 0) ∨ (f = 0 ∧ i = 1) ∨ (f = 0 ∧ i = 2) ∨ (f = 1 ∧ i = 0) ∨ (f = 1 ∧ i = 1) ∨ (f = 2 ∧ i = 0) := by omega
      refine w_setTo h b [.int .u64 (stA v f t x (i + 1)).w, .int .u64 (stA v f t x (i + 1)).t0, .int .u64 (stA v f t x (i + 1)).v0, .int .u64 (stA v f t x (i + 1)).t1, .int .u64 (stA v f t x (i + 1)).v1, .int .u64 (stA v f t x (i + 1)).t2, .int .u64 (stA v f t x (i + 1)).v2, .int .u64 (stA v f t x (i + 1)).la] rfl ?_ ?_ fun w h => ?_
      · rcases hi with ⟨rfl, rfl⟩ | ⟨rfl, rfl⟩ | ⟨rfl, rfl⟩ | ⟨rfl, rfl⟩ | ⟨rfl, rfl⟩ | ⟨rfl, rfl⟩ <;> rfl
      · rcases hi with ⟨rfl, rfl⟩ | ⟨rfl, rfl⟩ | ⟨rfl, rfl⟩ | ⟨rfl, rfl⟩ | ⟨rfl, rfl⟩ | ⟨rfl, rfl⟩ <;> rfl
      · exact ⟨⟨⟨by show 0 ≤ i + 1; omega, by show i + 1 ≤ _; omega⟩, h⟩, by show 3 - (i + 1).toNat < 3 - i.toNat; omega⟩
    · have c : i = 3 - f := by have : ¬ i < 3 - f := by simpa using c
                               omega
      subst c
      refine Own.keep (A := blk b [.int .u64 (if f = 0 then v.all t x else if f = 1 then v.s12 t x else v.s2 t x).w, .int .u64 (if f = 0 then v.all t x else if f = 1 then v.s12 t x else v.s2 t x).t0, .int .u64 (if f = 0 then v.all t x else if f = 1 then v.s12 t x else v.s2 t x).v0, .int .u64 (if f = 0 then v.all t x else if f = 1 then v.s12 t x else v.s2 t x).t1, .int .u64 (if f = 0 then v.all t x else if f = 1 then v.s12 t x else v.s2 t x).v1, .int .u64 (if f = 0 then v.all t x else if f = 1 then v.s12 t x else v.s2 t x).t2, .int .u64 (if f = 0 then v.all t x else if f = 1 then v.s12 t x else v.s2 t x).v2, .int .u64 (if f = 0 then v.all t x else if f = 1 then v.s12 t x else v.s2 t x).la]) (h.blkEq (b := b) ?_)
      rcases hf with rfl | rfl | rfl <;> simp [stA, Wn.all, Wn.s12, Wn.s2]
theorem reset_tri (b : Nat) (v : Wn) (t x : Int) : Tri Tryz.prog N_winmax_Max_Reset [.lf (.ptr (some ⟨b, 0⟩)), .lf (.int .u64 t), .lf (.int .u64 x)] [] (blk b [.int .u64 v.w, .int .u64 v.t0, .int .u64 v.v0, .int .u64 v.t1, .int .u64 v.v1, .int .u64 v.t2, .int .u64 v.v2, .int .u64 v.la]) (fun _ => blk b [.int .u64 ((v.tick t).all t x).w, .int .u64 ((v.tick t).all t x).t0, .int .u64 ((v.tick t).all t x).v0, .int .u64 ((v.tick t).all t x).t1, .int .u64 ((v.tick t).all t x).v1, .int .u64 ((v.tick t).all t x).t2, .int .u64 ((v.tick t).all t x).v2, .int .u64 ((v.tick t).all t x).la]) :=
  tri_0 (call_winmax_Max_Reset _ t x) fun w0 S R h => by
    unfold W_winmax_Max_Reset
    refine w_ite (fun c => (by cases c)) fun _ => ?_
    refine w_deref (w_ld h rfl (w_deref ?_))
    refine w_setTo h b [.int .u64 (v.tick t).w, .int .u64 (v.tick t).t0, .int .u64 (v.tick t).v0, .int .u64 (v.tick t).t1, .int .u64 (v.tick t).v1, .int .u64 (v.tick t).t2, .int .u64 (v.tick t).v2, .int .u64 (v.tick t).la] rfl rfl rfl fun w h => ?_
    refine w_call (all_tri b (v.tick t) 0 t x (.inl rfl)) h fun r w h => ?_
    exact Own.keep (A := blk b [.int .u64 ((v.tick t).all t x).w, .int .u64 ((v.tick t).all t x).t0, .int .u64 ((v.tick t).all t x).v0, .int .u64 ((v.tick t).all t x).t1, .int .u64 ((v.tick t).all t x).v1, .int .u64 ((v.tick t).all t x).t2, .int .u64 ((v.tick t).all t x).v2, .int .u64 ((v.tick t).all t x).la]) h
end BbrP


end Go.X
