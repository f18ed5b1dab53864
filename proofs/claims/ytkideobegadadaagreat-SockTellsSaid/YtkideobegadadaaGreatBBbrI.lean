/- Contracts and plain facts: BbrG BbrI. -/
import Derived.Test.YtkideobegadadaaGreatBArith
import Derived.Test.YtkideobegadadaaGreatBBbrM
import Derived.Test.YtkideobegadadaaGreatBBbrF
import Derived.Test.YtkideobegadadaaGreatXw
import Derived.Test.YtkideobegadadaaGreatK
set_option linter.unusedVariables false
set_option linter.unusedSimpArgs false
set_option linter.unusedSectionVars false
namespace Go.X
namespace BbrG
open Arith BbrM BbrMm BbrF
/-- What it is between steps. -/
structure Inv (m : Md) : Prop where
  on : m.b.on = true ↔ m.mode = 3
  full : m.mode = 1 ∨ m.mode = 2 → m.p.full = true
structure Same4 (u v : Md) : Prop where
  mode : v.mode = u.mode
  p : v.p = u.p
  b : v.b = u.b
  r : v.r = u.r
theorem Same4.trans {a b c : Md} (h : Same4 a b) (g : Same4 b c) : Same4 a c := ⟨g.mode.trans h.mode, g.p.trans h.p, g.b.trans h.b, g.r.trans h.r⟩
theorem s_meas (m : Md) (s : Sm) : Same4 m (mMeas m s) := by unfold mMeas; repeat' split
                                                             all_goals exact ⟨rfl, rfl, rfl, rfl⟩
theorem s_cyc (m : Md) (s : Sm) : Same4 m (mCyc m s) := by unfold mCyc; split <;> exact ⟨rfl, rfl, rfl, rfl⟩
theorem s_pace (m : Md) : Same4 m (mPace m) := by unfold mPace; repeat' split
                                                  all_goals exact ⟨rfl, rfl, rfl, rfl⟩
theorem s_rec (m : Md) (s : Sm) (o : Bool) : Same4 m (mRecover m s o) := by unfold mRecover mOver; repeat' split
                                                                            all_goals exact ⟨rfl, rfl, rfl, rfl⟩
theorem s_w2 (m : Md) (s : Sm) (t : Int) : Same4 m (mW2 m s t) := by unfold mW2; repeat' split
                                                                     all_goals exact ⟨rfl, rfl, rfl, rfl⟩
theorem s_w4 (m : Md) : Same4 m (mW4 m) := by unfold mW4; split <;> exact ⟨rfl, rfl, rfl, rfl⟩
theorem s_window (m : Md) (s : Sm) (t : Int) : Same4 m (mWindow m s t) := by
  have a : Same4 m (mW1 m s) := ⟨rfl, rfl, rfl, rfl⟩
  have b : Same4 (mW2 (mW1 m s) s t) (mW3 (mW2 (mW1 m s) s t)) := ⟨rfl, rfl, rfl, rfl⟩
  exact (a.trans (s_w2 _ s t)).trans (b.trans (s_w4 _))
theorem s_u3 (m : Md) (o : Bool) (s : Sm) (t : Int) : Same4 m (mU3 m o s t) := ((s_pace m).trans (s_rec _ s o)).trans (s_window _ s t)
theorem p_full (p : Pp) (a b : Bool) (bw : Int) (h : p.full = true) : pU p a b bw = p := by unfold pU; rw [h]; rfl
theorem mm (v : Md) (s : Sm) : (mM2 (mM1 v) s).p = v.p ∧ (mM2 (mM1 v) s).b = v.b ∧ (mM2 (mM1 v) s).r = v.r ∧
    ((mM2 (mM1 v) s).mode = v.mode ∨ (v.mode = 0 ∧ v.p.full = true ∧ ((mM2 (mM1 v) s).mode = 1 ∨ (mM2 (mM1 v) s).mode = 2)) ∨ (v.mode = 1 ∧ (mM2 (mM1 v) s).mode = 2)) := by
  by_cases h1 : v.mode = 0 ∧ v.p.full = true
  · have e : mM1 v = { v with mode := 1 } := by unfold mM1; rw [if_pos h1]
    rw [e]
    unfold mM2
    split
    · exact ⟨rfl, rfl, rfl, .inr (.inl ⟨h1.1, h1.2, .inr rfl⟩)⟩
    · exact ⟨rfl, rfl, rfl, .inr (.inl ⟨h1.1, h1.2, .inl rfl⟩)⟩
  · have e : mM1 v = v := by unfold mM1; rw [if_neg h1]
    rw [e]
    unfold mM2
    split
    · rename_i h2
      exact ⟨rfl, rfl, rfl, .inr (.inr ⟨h2.1, rfl⟩)⟩
    · exact ⟨rfl, rfl, rfl, .inl rfl⟩
theorem new_on (b : Pb) (now rtt : Int) : (bNew b now rtt).on = b.on := by unfold bNew; split <;> rfl
theorem lv_on (b : Pb) (now fl floor : Int) (st : Bool) : (bLv b now st fl floor).2.on = (b.on && !(bLv b now st fl floor).1) := by
  unfold bLv; repeat' split
  all_goals simp
theorem look (w : Md) (s : Sm) (o : Bool) (hi : w.b.on = true ↔ w.mode = 3) : (mLook w s o).p = w.p ∧ (mLook w s o).r = w.r ∧ ((mLook w s o).b.on = true ↔ (mLook w s o).mode = 3) ∧
    ((mLook w s o).mode = w.mode ∨ (mLook w s o).mode = 3 ∨ (w.mode = 3 ∧ ((mLook w s o).mode = 0 ∨ ((mLook w s o).mode = 2 ∧ w.p.full = true)))) := by
  have e : mLook w s o = mProbed { w with b := (bU w.b (sNow s) (sRtt s) o (sFli s) (mFloor w)).2 } (bU w.b (sNow s) (sRtt s) o (sFli s) (mFloor w)).1 (sNow s) := rfl
  rw [e]
  unfold bU
  split
  · refine ⟨rfl, rfl, ?_, .inr (.inl rfl)⟩
    show true = true ↔ (3 : Int) = 3
    simp
  · split
    · rename_i h0 hon
      have h3 := hi.1 hon
      have hl := lv_on (bNew w.b (sNow s) (sRtt s)) (sNow s) (sFli s) (mFloor w) o
      rw [new_on, hon] at hl
      cases hlv : (bLv (bNew w.b (sNow s) (sRtt s)) (sNow s) o (sFli s) (mFloor w)).1 with
      | false =>
        rw [hlv] at hl
        refine ⟨rfl, rfl, ?_, .inl rfl⟩
        show (bLv _ _ _ _ _).2.on = true ↔ w.mode = 3
        rw [hl]
        simp [h3]
      | true =>
        rw [hlv] at hl
        unfold mProbed
        simp only [Bool.false_eq_true, if_false, if_true]
        split
        · rename_i hf
          refine ⟨rfl, rfl, ?_, .inr (.inr ⟨h3, .inr ⟨rfl, hf⟩⟩)⟩
          show (bLv _ _ _ _ _).2.on = true ↔ (2 : Int) = 3
          rw [hl]; simp
        · refine ⟨rfl, rfl, ?_, .inr (.inr ⟨h3, .inl rfl⟩)⟩
          show (bLv _ _ _ _ _).2.on = true ↔ (0 : Int) = 3
          rw [hl]; simp
    · rename_i h0 hon
      refine ⟨rfl, rfl, ?_, .inl rfl⟩
      show (bNew w.b (sNow s) (sRtt s)).on = true ↔ w.mode = 3
      rw [new_on]
      exact hi
/-- How modes follow each other. -/
structure Tr (a b : Md) : Prop where
  t0 : a.mode ≠ 0 → a.mode ≠ 3 → b.mode ≠ 0
  t2 : a.mode = 2 → b.mode ≠ 1
  t3 : a.mode = 3 → b.mode ≠ 1
  tf : a.p.full = true → b.p.full = true
  inv : Inv b
  n : b.r.n = a.r.n ∨ b.r.n = IntKind.u64.wrap (a.r.n + 1)
theorem tr (m : Md) (s : Sm) (t : Int) (hi : Inv m) : Tr m (mUpd m s t) := by
  have e : mUpd m s t = mU3 (mU2 (mU1 m s) (rB m.r s) s) (rB m.r s) s t := rfl
  have h3 := s_u3 (mU2 (mU1 m s) (rB m.r s) s) (rB m.r s) s t
  rw [← e] at h3
  generalize mUpd m s t = z at *
  have e2 : mU2 (mU1 m s) (rB m.r s) s = mLook (mM2 (mM1 (mPipe (mCyc (mMeas (mU1 m s) s) s) (rB m.r s) s)) s) s (rB m.r s) := rfl
  rw [e2] at h3
  have h1 := (s_meas (mU1 m s) s).trans (s_cyc _ s)
  generalize mCyc (mMeas (mU1 m s) s) s = x at *
  have x1 : x.mode = m.mode := h1.mode
  have x2 : x.p = m.p := h1.p
  have x3 : x.b = m.b := h1.b
  have x4 : x.r = rU m.r s := h1.r
  have hv := mm (mPipe x (rB m.r s) s) s
  have v1 : (mPipe x (rB m.r s) s).mode = m.mode := x1
  have v2 : (mPipe x (rB m.r s) s).b = m.b := x3
  have v3 : (mPipe x (rB m.r s) s).r = rU m.r s := x4
  have v4 : m.p.full = true → (mPipe x (rB m.r s) s).p.full = true := fun hf => by
    show (pU x.p _ _ _).full = true
    rw [x2, p_full _ _ _ _ hf]; exact hf
  generalize mPipe x (rB m.r s) s = v at *
  obtain ⟨w1, w2, w3, w4⟩ := hv
  generalize mM2 (mM1 v) s = w at *
  rw [v1] at w4
  have hon : w.b.on = true ↔ w.mode = 3 := by
    rw [w2, v2, hi.on]
    constructor
    · intro h; omega
    · intro h; omega
  obtain ⟨l1, l2, l3, l4⟩ := look w s (rB m.r s) hon
  generalize mLook w s (rB m.r s) = y at *
  have z1 := h3.mode
  have z2 : z.p = v.p := by rw [h3.p, l1, w1]
  have hf : m.p.full = true → z.p.full = true := fun h => by rw [z2]; exact v4 h
  refine ⟨?_, ?_, ?_, hf, ⟨?_, ?_⟩, ?_⟩
  · intro a b; omega
  · intro a; omega
  · intro a; omega
  · rw [h3.b, z1]; exact l3
  · intro hz
    rw [z2]
    have hfull := hi.full
    have : m.p.full = true ∨ v.p.full = true := by
      rcases l4 with l | l | ⟨l, l' | ⟨l', hw⟩⟩
      · rcases w4 with q | ⟨_, q, _⟩ | ⟨q, _⟩
        · exact .inl (hfull (by omega))
        · exact .inr q
        · exact .inl (hfull (by omega))
      · omega
      · omega
      · exact .inr (by rw [← w1]; exact hw)
    rcases this with h | h
    · exact v4 h
    · exact h
  · rw [h3.r, l2, w3, v3]
    unfold rU
    split
    · exact .inr rfl
    · exact .inl rfl
theorem Inv.new (n : Int) : Inv (mNew n) := ⟨by simp, fun h => by simp at h⟩
end BbrG

namespace BbrI
open Arith BbrM BbrMm BbrF BbrG
structure K5 (u v : Md) : Prop where
  win : v.win = u.win
  sav : v.sav = u.sav
  rec' : v.rec' = u.rec'
  first : v.first = u.first
  til : v.til = u.til
theorem K5.trans {a b c : Md} (h : K5 a b) (g : K5 b c) : K5 a c := ⟨g.win.trans h.win, g.sav.trans h.sav, g.rec'.trans h.rec', g.first.trans h.first, g.til.trans h.til⟩
theorem f_meas (m : Md) (s : Sm) : K5 m (mMeas m s) := by unfold mMeas; (repeat' split) <;> exact ⟨rfl, rfl, rfl, rfl, rfl⟩
theorem f_cyc (m : Md) (s : Sm) : K5 m (mCyc m s) := by unfold mCyc; split <;> exact ⟨rfl, rfl, rfl, rfl, rfl⟩
theorem f_m1 (m : Md) : K5 m (mM1 m) := by unfold mM1; split <;> exact ⟨rfl, rfl, rfl, rfl, rfl⟩
theorem f_m2 (m : Md) (s : Sm) : K5 m (mM2 m s) := by unfold mM2; split <;> exact ⟨rfl, rfl, rfl, rfl, rfl⟩
theorem f_pace (m : Md) : K5 m (mPace m) := by unfold mPace; (repeat' split) <;> exact ⟨rfl, rfl, rfl, rfl, rfl⟩
theorem f_look (m : Md) (s : Sm) (o : Bool) (h1 : m.b.on = false) (h2 : bOld m.b (sNow s) = false) : K5 m (mLook m s o) ∧ (mLook m s o).b.on = false := by
  have e : mLook m s o = mProbed { m with b := (bU m.b (sNow s) (sRtt s) o (sFli s) (mFloor m)).2 } (bU m.b (sNow s) (sRtt s) o (sFli s) (mFloor m)).1 (sNow s) := rfl
  rw [e]
  unfold bU
  rw [h2, if_neg (by simp), if_neg (by rw [h1]; simp)]
  refine ⟨⟨rfl, rfl, rfl, rfl, rfl⟩, ?_⟩
  show (bNew _ _ _).on = false
  rw [new_on]; exact h1
theorem old_no {b : Pb} (h : OkB b) {now : Int} (hn : now ≤ 10000000000) : bOld b now = false := by
  have h1 := h.at'
  unfold U at h1
  unfold bOld
  have : ¬ now > addI b.at' 10000000000 := by unfold addI; split <;> omega
  simp [this]
/-- Till recovery nothing of it turns, while no probe comes. -/
theorem f_u2 {m : Md} (hm : OkM m) {s : Sm} (hs : OkS s) (hold : bOld m.b (sNow s) = false) (hon : m.b.on = false) (o : Bool) :
    K5 m (mPace (mU2 (mU1 m s) o s)) ∧ (mPace (mU2 (mU1 m s) o s)).b.on = false := by
  have a : K5 m (mU1 m s) := ⟨rfl, rfl, rfl, rfl, rfl⟩
  have b := f_meas (mU1 m s) s
  have c := f_cyc (mMeas (mU1 m s) s) s
  have d : K5 (mCyc (mMeas (mU1 m s) s) s) (mPipe (mCyc (mMeas (mU1 m s) s) s) o s) := ⟨rfl, rfl, rfl, rfl, rfl⟩
  have e := f_m1 (mPipe (mCyc (mMeas (mU1 m s) s) s) o s)
  have f := f_m2 (mM1 (mPipe (mCyc (mMeas (mU1 m s) s) s) o s)) s
  have ok : OkM (mM2 (mM1 (mPipe (mCyc (mMeas (mU1 m s) s) s) o s)) s) := ((hm.u1 hs).meas hs |>.cyc hs).pipe.m1.m2 hs
  have hb : (mM2 (mM1 (mPipe (mCyc (mMeas (mU1 m s) s) s) o s)) s).b = m.b := by
    rw [(mm _ s).2.1]
    have := ((s_meas (mU1 m s) s).trans (s_cyc _ s)).b
    exact this
  have g := f_look (mM2 (mM1 (mPipe (mCyc (mMeas (mU1 m s) s) s) o s)) s) s o (by rw [hb]; exact hon) (by rw [hb]; exact hold)
  have p := f_pace (mU2 (mU1 m s) o s)
  refine ⟨(((((a.trans b).trans c).trans d).trans e).trans f).trans (g.1.trans p), ?_⟩
  rw [(s_pace _).b]
  exact g.2
/-- What it is while nothing is lost. -/
structure Quiet (m : Md) : Prop where
  ok : OkM m
  inv : BbrG.Inv m
  mss : m.mss = 1000
  on : m.b.on = false
  rec' : m.rec' = false
theorem Quiet.new : Quiet (mNew 1000) := ⟨OkM.new _, BbrG.Inv.new _, rfl, rfl, rfl⟩
theorem upd_b' (m : Md) (s : Sm) (t : Int) : (mUpd m s t).b = (mPace (mU2 (mU1 m s) (rB m.r s) s)).b := by
  have e : mUpd m s t = mU3 (mU2 (mU1 m s) (rB m.r s) s) (rB m.r s) s t := rfl
  rw [e, (s_u3 _ _ s t).b, (s_pace _).b]
theorem w2_rec (m : Md) (s : Sm) (t : Int) : (mW2 m s t).rec' = m.rec' := by unfold mW2; (repeat' split) <;> rfl
theorem w4_rec (m : Md) : (mW4 m).rec' = m.rec' := by unfold mW4; split <;> rfl
theorem window_rec (m : Md) (s : Sm) (t : Int) : (mWindow m s t).rec' = m.rec' := by
  unfold mWindow; rw [w4_rec]; show (mW2 (mW1 m s) s t).rec' = _; rw [w2_rec]
theorem Quiet.go {m : Md} (h : Quiet m) {s : Sm} (hs : OkS s) (hold : bOld m.b (sNow s) = false) (hl : sLost s = 0) {t : Int} (ht : U t) : Quiet (mUpd m s t) := by
  obtain ⟨k, hon⟩ := f_u2 h.ok hs hold h.on (rB m.r s)
  refine ⟨h.ok.upd hs ht, (tr m s t h.inv).inv, by rw [upd_mss]; exact h.mss, by rw [upd_b']; exact hon, ?_⟩
  show (mWindow (mRecover (mPace (mU2 (mU1 m s) (rB m.r s) s)) s (rB m.r s)) s t).rec' = false
  rw [window_rec]
  have k1 := k.rec'
  generalize mPace (mU2 (mU1 m s) (rB m.r s) s) = x at *
  unfold mRecover
  rw [if_neg (by omega), if_neg (by rw [k1, h.rec']; simp), k1, h.rec']
theorem Quiet.upd {m : Md} (h : Quiet m) {s : Sm} (hs : OkS s) (hn : sNow s ≤ 10000000000) (hl : sLost s = 0) {t : Int} (ht : U t) : Quiet (mUpd m s t) := h.go hs (old_no h.ok.b hn) hl ht
end BbrI


end Go.X
