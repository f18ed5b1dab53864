/- Contracts and plain facts: BbrF BbrG. -/
import Derived.Test.YtkideobegadadaaGreatBArith
import Derived.Test.YtkideobegadadaaGreatBBbrMm
import Derived.Test.YtkideobegadadaaGreatXw
import Derived.Test.YtkideobegadadaaGreatK
set_option linter.unusedVariables false
set_option linter.unusedSimpArgs false
set_option linter.unusedSectionVars false
namespace Go.X
namespace BbrF
open Arith BbrM BbrMm
/-- What does not turn. -/
structure Keeps (a b : Md) : Prop where
  mss : b.mss = a.mss
  rate : b.rate = a.rate
theorem Keeps.trans {a b c : Md} (h : Keeps a b) (g : Keeps b c) : Keeps a c := ⟨g.mss.trans h.mss, g.rate.trans h.rate⟩
theorem k_meas (m : Md) (s : Sm) : Keeps m (mMeas m s) := by unfold mMeas; repeat' split
                                                             all_goals exact ⟨rfl, rfl⟩
theorem k_cyc (m : Md) (s : Sm) : Keeps m (mCyc m s) := by unfold mCyc; split <;> exact ⟨rfl, rfl⟩
theorem k_m1 (m : Md) : Keeps m (mM1 m) := by unfold mM1; split <;> exact ⟨rfl, rfl⟩
theorem k_m2 (m : Md) (s : Sm) : Keeps m (mM2 m s) := by unfold mM2; split <;> exact ⟨rfl, rfl⟩
theorem k_probed (m : Md) (r : Bool × Bool) (now : Int) : Keeps m (mProbed m r now) := by unfold mProbed; repeat' split
                                                                                          all_goals exact ⟨rfl, rfl⟩
theorem k_look (m : Md) (s : Sm) (o : Bool) : Keeps m (mLook m s o) := (⟨rfl, rfl⟩ : Keeps m { m with b := (mPr m s o).2 }).trans (k_probed _ _ _)
theorem k_rec (m : Md) (s : Sm) (o : Bool) : Keeps m (mRecover m s o) := by unfold mRecover mOver; repeat' split
                                                                            all_goals exact ⟨rfl, rfl⟩
theorem k_u2 (m : Md) (o : Bool) (s : Sm) : Keeps m (mU2 m o s) := by
  have a : Keeps (mCyc (mMeas m s) s) (mPipe (mCyc (mMeas m s) s) o s) := ⟨rfl, rfl⟩
  exact ((k_meas m s).trans (k_cyc _ s)).trans (a.trans (((k_m1 _).trans (k_m2 _ s)).trans (k_look _ s o)))
theorem pace_mss (m : Md) : (mPace m).mss = m.mss := by unfold mPace; repeat' split
                                                        all_goals rfl
end BbrF

namespace BbrG
open Arith BbrM BbrMm BbrF
/-- What it is between steps. -/
structure Inv (m : Md) : Prop where
  on : m.b.on = true ↔ m.mode = 3
  full : m.mode = 1 ∨ m.mode = 2 → m.p.full = true
structure Same4 (u v : Md) : Prop where
  mode : v.mode = u.mode
  p : v.p = u.p
  b : v.b = u.b
  r : v.r = u.r
theorem Same4.trans {a b c : Md} (h : Same4 a b) (g : Same4 b c) : Same4 a c := ⟨g.mode.trans h.mode, g.p.trans h.p, g.b.trans h.b, g.r.trans h.r⟩
theorem mm (v : Md) (s : Sm) : (mM2 (mM1 v) s).p = v.p ∧ (mM2 (mM1 v) s).b = v.b ∧ (mM2 (mM1 v) s).r = v.r ∧
    ((mM2 (mM1 v) s).mode = v.mode ∨ (v.mode = 0 ∧ v.p.full = true ∧ ((mM2 (mM1 v) s).mode = 1 ∨ (mM2 (mM1 v) s).mode = 2)) ∨ (v.mode = 1 ∧ (mM2 (mM1 v) s).mode = 2)) := by
  by_cases h1 : v.mode = 0 ∧ v.p.full = true
  · have e : mM1 v = { v with mode := 1 } := by unfold mM1; rw [if_pos h1]
    rw [e]
    unfold mM2
    split
    · exact ⟨rfl, rfl, rfl, .inr (.inl ⟨h1.1, h1.2, .inr rfl⟩)⟩
    · exact ⟨rfl, rfl, rfl, .inr (.inl ⟨h1.1, h1.2, .inl rfl⟩)⟩
  · have e : mM1 v = v := by unfold mM1; rw [if_neg h1]
    rw [e]
    unfold mM2
    split
    · rename_i h2
      exact ⟨rfl, rfl, rfl, .inr (.inr ⟨h2.1, rfl⟩)⟩
    · exact ⟨rfl, rfl, rfl, .inl rfl⟩
theorem new_on (b : Pb) (now rtt : Int) : (bNew b now rtt).on = b.on := by unfold bNew; split <;> rfl
theorem lv_on (b : Pb) (now fl floor : Int) (st : Bool) : (bLv b now st fl floor).2.on = (b.on && !(bLv b now st fl floor).1) := by
  unfold bLv; repeat' split
  all_goals simp
theorem look (w : Md) (s : Sm) (o : Bool) (hi : w.b.on = true ↔ w.mode = 3) : (mLook w s o).p = w.p ∧ (mLook w s o).r = w.r ∧ ((mLook w s o).b.on = true ↔ (mLook w s o).mode = 3) ∧
    ((mLook w s o).mode = w.mode ∨ (mLook w s o).mode = 3 ∨ (w.mode = 3 ∧ ((mLook w s o).mode = 0 ∨ ((mLook w s o).mode = 2 ∧ w.p.full = true)))) := by
  have e : mLook w s o = mProbed { w with b := (bU w.b (sNow s) (sRtt s) o (sFli s) (mFloor w)).2 } (bU w.b (sNow s) (sRtt s) o (sFli s) (mFloor w)).1 (sNow s) := rfl
  rw [e]
  unfold bU
  split
  · refine ⟨rfl, rfl, ?_, .inr (.inl rfl)⟩
    show true = true ↔ (3 : Int) = 3
    simp
  · split
    · rename_i h0 hon
      have h3 := hi.1 hon
      have hl := lv_on (bNew w.b (sNow s) (sRtt s)) (sNow s) (sFli s) (mFloor w) o
      rw [new_on, hon] at hl
      cases hlv : (bLv (bNew w.b (sNow s) (sRtt s)) (sNow s) o (sFli s) (mFloor w)).1 with
      | false =>
        rw [hlv] at hl
        refine ⟨rfl, rfl, ?_, .inl rfl⟩
        show (bLv _ _ _ _ _).2.on = true ↔ w.mode = 3
        rw [hl]
        simp [h3]
      | true =>
        rw [hlv] at hl
        unfold mProbed
        simp only [Bool.false_eq_true, if_false, if_true]
        split
        · rename_i hf
          refine ⟨rfl, rfl, ?_, .inr (.inr ⟨h3, .inr ⟨rfl, hf⟩⟩)⟩
          show (bLv _ _ _ _ _).2.on = true ↔ (2 : Int) = 3
          rw [hl]; simp
        · refine ⟨rfl, rfl, ?_, .inr (.inr ⟨h3, .inl rfl⟩)⟩
          show (bLv _ _ _ _ _).2.on = true ↔ (0 : Int) = 3
          rw [hl]; simp
    · rename_i h0 hon
      refine ⟨rfl, rfl, ?_, .inl rfl⟩
      show (bNew w.b (sNow s) (sRtt s)).on = true ↔ w.mode = 3
      rw [new_on]
      exact hi
theorem Inv.new (n : Int) : Inv (mNew n) := ⟨by simp, fun h => by simp at h⟩
end BbrG


end Go.X
