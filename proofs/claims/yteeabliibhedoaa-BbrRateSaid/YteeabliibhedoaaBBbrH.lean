/- Contracts and plain facts: BbrH. -/
import Derived.Test.YteeabliibhedoaaBArith
import Derived.Test.YteeabliibhedoaaBBbrM
import Derived.Test.YteeabliibhedoaaBBbrMm
import Derived.Test.YteeabliibhedoaaBBbrF
import Derived.Test.YteeabliibhedoaaBBbrG
import Derived.Test.YteeabliibhedoaaXw
import Derived.Test.YteeabliibhedoaaK
set_option linter.unusedVariables false
set_option linter.unusedSimpArgs false
set_option linter.unusedSectionVars false
namespace Go.X
namespace BbrH
open Arith BbrM BbrMm BbrF BbrG
structure Bd (m : Md) (t : Int) : Prop where
  win : m.win ≤ t
  sav : m.sav ≤ t
theorem le_if {p : Prop} [Decidable p] {a b t : Int} (ha : a ≤ t) (hb : b ≤ t) : (if p then a else b) ≤ t := by split <;> assumption
theorem b_meas {m : Md} {t : Int} (h : Bd m t) (s : Sm) : Bd (mMeas m s) t := by unfold mMeas; (repeat' split) <;> exact ⟨h.win, h.sav⟩
theorem b_cyc {m : Md} {t : Int} (h : Bd m t) (s : Sm) : Bd (mCyc m s) t := by unfold mCyc; split <;> exact ⟨h.win, h.sav⟩
theorem b_m1 {m : Md} {t : Int} (h : Bd m t) : Bd (mM1 m) t := by unfold mM1; split <;> exact ⟨h.win, h.sav⟩
theorem b_m2 {m : Md} {t : Int} (h : Bd m t) (s : Sm) : Bd (mM2 m s) t := by unfold mM2; split <;> exact ⟨h.win, h.sav⟩
theorem b_probed {m : Md} {t : Int} (h : Bd m t) (h0 : 0 ≤ t) (r : Bool × Bool) (now : Int) : Bd (mProbed m r now) t := by
  unfold mProbed
  split
  · exact ⟨h.win, le_if h.win h.sav⟩
  · split
    · split
      · exact ⟨le_if h.sav h.win, h0⟩
      · exact ⟨le_if h.sav h.win, h0⟩
    · exact h
theorem b_look {m : Md} {t : Int} (h : Bd m t) (h0 : 0 ≤ t) (s : Sm) (o : Bool) : Bd (mLook m s o) t := by
  have : Bd { m with b := (mPr m s o).2 } t := ⟨h.win, h.sav⟩
  exact b_probed this h0 _ _
theorem b_pace {m : Md} {t : Int} (h : Bd m t) : Bd (mPace m) t := by unfold mPace; (repeat' split) <;> exact ⟨h.win, h.sav⟩
theorem b_rec {m : Md} {t : Int} (h : Bd m t) (h0 : 0 ≤ t) (s : Sm) (o : Bool) : Bd (mRecover m s o) t := by
  unfold mRecover mOver
  split
  · exact ⟨h.win, le_if h.win h.sav⟩
  · split
    · split
      · exact ⟨h.win, h.sav⟩
      · split
        · exact ⟨le_if h.sav h.win, h0⟩
        · exact ⟨h.win, h.sav⟩
    · exact h
theorem add_le {a b t : Int} (h : a ≤ t) : addI a b ≤ addI t b := by unfold addI; (repeat' split) <;> omega
theorem le_add {t b : Int} (h : U t) (hb : U b) : t ≤ addI t b := by unfold U addI at *; split <;> omega
theorem sub_le {a b : Int} (h : U a) (hb : U b) : subI a b ≤ a := by unfold U subI at *; split <;> omega
def Ok2 (x t : Int) (s : Sm) : Prop := x ≤ addI t (sAck s) ∨ x ≤ addI (sFli s) (sAck s)
theorem ok2_if {p : Prop} [Decidable p] {a b t : Int} {s : Sm} (ha : Ok2 a t s) (hb : Ok2 b t s) : Ok2 (if p then a else b) t s := by split <;> assumption
theorem win_b {m : Md} {t : Int} (h : Bd m t) (hm : OkM m) (ht : U t) (h4 : 4 * m.mss ≤ t) {s : Sm} (hs : OkS s) (tso : Int) : Ok2 (mWindow m s tso).win t s ∧ (mWindow m s tso).sav ≤ t := by
  have hmss := hm.mss
  have hv : Bd (mW1 m s) t := ⟨le_if (by omega) (Int.le_trans (sub_le hm.win hs.lost) h.win), h.sav⟩
  have hvm : (mW1 m s).mss = m.mss := rfl
  unfold mWindow
  generalize mW1 m s = v at *
  have tl : t ≤ addI t (sAck s) := le_add ht hs.ack
  have vl : Ok2 v.win t s := .inl (Int.le_trans hv.win tl)
  have al : Ok2 (addI v.win (sAck s)) t s := .inl (add_le hv.win)
  have hx : Ok2 (mW2 v s tso).win t s ∧ (mW2 v s tso).sav ≤ t ∧ (mW2 v s tso).mss = v.mss := by
    unfold mW2
    split
    · exact ⟨ok2_if (.inr (Int.le_refl _)) vl, hv.sav, rfl⟩
    · split
      · split
        · refine ⟨?_, hv.sav, rfl⟩
          show Ok2 (if mTar v tso < addI v.win (sAck s) then mTar v tso else addI v.win (sAck s)) t s
          split
          · rename_i hlt
            rcases al with a | a
            · exact .inl (by omega)
            · exact .inr (by omega)
          · exact al
        · split
          · exact ⟨al, hv.sav, rfl⟩
          · exact ⟨vl, hv.sav, rfl⟩
      · exact ⟨vl, hv.sav, rfl⟩
  generalize mW2 v s tso = x at *
  obtain ⟨x1, x2, x3⟩ := hx
  have fl : Ok2 (4 * x.mss) t s := .inl (by rw [x3, hvm]; omega)
  unfold mW4
  split
  · exact ⟨fl, x2⟩
  · exact ⟨ok2_if fl x1, x2⟩
theorem upd_b {m : Md} {t : Int} (h : Bd m t) (hm : OkM m) (ht : U t) (h4 : 4 * m.mss ≤ t) {s : Sm} (hs : OkS s) (tso : Int) : Ok2 (mUpd m s tso).win t s ∧ (mUpd m s tso).sav ≤ t := by
  have b1 : Bd (mU1 m s) t := ⟨h.win, h.sav⟩
  have b2 := b_cyc (b_meas b1 s) s
  have b3 : Bd (mPipe (mCyc (mMeas (mU1 m s) s) s) (rB m.r s) s) t := ⟨b2.win, b2.sav⟩
  have b4 := b_rec (b_pace (b_look (b_m2 (b_m1 b3) s) ht.1 s (rB m.r s))) ht.1 s (rB m.r s)
  have o4 : OkM (mRecover (mPace (mU2 (mU1 m s) (rB m.r s) s)) s (rB m.r s)) := (((((((hm.u1 hs).meas hs).cyc hs).pipe.m1.m2 hs).look hs).pace.recover hs))
  have e : (mRecover (mPace (mU2 (mU1 m s) (rB m.r s) s)) s (rB m.r s)).mss = m.mss := by rw [(k_rec _ s _).mss, pace_mss, (k_u2 _ _ s).mss]
  exact win_b (m := mRecover (mPace (mU2 (mU1 m s) (rB m.r s) s)) s (rB m.r s)) b4 o4 ht (by rw [e]; exact h4) hs tso
theorem pace_up (m : Md) (hf : m.p.full = false) : m.rate ≤ (mPace m).rate := by
  unfold mPace
  split
  · exact Int.le_refl _
  · split
    · rename_i h
      rcases h with h | h
      · rw [hf] at h; cases h
      · show m.rate ≤ mRt m; omega
    · exact Int.le_refl _
theorem upd_up (m : Md) (s : Sm) (tso : Int) (hf : (mUpd m s tso).p.full = false) : m.rate ≤ (mUpd m s tso).rate := by
  have e : mUpd m s tso = mU3 (mU2 (mU1 m s) (rB m.r s) s) (rB m.r s) s tso := rfl
  rw [e] at hf ⊢
  rw [(s_u3 _ _ s tso).p] at hf
  have := pace_up _ hf
  unfold mU3
  rw [(k_window _ s tso).rate, (k_rec _ s _).rate]
  rw [(k_u2 _ _ s).rate] at this
  exact this
end BbrH

end Go.X
