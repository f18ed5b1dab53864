/- Contracts and plain facts: FqJ. -/
import Derived.Test.YtjahkildlilabaaBPlain
import Derived.Test.YtjahkildlilabaaBArith
import Derived.Test.YtjahkildlilabaaBArithC
import Derived.Test.YtjahkildlilabaaBLists
import Derived.Test.YtjahkildlilabaaBTreeM
import Derived.Test.YtjahkildlilabaaBTreeN
import Derived.Test.YtjahkildlilabaaBTreeA
import Derived.Test.YtjahkildlilabaaBTreeB
import Derived.Test.YtjahkildlilabaaBTreeC
import Derived.Test.YtjahkildlilabaaBTreeD
import Derived.Test.YtjahkildlilabaaBTreeE
import Derived.Test.YtjahkildlilabaaBTreeF
import Derived.Test.YtjahkildlilabaaBFqM
import Derived.Test.YtjahkildlilabaaBFqC
import Derived.Test.YtjahkildlilabaaBFqD
import Derived.Test.YtjahkildlilabaaBFqE
import Derived.Test.YtjahkildlilabaaBFqG
import Derived.Test.YtjahkildlilabaaBFqH
import Derived.Test.YtjahkildlilabaaBFqI
import Derived.Test.YtjahkildlilabaaXw
import Derived.Test.YtjahkildlilabaaK
import Derived.Test.YtjahkildlilabaaF0
import Derived.Test.YtjahkildlilabaaF1
set_option linter.unusedVariables false
set_option linter.unusedSimpArgs false
set_option linter.unusedSectionVars false
namespace Go.X
open Go.Proofs
namespace FqJ
open Arith ArithC Lists _root_.Go.X.Tree TreeC TreeD TreeE TreeF FqM FqC FqD FqE FqG FqH FqI
theorem no_idle {v : Qm} (hv : OkQ v) (i : Nat) {long now : Int} (h : now < long) (hl : long ≤ 18446744073709551615) : idle v i long now = false := by
  unfold idle
  split
  · rfl
  · rename_i f hf
    have hs := (hv.fl i f hf).2.si
    unfold U at hs
    rw [Bool.and_eq_false_iff]
    right
    rw [decide_eq_false_iff_not]
    unfold addI
    split <;> omega
theorem coll_same {v : Qm} (hv : OkQ v) {now : Int} (h : now < 3000000000) : collectF v now = v := by
  have e : (collectF v now).fl = v.fl := funext fun i => by
    show (if _ then _ else _) = _
    rw [no_idle hv i h (by decide)]; rfl
  show (⟨v.c, (collectF v now).fl, v.lv, v.ks, v.n⟩ : Qm) = v
  rw [e]
def fate4 (v : Qm) (s : Sg) (now : Int) : Int := if v.n ≥ cL v.c then 2 else if cnt (v.fl (sK s).toNat) ≥ cW v.c then 3 else if sSt s > addI now (cH v.c) ∧ cD v.c = true then 4 else 0
theorem fate_eq {v : Qm} (hv : OkQ v) (s : Sg) (now : Int) : fateF v s now = fate4 v s now := by
  have hw := hv.cf.w
  have e : (∃ f, v.fl (sK s).toNat = some f ∧ (f.sg.length : Int) ≥ cW v.c) ↔ cnt (v.fl (sK s).toNat) ≥ cW v.c := by
    cases hf : v.fl (sK s).toNat with
    | none => exact ⟨fun ⟨_, e, _⟩ => (by cases e), fun h => (by have h : (0 : Int) ≥ cW v.c := h; omega)⟩
    | some f => exact ⟨fun ⟨g, e, h⟩ => (by cases e; exact h), fun h => ⟨f, rfl, h⟩⟩
  unfold fateF fate4
  simp only [e]
theorem add_obs {v : Qm} (i : Nat) (s : Sg) (now : Int) (hi : plc v i = plc v i) : (addS (wakeF v i now) i s).c = v.c ∧ (addS (wakeF v i now) i s).n = v.n + 1 ∧ ∀ j, cnt ((addS (wakeF v i now) i s).fl j) = cnt (v.fl j) + if j = i then 1 else 0 := by
  rw [FqM.add_eq]
  refine ⟨rfl, rfl, fun j => ?_⟩
  show cnt (upF v.fl i _ j) = _
  by_cases e : j = i
  · subst e
    rw [upF_same, if_pos rfl]
    show (((woken v j now).sg ++ [s]).length : Int) = _
    rw [woken_sg]
    cases v.fl j with
    | none => rfl
    | some f => simp [cnt]
  · rw [upF_ne _ _ e, if_neg e]; omega
theorem enq_obs {v : Qm} (hv : OkQ v) {s : Sg} {now : Int} (hk : 0 ≤ sK s ∧ sK s ≤ 7) (hl : 1 ≤ sLn s ∧ sLn s ≤ 65536) (hn : now < 3000000000) :
    (enqF v s now).1 = (fate4 v s now, 0) ∧ (enqF v s now).2.c = v.c ∧ (enqF v s now).2.n = v.n + (if fate4 v s now = 0 then 1 else 0) ∧ ∀ j, cnt ((enqF v s now).2.fl j) = cnt (v.fl j) + if fate4 v s now = 0 ∧ j = (sK s).toNat then 1 else 0 := by
  unfold enqF
  rw [if_neg (fun h => h hk), if_neg (fun h => h hl), coll_same hv hn, fate_eq hv]
  split
  · rename_i h0
    obtain ⟨a1, a2, a3⟩ := add_obs (v := v) (sK s).toNat (drawn v s now) now rfl
    refine ⟨by rw [h0], a1, a2, fun j => ?_⟩
    rw [a3 j]
    simp [h0]
  · rename_i h0
    refine ⟨rfl, rfl, by simp, fun j => by simp [h0]⟩
/-- So many segments of socket 1, at 0. -/
def fillN (c : Cf) : Nat → Qm
  | 0 => newF c
  | k + 1 => (enqF (fillN c k) (1, 0, 10, 0, false) 0).2
theorem fill_ok {c : Cf} (h : OkC c) : ∀ k, OkQ (fillN c k)
  | 0 => OkQ.new h
  | k + 1 => (fill_ok h k).enq ⟨u0, u0⟩ u0
theorem fill_obs {c : Cf} (h : OkC c) : ∀ k : Nat, (fillN c k).c = c ∧ (fillN c k).n = min (k : Int) (min (cL c) (cW c)) ∧ cnt ((fillN c k).fl 1) = (fillN c k).n
  | 0 => by
    have h1 := h.l
    have h2 := h.w
    refine ⟨rfl, ?_, rfl⟩
    show (0 : Int) = _
    omega
  | k + 1 => by
    obtain ⟨a1, a2, a3⟩ := fill_obs h k
    have h1 := h.l
    have h2 := h.w
    obtain ⟨_, b1, b2, b3⟩ := enq_obs (fill_ok h k) (s := (1, 0, 10, 0, false)) (now := 0) ⟨by decide, by decide⟩ ⟨by decide, by decide⟩ (by decide)
    have b3 := b3 1
    have e : fate4 (fillN c k) (1, 0, 10, 0, false) 0 = if (fillN c k).n ≥ cL c then 2 else if (fillN c k).n ≥ cW c then 3 else 0 := by
      unfold fate4
      have : cnt ((fillN c k).fl (sK (1, 0, 10, 0, false)).toNat) = (fillN c k).n := a3
      rw [this, a1]
      have h3 : ¬ (sSt (1, 0, 10, 0, false) > addI 0 (cH c) ∧ cD c = true) := fun x => by
        have := h.h
        have x1 := x.1
        unfold addI at x1
        split at x1 <;> (simp only [sSt] at x1; omega)
      rw [if_neg h3]
    show (enqF (fillN c k) (1, 0, 10, 0, false) 0).2.c = c ∧ (enqF (fillN c k) (1, 0, 10, 0, false) 0).2.n = min ((k + 1 : Nat) : Int) _ ∧ cnt ((enqF (fillN c k) (1, 0, 10, 0, false) 0).2.fl 1) = (enqF (fillN c k) (1, 0, 10, 0, false) 0).2.n
    have e2 : (fate4 (fillN c k) (1, 0, 10, 0, false) 0 = 0 ∧ 1 = (sK (1, 0, 10, 0, false)).toNat) ↔ fate4 (fillN c k) (1, 0, 10, 0, false) 0 = 0 := ⟨fun h => h.1, fun h => ⟨h, rfl⟩⟩
    simp only [e2] at b3
    rw [b3, b2, a3, b1]
    refine ⟨a1, ?_, rfl⟩
    rw [e]
    by_cases c1 : (fillN c k).n ≥ cL c
    · rw [if_pos c1, if_neg (by decide)]; omega
    · rw [if_neg c1]
      by_cases c2 : (fillN c k).n ≥ cW c
      · rw [if_pos c2, if_neg (by decide)]; omega
      · rw [if_neg c2, if_pos rfl]; omega
theorem sets_tri (d : Int) (o a : Cf) (ho : 0 ≤ cH o ∧ U (cR o)) (ha : 0 ≤ cH a ∧ U (cR a)) : Tri Try.prog N_canterlaw20_FqSets [.lf (.int .i64 d), .agg (Ks.mk KC o), .agg (Ks.mk KC a)] [.lf .bool] emp (fun r => pur (r = true) emp) :=
  tri_0 (call_canterlaw20_FqSets d o a) fun w0 S R h => by
    unfold W_canterlaw20_FqSets
    have hm := modr d (m := 20) (by decide) (by decide)
    obtain ⟨m, hme⟩ : ∃ m, m = IntKind.i64.wrap ((IntKind.u64.wrap d).tmod 20) := ⟨_, rfl⟩
    rw [← hme] at hm ⊢
    obtain ⟨o', ho'⟩ : ∃ o', o' = configF o := ⟨_, rfl⟩
    obtain ⟨a', ha'⟩ : ∃ a', a' = configF a := ⟨_, rfl⟩
    have ko : OkC o' := by rw [ho']; exact config_ok ho.1 ho.2
    have ka : OkC a' := by rw [ha']; exact config_ok ha.1 ha.2
    have mo : may o' = true := by rw [ho']; exact config_may o
    have ma : may a' = true := by rw [ha']; exact config_may a
    refine w_new h fun n1 w h => w_new h fun n2 w h => w_drw h fun w h => w_ldAll (b := n1) (x := o) h rfl (w_ldAll (b := n2) (x := a) h rfl ?_)
    refine w_call (config_tri o) h fun r w h => ?_
    obtain ⟨hr, h⟩ := h.purP; rw [hr, ← ho']
    refine w_chk h rfl (w_call (config_tri a) h fun r w h => ?_)
    obtain ⟨hr, h⟩ := h.purP; rw [hr, ← ha']
    refine w_setAll h (by rfl) fun w h => w_setAll h (by rfl) fun w h => w_ldAll (b := n1) (x := o') h rfl ?_
    refine w_call (new_tri o') h fun r w h => ?_
    obtain ⟨b, h⟩ := h.exP
    obtain ⟨hr, h⟩ := h.purP
    rw [if_pos mo] at hr h
    rw [hr]
    refine w_call awake_tri h fun r w h => ?_
    obtain ⟨hr, h⟩ := h.purP; rw [hr]
    refine w_ite (fun c => (by simp at c)) fun _ => ?_
    rw [show newF o' = fillN o' (0 : Int).toNat from rfl] at h
    have h : Own w0 S R w (blk n1 (Ks.mk KC o') ^ blk n2 (Ks.mk KC a') ^ que b (fillN o' (0 : Int).toNat)) := h.fin
    refine w_loop (fun y : Int => blk n1 (Ks.mk KC o') ^ blk n2 (Ks.mk KC a') ^ que b (fillN o' y.toNat)) (fun y : Int => 0 ≤ y ∧ y ≤ m) (fun y : Int => (m - y).toNat) h ⟨by decide, hm.1⟩ ?_
    rintro (y : Int) w hy h
    have hw : IntKind.i64.wrap (y + 1) = y + 1 := wi (by omega) (by omega)
    have hok := fill_ok ko y.toNat
    refine w_ite (fun c => ?_) fun c => ?_
    · have c : y < m := by simpa using c
      refine w_call (enq_tri b (fillN o' y.toNat) hok (1, 0, 10, 0, false) 0 ⟨u0, u0⟩ u0) h fun r w h => ?_
      obtain ⟨hr, h⟩ := h.purP
      have e : (y + 1).toNat = y.toNat + 1 := by omega
      rw [show (enqF (fillN o' y.toNat) (1, 0, 10, 0, false) 0).2 = fillN o' (y.toNat + 1) from rfl] at h
      rw [hw, e]
      exact ⟨⟨by omega, h.fin⟩, by omega⟩
    have c : ¬ y < m := by simpa using c
    have e : y = m := by omega
    subst e
    obtain ⟨f1, f2, f3⟩ := fill_obs ko y.toNat
    have hl2 := ka.l
    have hw2 := ka.w
    refine w_call (len_tri b (fillN o' y.toNat)) h fun r w h => ?_
    obtain ⟨hr, h⟩ := h.purP; rw [hr]
    refine w_ldAll (b := n2) (x := a') h rfl (w_call (set_tri b (fillN o' y.toNat) a') h fun r w h => ?_)
    obtain ⟨hr, h⟩ := h.purP; rw [hr]
    have es : setF (fillN o' y.toNat) a' = (0, { fillN o' y.toNat with c := a' }) := by unfold setF; rw [if_pos ma]
    rw [es] at h
    rw [es]
    have h : Own w0 S R w (que b { fillN o' y.toNat with c := a' } ^ blk n1 (Ks.mk KC o') ^ blk n2 (Ks.mk KC a')) := h.fin
    have hok2 : OkQ { fillN o' y.toNat with c := a' } := by
      have := hok.set (c := a') ⟨ka.h.1, ka.r⟩
      rw [es] at this; exact this
    refine w_call (set_tri b { fillN o' y.toNat with c := a' } zeroC) h fun r w h => ?_
    obtain ⟨hr, h⟩ := h.purP; rw [hr]
    have ez : setF { fillN o' y.toNat with c := a' } zeroC = (13, { fillN o' y.toNat with c := a' }) := by unfold setF; rw [if_neg (by rw [zero_may]; simp)]
    rw [ez] at h
    rw [ez]
    refine w_call (enq_tri b { fillN o' y.toNat with c := a' } hok2 (1, 0, 10, 0, false) 0 ⟨u0, u0⟩ u0) h fun r w h => ?_
    obtain ⟨hr, h⟩ := h.purP; rw [hr]
    obtain ⟨g1, _⟩ := enq_obs hok2 (s := (1, 0, 10, 0, false)) (now := 0) ⟨by decide, by decide⟩ ⟨by decide, by decide⟩ (by decide)
    have eg : fate4 { fillN o' y.toNat with c := a' } (1, 0, 10, 0, false) 0 = if (fillN o' y.toNat).n ≥ cL a' then 2 else if (fillN o' y.toNat).n ≥ cW a' then 3 else 0 := by
      unfold fate4
      have : cnt ((fillN o' y.toNat).fl (sK (1, 0, 10, 0, false)).toNat) = (fillN o' y.toNat).n := f3
      rw [this]
      have h3 : ¬ (sSt (1, 0, 10, 0, false) > addI 0 (cH a') ∧ cD a' = true) := fun x => by
        have := ka.h
        have x1 := x.1
        unfold addI at x1
        split at x1 <;> (simp only [sSt] at x1; omega)
      rw [if_neg h3]
    rw [g1, eg]
    have h : Own w0 S R w (blk n1 (Ks.mk KC o') ^ blk n2 (Ks.mk KC a')) := h.fin
    refine w_join h (fun _ => blk n1 (Ks.mk KC o') ^ blk n2 (Ks.mk KC a')) (fun z : Int => z = if (fillN o' y.toNat).n ≥ cL a' then 2 else if (fillN o' y.toNat).n ≥ cW a' then 3 else 0) (fun (z : Int) w hz h => ?_) ?_
    · refine w_ite (fun _ => ?_) fun c => (by cases c)
      refine w_ld h rfl (w_ld h rfl ?_)
      refine Own.retP ?_ h.emp'
      rw [hz, f2]
      simp only [beq_self_eq_true, Bool.and_true, beq_iff_eq]
      have e1 : ((y.toNat : Nat) : Int) = y := by omega
      rw [e1]
      have e2 : o'.2.2.1 = cL o' := rfl
      have e3 : o'.2.2.2.1 = cW o' := rfl
      rw [e2, e3]
      (repeat' split) <;> omega
    · refine w_ld h rfl (w_ite (fun c => ?_) fun c => ?_)
      · have c : (fillN o' y.toNat).n ≥ cL a' := by simpa using c
        exact ⟨(if_pos c).symm, h⟩
      have c1 : ¬ (fillN o' y.toNat).n ≥ cL a' := by simpa using c
      refine w_ld h rfl (w_ite (fun c => ?_) fun c => ?_)
      · have c : (fillN o' y.toNat).n ≥ cW a' := by simpa using c
        exact ⟨by rw [if_neg c1, if_pos c], h⟩
      · have c : ¬ (fillN o' y.toNat).n ≥ cW a' := by simpa using c
        exact ⟨by rw [if_neg c1, if_neg c], h⟩
end FqJ

end Go.X
