/- Contracts and plain facts: FqO. -/
import Derived.Test.YtjahkildlilabaaBPlain
import Derived.Test.YtjahkildlilabaaBArith
import Derived.Test.YtjahkildlilabaaBArithC
import Derived.Test.YtjahkildlilabaaBLists
import Derived.Test.YtjahkildlilabaaBTreeM
import Derived.Test.YtjahkildlilabaaBTreeN
import Derived.Test.YtjahkildlilabaaBTreeA
import Derived.Test.YtjahkildlilabaaBTreeB
import Derived.Test.YtjahkildlilabaaBTreeC
import Derived.Test.YtjahkildlilabaaBTreeD
import Derived.Test.YtjahkildlilabaaBTreeE
import Derived.Test.YtjahkildlilabaaBTreeF
import Derived.Test.YtjahkildlilabaaBFqM
import Derived.Test.YtjahkildlilabaaBFqC
import Derived.Test.YtjahkildlilabaaBFqD
import Derived.Test.YtjahkildlilabaaBFqE
import Derived.Test.YtjahkildlilabaaBFqG
import Derived.Test.YtjahkildlilabaaBFqH
import Derived.Test.YtjahkildlilabaaBFqI
import Derived.Test.YtjahkildlilabaaBFqJ
import Derived.Test.YtjahkildlilabaaBFqK
import Derived.Test.YtjahkildlilabaaBFqN
import Derived.Test.YtjahkildlilabaaXw
import Derived.Test.YtjahkildlilabaaK
import Derived.Test.YtjahkildlilabaaF0
import Derived.Test.YtjahkildlilabaaF1
set_option linter.unusedVariables false
set_option linter.unusedSimpArgs false
set_option linter.unusedSectionVars false
namespace Go.X
open Go.Proofs
namespace FqO
open Arith ArithC Lists _root_.Go.X.Tree TreeC TreeD TreeE TreeF FqM FqC FqD FqE FqG FqH FqI FqJ FqK FqN
/-! ### Waits -/
abbrev l3 : LV := ([((3 : Nat) : Int)], [])
/-! ### Rates -/
abbrev rc (q : Int) : Cf := (3000, 15000, 100, 50, 10000000000, q, false, 100000, 1000)
theorem rc_may (q : Int) : may (rc q) = true := by show may plainC = true; exact plain_may
theorem rc_ok {q : Int} (h : U q) : OkC (rc q) := may_ok (rc_may q) (by show (0 : Int) ≤ 10000000000; decide) h
/-- What the first one takes. -/
def rD (q n o : Int) : Int := delayI n (lessI o q)
def rv1 (q n : Int) : Qm := one (rc q) 0 ⟨15000, 0, 0, [sgL n]⟩ l0 []
def rv2 (q n : Int) : Qm := one (rc q) 0 ⟨15000, 0, 0, [sgL n, sgL 1]⟩ l0 []
def rv3 (q n o : Int) : Qm := one (rc q) 0 ⟨15000 - n, 5 + rD q n o, 0, [sgL 1]⟩ l0 []
def rv4 (q n o : Int) : Qm := one (rc q) 0 ⟨15000 - n, 5 + rD q n o, 0, [sgL 1]⟩ ([], []) [(5 + rD q n o, ((0 : Nat) : Int))]
theorem delay_r {n r : Int} (hn : n < 9223372036854775808) (hr : U r) : 0 ≤ delayI n r ∧ delayI n r ≤ 1000000000 := by
  have h := U_delay hn hr
  unfold U at h
  refine ⟨h.1, ?_⟩
  unfold delayI
  split
  · decide
  · split <;> omega
theorem rv1_eq {q n : Int} (hq : U q) (h : 1 ≤ n ∧ n ≤ 9000) : enqF (newF (rc q)) (sgL n) 5 = ((0, 0), rv1 q n) := by
  rw [enq_new (rc_ok hq) (s := sgL n) (now := 5) (show (0:Int) ≤ 0 ∧ (0:Int) ≤ 7 by decide) (by show 1 ≤ n ∧ n ≤ 65536; omega) (by decide) (fun x => by cases x.2)]
  rfl
theorem rv1_ok {q n : Int} (hq : U q) (h : 1 ≤ n ∧ n ≤ 9000) : OkQ (rv1 q n) := by
  have := (OkQ.new (rc_ok hq)).enq (s := sgL n) (now := 5) ⟨u0, u0⟩ u5
  rwa [rv1_eq hq h] at this
theorem plc_in (c : Cf) (i : Nat) (f : Fl) (ks : List Key) : plc (one c i f ([(i : Int)], []) ks) i = 1 := by
  rw [plc_one]
  have : placeF ([(i : Int)], []) (i : Int) = 1 := by simp [placeF]
  rw [this]; rfl
theorem rv2_eq {q n : Int} (hq : U q) (h : 1 ≤ n ∧ n ≤ 9000) : enqF (rv1 q n) (sgL 1) 5 = ((0, 0), rv2 q n) := by
  have hv := rv1_ok hq h
  unfold rv1 at hv ⊢
  rw [enq_more hv (s := sgL 1) (now := 5) rfl (by decide) (show (1:Int) ≤ 1 ∧ (1:Int) ≤ 65536 by decide) (by decide) (fun x => by cases x.2) (by show (1:Int) < 100; decide) (by show (1:Int) < 50; decide) (by rw [plc_in]; simp)]
  rfl
theorem rv2_ok {q n : Int} (hq : U q) (h : 1 ≤ n ∧ n ≤ 9000) : OkQ (rv2 q n) := by
  have := (rv1_ok hq h).enq (s := sgL 1) (now := 5) ⟨u0, u0⟩ u5
  rwa [rv2_eq hq h] at this
theorem rates1 {o : Int} (ho : U o) : ∀ x ∈ [o], U x := fun x hx => by rw [List.mem_singleton] at hx; rw [hx]; exact ho
theorem rv3_eq {q n o : Int} (hq : U q) (h : 1 ≤ n ∧ n ≤ 9000) (ho : U o) : deqF (rv2 q n) 5 [o] = (some (sgL n), rv3 q n o) := by
  have hv := rv2_ok hq h
  rw [deq_eq]
  unfold rv2 at hv ⊢
  rw [due_nil]
  rw [one_send hv (.inl rfl) (by show (15000 : Int) > 0; decide) (s := sgL n) (l := [sgL 1]) rfl (by show (0 : Int) ≤ 5; decide)]
  have hr := delay_r (n := n) (by omega) (U_less ho hq)
  have e : addI 5 (delayI n (lessI o q)) = 5 + rD q n o := by unfold rD addI; rw [if_pos (by omega)]
  show (some (sgL n), one (rc q) 0 ⟨15000 - n, addI 5 (delayI n (lessI o q)), 0, [sgL 1]⟩ l0 []) = _
  rw [e]
  rfl
theorem rv3_ok {q n o : Int} (hq : U q) (h : 1 ≤ n ∧ n ≤ 9000) (ho : U o) : OkQ (rv3 q n o) := by
  have := deq_ok (rv2_ok hq h) u5 (rates1 ho)
  rwa [rv3_eq hq h ho] at this
theorem rD_b {q n o : Int} (hq : U q) (h : 1 ≤ n ∧ n ≤ 9000) (ho : U o) : 0 ≤ rD q n o ∧ rD q n o ≤ 1000000000 := delay_r (by omega) (U_less ho hq)
theorem time_r {q n o : Int} (hq : U q) (h : 1 ≤ n ∧ n ≤ 9000) (ho : U o) : timeF ⟨15000 - n, 5 + rD q n o, 0, [sgL 1]⟩ = 5 + rD q n o := by
  have := rD_b hq h ho
  show (if (0 : Int) > 5 + rD q n o then 0 else 5 + rD q n o) = _
  rw [if_neg (by omega)]
theorem rv4_eq {q n o : Int} (hq : U q) (h : 1 ≤ n ∧ n ≤ 9000) (ho : U o) (hp : rD q n o > 0) : deqF (rv3 q n o) (4 + rD q n o) [o] = (none, rv4 q n o) := by
  have hv := rv3_ok hq h ho
  have hb := rD_b hq h ho
  rw [deq_eq]
  unfold rv3 at hv ⊢
  rw [due_nil, one_wait hv (.inl rfl) (by unfold U; omega) (rates1 ho) (by show 15000 - n > 0; omega) (by show [sgL 1] ≠ []; simp) (by rw [time_r hq h ho]; omega), time_r hq h ho]
  rfl
theorem rv4_ok {q n o : Int} (hq : U q) (h : 1 ≤ n ∧ n ≤ 9000) (ho : U o) (hp : rD q n o > 0) : OkQ (rv4 q n o) := by
  have hb := rD_b hq h ho
  have := deq_ok (rv3_ok hq h ho) (now := 4 + rD q n o) (by unfold U; omega) (rates1 ho)
  rwa [rv4_eq hq h ho hp] at this
theorem rv5_eq {q n o : Int} (hq : U q) (h : 1 ≤ n ∧ n ≤ 9000) (ho : U o) (hp : rD q n o > 0) : (deqF (rv4 q n o) (5 + rD q n o) [o]).1 = some (sgL 1) := by
  have hok := rv4_ok hq h ho hp
  have hd := hok.due (5 + rD q n o)
  rw [deq_eq]
  unfold rv4 at hd ⊢
  rw [due_one (Int.le_refl _)] at hd ⊢
  rw [one_send hd (.inr rfl) (by show 15000 - n > 0; omega) (s := sgL 1) (l := []) rfl (by rw [time_r hq h ho]; omega)]
theorem rv5_eq' {q n o : Int} (hq : U q) (h : 1 ≤ n ∧ n ≤ 9000) (ho : U o) : (deqF (rv3 q n o) (5 + rD q n o) [o]).1 = some (sgL 1) := by
  have hv := rv3_ok hq h ho
  rw [deq_eq]
  unfold rv3 at hv ⊢
  rw [due_nil, one_send hv (.inl rfl) (by show 15000 - n > 0; omega) (s := sgL 1) (l := []) rfl (by rw [time_r hq h ho]; omega)]
theorem rates_tri (d o a : Int) (ho : U o) (ha : 0 ≤ a) : Tri Try.prog N_canterlaw20_FqRates [.lf (.int .i64 d), .lf (.int .u64 o), .lf (.int .u64 a)] [.lf .bool] emp (fun r => pur (r = true) emp) :=
  tri_0 (call_canterlaw20_FqRates d o a) fun w0 S R h => by
    unfold W_canterlaw20_FqRates
    have hd := modr d (m := 9000) (by decide) (by decide)
    have eL : IntKind.i64.wrap (1 + IntKind.i64.wrap ((IntKind.u64.wrap d).tmod 9000)) = 1 + IntKind.i64.wrap ((IntKind.u64.wrap d).tmod 9000) := wi (by omega) (by omega)
    rw [eL]
    obtain ⟨n, hne⟩ : ∃ n, n = 1 + IntKind.i64.wrap ((IntKind.u64.wrap d).tmod 9000) := ⟨_, rfl⟩
    have hq0 : 0 ≤ a.tmod 10000000 ∧ a.tmod 10000000 < 10000000 := ⟨Int.tmod_nonneg _ ha, Int.tmod_lt_of_pos _ (by decide)⟩
    obtain ⟨q, hqe⟩ : ∃ q, q = a.tmod 10000000 := ⟨_, rfl⟩
    rw [← hne, ← hqe]
    rw [← hqe] at hq0
    have hn : 1 ≤ n ∧ n ≤ 9000 := by omega
    clear hne hqe eL hd
    have hq : U q := by unfold U; omega
    have hb := rD_b hq hn ho
    obtain ⟨D, hD⟩ : ∃ D, D = rD q n o := ⟨_, rfl⟩
    refine w_call plain_tri (h.le (star_emp _)) fun r w h => ?_
    obtain ⟨hr, h⟩ := h.purP; rw [hr]
    refine w_new h fun n2 w h => w_setAll h (by rfl) fun w h => ?_
    refine w_setTo h n2 (Ks.mk KC (rc q)) rfl rfl rfl fun w h => ?_
    refine w_ldAll (b := n2) (x := rc q) h rfl (w_call (new_tri (rc q)) h fun r w h => ?_)
    obtain ⟨b, h⟩ := h.exP
    obtain ⟨hr, h⟩ := h.purP
    rw [if_pos (rc_may q)] at hr h
    rw [hr]
    refine w_call awake_tri h fun r w h => ?_
    obtain ⟨hr, h⟩ := h.purP; rw [hr]
    refine w_ite (fun c => (by simp at c)) fun _ => ?_
    refine w_call (enq_tri b (newF (rc q)) (OkQ.new (rc_ok hq)) (sgL n) 5 ⟨u0, u0⟩ u5) h fun r w h => ?_
    obtain ⟨_, h⟩ := h.purP
    rw [rv1_eq hq hn] at h
    refine w_call (enq_tri b (rv1 q n) (rv1_ok hq hn) (sgL 1) 5 ⟨u0, u0⟩ u5) h fun r w h => ?_
    obtain ⟨_, h⟩ := h.purP
    rw [rv2_eq hq hn] at h
    refine w_new h fun n8 w h => ?_
    have h := h.blkArr n8 KU [o] rfl (by simp)
    refine w_callL (deq_tri b (rv2 q n) (rv2_ok hq hn) 5 u5 ⟨some ⟨n8, 0⟩, 1, 1⟩ [o] (rates1 ho)) h fun r w h => ?_
    obtain ⟨hr, h⟩ := h.purP; rw [hr]
    rw [rv3_eq hq hn ho] at h ⊢
    refine w_new h fun n10 w h => w_setAll h (by rfl) fun w h => w_ld h rfl ?_
    refine w_call (rless_tri o q ho hq) h fun r w h => ?_
    obtain ⟨hr, h⟩ := h.purP; rw [hr]
    refine w_call (rdelay_tri n (lessI o q) (by omega) (U_less ho hq)) h fun r w h => ?_
    obtain ⟨hr, h⟩ := h.purP; rw [hr]
    rw [show delayI n (lessI o q) = D from hD.symm]
    refine w_call (flow_tri b (rv3 q n o) (rv3_ok hq hn ho) 0) h fun r w h => ?_
    obtain ⟨s1, h⟩ := h.exP
    obtain ⟨hr, h⟩ := h.purP; rw [hr]
    have q1 : seenF (rv3 q n o) 0 s1 = _ := (seen_one (rc q) 0 ⟨15000 - n, 5 + rD q n o, 0, [sgL 1]⟩ l0 [] s1 (by decide)).1
    rw [q1]
    have e5 : IntKind.u64.wrap (5 + D) = 5 + D := wu (by omega) (by omega)
    have e4 : IntKind.u64.wrap (4 + D) = 4 + D := wu (by omega) (by omega)
    refine w_new h fun n15 w h => w_setAll h (by rfl) fun w h => ?_
    refine ⟨_, fun _ _ h => h, ?_⟩
    refine w_ite (fun c => (by cases c)) fun _ => ?_
    refine w_ld h rfl (w_ite (fun c => (by rw [e5, ← hD] at c; simp at c)) fun _ => ?_)
    have h : Own w0 S R w (que b (rv3 q n o)) := h.fin
    refine w_join h (fun _ => exq (fun v : Qm => OkQ v ∧ (deqF v (5 + D) [o]).1 = some (sgL 1)) (fun v : Qm => que b v)) (fun _ => True) (fun _ w _ h => ?_) ?_
    · obtain ⟨v, ⟨hv, hv2⟩, h⟩ := h.outq1
      refine w_new h fun n25 w h => ?_
      have h := h.blkArr n25 KU [o] rfl (by simp)
      rw [e5]
      refine w_callL (deq_tri b v hv (5 + D) (by unfold U; omega) ⟨some ⟨n25, 0⟩, 1, 1⟩ [o] (rates1 ho)) h fun r w h => ?_
      obtain ⟨hr, h⟩ := h.purP; rw [hr, hv2]
      refine w_new h fun n27 w h => w_setAll h (by rfl) fun w h => ?_
      exact Own.retP rfl h.emp'
    · refine w_ite (fun c => ?_) fun c => ?_
      · have c : D > 0 := by simpa using c
        refine w_new h fun n21 w h => ?_
        have h := h.blkArr n21 KU [o] rfl (by simp)
        rw [e4, e5]
        refine w_callL (deq_tri b (rv3 q n o) (rv3_ok hq hn ho) (4 + D) (by unfold U; omega) ⟨some ⟨n21, 0⟩, 1, 1⟩ [o] (rates1 ho)) h fun r w h => ?_
        obtain ⟨hr, h⟩ := h.purP; rw [hr]
        have e := rv4_eq hq hn ho (by omega)
        rw [← hD] at e
        rw [e] at h ⊢
        refine w_new h fun n23 w h => w_setAll h (by rfl) fun w h => w_call (min_tri b (rv4 q n o)) h fun r w h => ?_
        obtain ⟨hr, h⟩ := h.purP; rw [hr]
        have hm : minF (rv4 q n o).ks = ((5 + D, ((0 : Nat) : Int)), true) := by rw [hD]; rfl
        rw [hm]
        refine w_ite (fun c => (by simp [outS] at c)) fun _ => ?_
        refine ⟨trivial, (h.inq (f := fun v : Qm => que b v) (rv4 q n o) ⟨rv4_ok hq hn ho (by omega), ?_⟩).keep⟩
        rw [hD]
        exact rv5_eq hq hn ho (by omega)
      · refine ⟨trivial, ((h.le (star_emp _)).inq (f := fun v : Qm => que b v) (rv3 q n o) ⟨rv3_ok hq hn ho, ?_⟩).keep⟩
        rw [hD]
        exact rv5_eq' hq hn ho
end FqO

end Go.X
