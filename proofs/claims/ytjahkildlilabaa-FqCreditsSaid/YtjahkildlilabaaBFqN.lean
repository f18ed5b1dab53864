/- Contracts and plain facts: FqN. -/
import Derived.Test.YtjahkildlilabaaBPlain
import Derived.Test.YtjahkildlilabaaBArith
import Derived.Test.YtjahkildlilabaaBArithC
import Derived.Test.YtjahkildlilabaaBLists
import Derived.Test.YtjahkildlilabaaBTreeM
import Derived.Test.YtjahkildlilabaaBTreeN
import Derived.Test.YtjahkildlilabaaBTreeA
import Derived.Test.YtjahkildlilabaaBTreeB
import Derived.Test.YtjahkildlilabaaBTreeC
import Derived.Test.YtjahkildlilabaaBTreeD
import Derived.Test.YtjahkildlilabaaBTreeE
import Derived.Test.YtjahkildlilabaaBTreeF
import Derived.Test.YtjahkildlilabaaBFqM
import Derived.Test.YtjahkildlilabaaBFqC
import Derived.Test.YtjahkildlilabaaBFqD
import Derived.Test.YtjahkildlilabaaBFqE
import Derived.Test.YtjahkildlilabaaBFqG
import Derived.Test.YtjahkildlilabaaBFqH
import Derived.Test.YtjahkildlilabaaBFqJ
import Derived.Test.YtjahkildlilabaaBFqK
import Derived.Test.YtjahkildlilabaaXw
import Derived.Test.YtjahkildlilabaaK
import Derived.Test.YtjahkildlilabaaF0
import Derived.Test.YtjahkildlilabaaF1
set_option linter.unusedVariables false
set_option linter.unusedSimpArgs false
set_option linter.unusedSectionVars false
namespace Go.X
open Go.Proofs
namespace FqN
open Arith ArithC Lists _root_.Go.X.Tree TreeC TreeD TreeE TreeF FqM FqC FqD FqE FqG FqH FqJ FqK
theorem seen_one (c : Cf) (i : Nat) (f : Fl) (lv : LV) (ks : List Key) (s : Sl) (hi : i < 8) : seenF (one c i f lv ks) (i : Int) s = (((i : Int), f.cr, plc (one c i f lv ks) i, f.nx, f.si, s), true) ∧ sgF (one c i f lv ks) (i : Int) = f.sg := by
  have hf : (one c i f lv ks).fl ((i : Nat) : Int).toNat = some f := by rw [Int.toNat_natCast]; exact one_fl _ _ _ _ _
  have hh : hasF (one c i f lv ks) (i : Int) = true := by
    unfold hasF
    rw [hf, Bool.and_eq_true, decide_eq_true_eq]
    exact ⟨by omega, rfl⟩
  unfold seenF sgF
  rw [if_pos hh, if_pos hh, hf, Int.toNat_natCast]
  exact ⟨rfl, rfl⟩
theorem less_0 : lessI 18446744073709551615 0 = 18446744073709551615 := by decide
theorem delay_max (n : Int) : delayI n 18446744073709551615 = 0 := by unfold delayI; rw [if_pos (.inr rfl)]
theorem rate_none (i : Nat) : rateA [] i = 18446744073709551615 := by unfold rateA; simp
/-! ### Credits -/
abbrev sgL (n : Int) : Sg := (0, 0, n, 0, false)
abbrev l0 : LV := ([((0 : Nat) : Int)], [])
def cv1 (n : Int) : Qm := one plainC 0 ⟨15000, 0, 0, [sgL n]⟩ l0 []
def cv2 (n : Int) : Qm := one plainC 0 ⟨15000 - n, 0, 0, []⟩ l0 []
def cv3 (n : Int) : Qm := one plainC 0 ⟨top 3000 (15000 - n), 0, 0, []⟩ ([], []) []
def cr4 (n t : Int) : Int := if 3000000000 ≤ t then 15000 else if 40000000 ≤ t then (if 3000 > top 3000 (15000 - n) then 3000 else top 3000 (15000 - n)) else top 3000 (15000 - n)
def cv4 (n t : Int) : Qm := one plainC 0 ⟨cr4 n t, 0, 0, [sgL 1]⟩ l0 []
theorem ok0 : OkQ (newF plainC) := OkQ.new plain_ok
theorem cv1_eq {n : Int} (h : 1 ≤ n ∧ n ≤ 65536) : enqF (newF plainC) (sgL n) 0 = ((0, 0), cv1 n) := by
  rw [enq_new plain_ok (s := sgL n) (now := 0) (show (0:Int) ≤ 0 ∧ (0:Int) ≤ 7 by decide) h (by decide) (fun x => by cases x.2)]
  rfl
theorem cv1_ok {n : Int} (h : 1 ≤ n ∧ n ≤ 65536) : OkQ (cv1 n) := by
  have := ok0.enq (s := sgL n) (now := 0) ⟨u0, u0⟩ u0
  rwa [cv1_eq h] at this
theorem deq_ok {v : Qm} (hv : OkQ v) {now : Int} (hn : U now) {rates : List Int} (hr : ∀ x ∈ rates, U x) : OkQ (deqF v now rates).2 := by
  rw [deq_eq]
  unfold deqH
  suffices ∀ k u, OkQ u → OkQ (heads now rates k u).2 from this _ _ (hv.due now)
  intro k
  induction k with
  | zero => intro u hu; exact hu
  | succ k ih =>
    intro u hu
    cases hh : (headF u.lv).2.2 with
    | false => rw [heads_no hh]; exact hu
    | true =>
      have hmm := headF_mem hh
      have hx := hu.lv.2 _ hmm
      obtain ⟨i, hi⟩ : ∃ i : Nat, (headF u.lv).1 = (i : Int) := ⟨(headF u.lv).1.toNat, by omega⟩
      obtain ⟨f, hf⟩ := hu.th i (by rw [hi] at hmm; exact hmm)
      have hA : AtH u i f := ⟨hu, hi, hh, hf⟩
      rw [heads_at hA]
      by_cases c : f.cr ≤ 0
      · rw [if_pos c]
        exact ih _ (hA.credit c)
      · rw [if_neg c]
        cases hs : f.sg with
        | nil =>
          simp only
          split
          · exact ih _ hA.back
          · rw [← hs]
            exact ih _ (hA.nowhere hs hn)
        | cons s l =>
          simp only
          split
          · exact ih _ (hA.wait (by rw [hs]; simp)).1
          · have hF := (hu.fl i f hf).2
            exact hA.sent hs (by omega) hn (U_delay (by have := (hF.sg s (by rw [hs]; simp)).2.ln; omega) (U_less (U_rateA hr i) hu.cf.r))
theorem nor : ∀ x ∈ ([] : List Int), U x := fun x h => by cases h
theorem cv2_eq {n : Int} (h : 1 ≤ n ∧ n ≤ 65536) : deqF (cv1 n) 0 [] = (some (sgL n), cv2 n) := by
  rw [deq_eq]
  unfold cv1
  rw [due_nil]
  have hv := cv1_ok h
  unfold cv1 at hv
  rw [one_send hv (.inl rfl) (by show (15000 : Int) > 0; decide) (s := sgL n) (l := []) rfl (by show (0 : Int) ≤ 0; decide)]
  rw [rate_none]
  show (some (sgL n), one plainC 0 ⟨15000 - n, addI 0 (delayI n (lessI 18446744073709551615 0)), 0, []⟩ l0 []) = _
  rw [less_0, delay_max]
  rfl
theorem cv2_ok {n : Int} (h : 1 ≤ n ∧ n ≤ 65536) : OkQ (cv2 n) := by
  have := deq_ok (cv1_ok h) u0 nor
  rwa [cv2_eq h] at this
theorem cv3_eq {n : Int} (h : 1 ≤ n ∧ n ≤ 65536) : deqF (cv2 n) 0 [] = (none, cv3 n) := by
  rw [deq_eq]
  have hv := cv2_ok h
  unfold cv2 at hv ⊢
  rw [due_nil]
  exact one_empty u0 nor _ _ _ hv (.inl rfl) rfl (Nat.le_refl _)
theorem cv3_ok {n : Int} (h : 1 ≤ n ∧ n ≤ 65536) : OkQ (cv3 n) := by
  have := deq_ok (cv2_ok h) u0 nor
  rwa [cv3_eq h] at this
theorem cv4_eq {n t : Int} (h : 1 ≤ n ∧ n ≤ 65536) (ht : 0 ≤ t) : enqF (cv3 n) (sgL 1) t = ((0, 0), cv4 n t) := by
  have hv := cv3_ok h
  unfold cv3 at hv ⊢
  rw [enq_wake hv rfl (s := sgL 1) (now := t) rfl (by decide) ⟨by show (1:Int) ≤ 1; decide, by show (1:Int) ≤ 65536; decide⟩ (fun x => by cases x.2)]
  refine Prod.ext rfl ?_
  show one plainC 0 (if addI 0 3000000000 ≤ t then _ else _) _ _ = cv4 n t
  have e1 : addI 0 3000000000 = 3000000000 := by decide
  have e2 : addI 0 40000000 = 40000000 := by decide
  have ed : drawn (newF plainC) (sgL 1) t = sgL 1 := by
    show ((0 : Int), (0 : Int), (1 : Int), (if addI t 10000000000 < 0 then addI t 10000000000 else 0), false) = _
    rw [if_neg (by unfold addI; split <;> omega)]
  dsimp only
  rw [e1, e2, ed]
  unfold cv4 cr4
  by_cases x : 3000000000 ≤ t
  · rw [if_pos x, if_pos x]
  · rw [if_neg x, if_neg x]
theorem credits_tri (d o : Int) (ho : 0 ≤ o) : Tri Try.prog N_canterlaw20_FqCredits [.lf (.int .i64 d), .lf (.int .u64 o)] [.lf .bool] emp (fun r => pur (r = true) emp) :=
  tri_0 (call_canterlaw20_FqCredits d o) fun w0 S R h => by
    unfold W_canterlaw20_FqCredits
    have hd := modr d (m := 65536) (by decide) (by decide)
    have eL : IntKind.i64.wrap (1 + IntKind.i64.wrap ((IntKind.u64.wrap d).tmod 65536)) = 1 + IntKind.i64.wrap ((IntKind.u64.wrap d).tmod 65536) := wi (by omega) (by omega)
    rw [eL]
    obtain ⟨n, hne⟩ : ∃ n, n = 1 + IntKind.i64.wrap ((IntKind.u64.wrap d).tmod 65536) := ⟨_, rfl⟩
    have ht : 0 ≤ o.tmod 5000000000 ∧ o.tmod 5000000000 < 5000000000 := ⟨Int.tmod_nonneg _ ho, Int.tmod_lt_of_pos _ (by decide)⟩
    obtain ⟨t, hte⟩ : ∃ t, t = o.tmod 5000000000 := ⟨_, rfl⟩
    rw [← hne, ← hte]
    rw [← hte] at ht
    have hn : 1 ≤ n ∧ n ≤ 65536 := by omega
    clear hne hte eL hd
    have uT : U t := by unfold U; omega
    have eS : IntKind.i64.wrap (15000 - n) = 15000 - n := wi (by omega) (by omega)
    refine w_call plain_tri (h.le (star_emp _)) fun r w h => ?_
    obtain ⟨hr, h⟩ := h.purP; rw [hr]
    refine w_new h fun n2 w h => w_setAll h (by rfl) fun w h => w_ldAll (b := n2) (x := plainC) h rfl ?_
    refine w_call (new_tri plainC) h fun r w h => ?_
    obtain ⟨b, h⟩ := h.exP
    obtain ⟨hr, h⟩ := h.purP
    rw [if_pos plain_may] at hr h
    rw [hr]
    refine w_call awake_tri h fun r w h => ?_
    obtain ⟨hr, h⟩ := h.purP; rw [hr]
    refine w_ite (fun c => (by simp at c)) fun _ => ?_
    refine w_call (enq_tri b (newF plainC) ok0 (sgL n) 0 ⟨u0, u0⟩ u0) h fun r w h => ?_
    obtain ⟨_, h⟩ := h.purP
    rw [cv1_eq hn] at h
    have h := h.nil KU
    refine w_callL (deq_tri b (cv1 n) (cv1_ok hn) 0 u0 ⟨none, 0, 0⟩ [] nor) h fun r w h => ?_
    obtain ⟨_, h⟩ := h.purP
    rw [cv2_eq hn] at h
    refine w_call (flow_tri b (cv2 n) (cv2_ok hn) 0) h fun r w h => ?_
    obtain ⟨s1, h⟩ := h.exP
    obtain ⟨hr, h⟩ := h.purP; rw [hr]
    have q1 : seenF (cv2 n) 0 s1 = _ := (seen_one plainC 0 ⟨15000 - n, 0, 0, []⟩ l0 [] s1 (by decide)).1
    rw [q1]
    refine w_new h fun n9 w h => w_setAll h (by rfl) fun w h => ?_
    refine w_callL (deq_tri b (cv2 n) (cv2_ok hn) 0 u0 ⟨none, 0, 0⟩ [] nor) h fun r w h => ?_
    obtain ⟨hr, h⟩ := h.purP; rw [hr]
    rw [cv3_eq hn] at h ⊢
    refine w_new h fun n11 w h => w_setAll h (by rfl) fun w h => ?_
    refine w_call (flow_tri b (cv3 n) (cv3_ok hn) 0) h fun r w h => ?_
    obtain ⟨s2, h⟩ := h.exP
    obtain ⟨hr, h⟩ := h.purP; rw [hr]
    have q2 : seenF (cv3 n) 0 s2 = _ := (seen_one plainC 0 ⟨top 3000 (15000 - n), 0, 0, []⟩ ([], []) [] s2 (by decide)).1
    rw [q2]
    refine w_new h fun n13 w h => w_setAll h (by rfl) fun w h => ?_
    refine w_call (enq_tri b (cv3 n) (cv3_ok hn) (sgL 1) t ⟨u0, u0⟩ uT) h fun r w h => ?_
    obtain ⟨_, h⟩ := h.purP
    rw [cv4_eq hn ht.1] at h
    have hok4 : OkQ (cv4 n t) := by
      have := (cv3_ok hn).enq (s := sgL 1) (now := t) ⟨u0, u0⟩ uT
      rwa [cv4_eq hn ht.1] at this
    refine w_call (flow_tri b (cv4 n t) hok4 0) h fun r w h => ?_
    obtain ⟨s3, h⟩ := h.exP
    obtain ⟨hr, h⟩ := h.purP; rw [hr]
    have q3 : seenF (cv4 n t) 0 s3 = _ := (seen_one plainC 0 ⟨cr4 n t, 0, 0, [sgL 1]⟩ l0 [] s3 (by decide)).1
    rw [q3]
    refine w_new h fun n16 w h => w_setAll h (by rfl) fun w h => ?_
    refine w_ld h rfl ?_
    have hL : IntKind.i64.wrap (plainC.2.1 - n) = 15000 - n := eS
    rw [hL]
    obtain ⟨F, hF⟩ : ∃ F : SP, F = blk n16 (Ks.mk KF (((0 : Nat) : Int), cr4 n t, plc (one plainC 0 ⟨cr4 n t, 0, 0, [sgL 1]⟩ l0 []) 0, 0, 0, s3)) ^ blk n13 (Ks.mk KF (((0 : Nat) : Int), top 3000 (15000 - n), plc (one plainC 0 ⟨top 3000 (15000 - n), 0, 0, []⟩ ([], []) []) 0, 0, 0, s2)) ^ blk n9 (Ks.mk KF (((0 : Nat) : Int), 15000 - n, plc (one plainC 0 ⟨15000 - n, 0, 0, []⟩ l0 []) 0, 0, 0, s1)) ^ blk n2 (Ks.mk KC plainC) := ⟨_, rfl⟩
    have h : Own w0 S R w F := by rw [hF]; exact h.fin
    refine w_loop (fun _ : Int => F) (fun y : Int => top 3000 y = top 3000 (15000 - n) ∧ -65536 < y ∧ y ≤ 15000) (fun y : Int => (1 - y).toNat) h ⟨rfl, by omega⟩ ?_
    rintro (y : Int) w ⟨hy, hy2⟩ h
    rw [hF] at h
    refine w_ite (fun c => ?_) fun c => ?_
    · have c : y ≤ 0 := by simpa using c
      refine w_ld h rfl ?_
      have e : IntKind.i64.wrap (y + plainC.1) = y + 3000 := wi (by show -9223372036854775808 ≤ y + 3000; omega) (by show y + 3000 < _; omega)
      rw [e]
      refine ⟨⟨⟨?_, by omega⟩, by rw [hF]; exact h⟩, by omega⟩
      show top 3000 (y + 3000) = _
      rw [← top_step (by decide) (by omega)]
      exact hy
    · have c : ¬ y ≤ 0 := by simpa using c
      have hty : top 3000 (15000 - n) = y := by rw [← hy, top_pos (by omega)]
      have h : Own w0 S R w F := by rw [hF]; exact h
      refine w_join h (fun _ => F) (fun z : Int => z = top 3000 (15000 - n)) (fun (z : Int) w hz h => ?_) ?_
      · refine w_join h (fun _ => F) (fun u : Int => u = cr4 n t) (fun (u : Int) w hu h => ?_) ?_
        · rw [hF] at h
          refine w_ite (fun _ => ?_) fun c => (by cases c)
          refine w_ld h rfl (w_ld h rfl (w_ite (fun _ => ?_) fun c => (by rw [hL] at c; simp at c)))
          refine w_ld h rfl (w_ite (fun _ => ?_) fun c => (by cases c))
          refine w_ld h rfl (w_ite (fun _ => ?_) fun c => (by rw [hz] at c; simp at c))
          refine w_ld h rfl (w_ite (fun _ => ?_) fun c => (by rw [hu] at c; simp at c))
          refine w_ld h rfl ?_
          exact Own.retP rfl h.emp'
        · refine w_ite (fun c => ?_) fun c => ?_
          · have c : t ≥ 3000000000 := by simpa using c
            rw [hF] at h
            refine w_ld h rfl ⟨?_, by rw [hF]; exact h⟩
            show (15000 : Int) = cr4 n t
            unfold cr4; rw [if_pos (by omega)]
          have c1 : ¬ t ≥ 3000000000 := by simpa using c
          refine w_ite (fun c => ?_) fun c => ?_
          · have c : t ≥ 40000000 := by simpa using c
            rw [hF] at h
            refine w_ld h rfl ⟨?_, by rw [hF]; exact h⟩
            show (if (3000 : Int) > z then 3000 else z) = cr4 n t
            unfold cr4; rw [hz, if_neg (show ¬ 3000000000 ≤ t by omega), if_pos (show 40000000 ≤ t by omega)]
          · have c : ¬ t ≥ 40000000 := by simpa using c
            refine ⟨?_, h⟩
            unfold cr4; rw [if_neg (by omega), if_neg (by omega)]; exact hz
      · rw [hF] at h
        refine w_ld h rfl (w_ite (fun c => ?_) fun c => ?_)
        · have c := of_decide_eq_true c
          have c : IntKind.i64.wrap (plainC.2.1 - n) > 0 := c
          rw [hL] at c
          refine w_ld h rfl ⟨?_, by rw [hF]; exact h⟩
          show IntKind.i64.wrap (plainC.2.1 - n) = _
          rw [hL, top_pos (by omega)]
        · exact ⟨hty.symm, by rw [hF]; exact h⟩
end FqN

end Go.X
