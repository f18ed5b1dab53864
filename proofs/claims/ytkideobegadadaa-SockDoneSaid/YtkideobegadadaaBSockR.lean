/- Contracts and plain facts: SockR. -/
import Derived.Test.YtkideobegadadaaBArith
import Derived.Test.YtkideobegadadaaBDelays
import Derived.Test.YtkideobegadadaaBTarget
import Derived.Test.YtkideobegadadaaBBbrMm
import Derived.Test.YtkideobegadadaaBBbrQ
import Derived.Test.YtkideobegadadaaBSockA
import Derived.Test.YtkideobegadadaaBSockM
import Derived.Test.YtkideobegadadaaBSockD
import Derived.Test.YtkideobegadadaaBSockF
import Derived.Test.YtkideobegadadaaBSockH
import Derived.Test.YtkideobegadadaaBSockK
import Derived.Test.YtkideobegadadaaBSockO
import Derived.Test.YtkideobegadadaaBSockQ
import Derived.Test.YtkideobegadadaaXw
import Derived.Test.YtkideobegadadaaK
import Derived.Test.YtkideobegadadaaF0
set_option linter.unusedVariables false
set_option linter.unusedSimpArgs false
set_option linter.unusedSectionVars false
namespace Go.X
open Go.Proofs
namespace SockR
open Arith ArithC Delays Board BbrM BbrMm SockA SockB SockM SockC SockD SockE SockF SockG SockH SockJ SockK SockL SockO SockP SockQ
/-! ### What is done -/
theorem fresh_may {v : Sk} (h1 : v.bd = ([], 0)) (h2 : v.out = 0) (h3 : v.md = mNew 1000) (h4 : v.mss = 1000) (h5 : v.cap = 100000) (h6 : bW v.bf - bN v.bf ≠ 0) : (mayS v).1 = 0 := by
  have hb : (0 : Int) < (mNew 1000).win ∧ (0 : Int) < belowF (mNew 1000).rate (tsoF (mNew 1000).rate 1000) 100000 := by decide +kernel
  have hf : skFl v = 0 := by unfold skFl; rw [h1]; rfl
  unfold mayS
  rw [if_neg (fun c => h6 c.2), if_neg (by rw [hf, h2]; unfold skTso; rw [h3, h4, h5]; exact fun c => c hb), if_neg (by rw [h1]; exact fun c => by have := c.2; simp at this)]
theorem done_no {v : Sk} {n : Int} (h : n < 1 ∨ n > v.out) : doneS v n = (1, v) := by unfold doneS; rw [if_pos h]
theorem done_yes {v : Sk} {n : Int} (h : ¬ (n < 1 ∨ n > v.out)) : doneS v n = (0, { v with out := v.out - n }) := by unfold doneS; rw [if_neg h]
theorem done_tri (n over : Int) : Tri Try.prog N_canterlaw25_SockDone [.lf (.int .i64 n), .lf (.int .i64 over)] [.lf .bool] emp (fun r => pur (r = true) emp) :=
  tri_0 (call_canterlaw25_SockDone n over) fun w0 S R h => by
    unfold W_canterlaw25_SockDone
    refine w_call plain_tri (h.le (star_emp _)) fun r w h => ?_
    obtain ⟨hr, h⟩ := h.purP; rw [hr]
    refine w_call (snew_tri 0 plainC) h fun r w h => ?_
    obtain ⟨p, h⟩ := h.exP
    obtain ⟨hr, h⟩ := h.purP; rw [hr]
    have h : Own w0 S R w (sck p (newS 0 1000 100000) ^ emp) := h.fin
    have i0 : IvS 0 (newS 0 1000 100000) := new_inv 0 1000 100000 cap_plain
    refine w_call awake_tri h fun r w h => ?_
    obtain ⟨hr, h⟩ := h.purP; rw [hr]
    refine w_ite (fun c => (by cases c)) fun _ => ?_
    have hm := modr n (m := 100000) (by decide) (by decide)
    have ho := modr over (m := 1000) (by decide) (by decide)
    obtain ⟨N, hN⟩ : ∃ N, N = 1 + IntKind.i64.wrap ((IntKind.u64.wrap n).tmod 100000) := ⟨_, rfl⟩
    obtain ⟨o, hoo⟩ : ∃ o, o = IntKind.i64.wrap ((IntKind.u64.wrap over).tmod 1000) := ⟨_, rfl⟩
    have eN : IntKind.i64.wrap (1 + IntKind.i64.wrap ((IntKind.u64.wrap n).tmod 100000)) = N := by rw [← hN]; exact wi (by omega) (by omega)
    rw [eN, ← hoo]
    rw [← hoo] at ho
    have hN1 : 1 ≤ N ∧ N ≤ 100000 := by omega
    refine w_call (write_tri p (newS 0 1000 100000) i0.ok.bf N (by omega)) h fun r w h => ?_
    obtain ⟨_, h⟩ := h.purP
    obtain ⟨v1, hv1⟩ : ∃ v1, v1 = (writeS (newS 0 1000 100000) N).2 := ⟨_, rfl⟩
    have i1 : IvS 1 v1 := by rw [hv1]; exact i0.write (by decide) N
    have ew : v1 = { newS 0 1000 100000 with bf := (0 + N, 0, 0, 1073741824) } := by
      rw [hv1]; unfold writeS wrF
      rw [if_neg (by omega), if_neg (by show ¬ N > 1073741824 - (0 - 0); omega)]; rfl
    have hmy : (mayS v1).1 = 0 := fresh_may (by rw [ew]; rfl) (by rw [ew]; rfl) (by rw [ew]; rfl) (by rw [ew]; rfl) (by rw [ew]; rfl) (by rw [ew]; show 0 + N - 0 ≠ 0; omega)
    rw [← hv1] at h
    have u0 : U 0 := U_lit 0
    have h : Own w0 S R w (sck p v1 ^ emp) := h.fin
    refine w_loopE (fun (_ : Int) (v : Sk) => sck p v ^ emp) (fun (y : Int) v => (0 ≤ y ∧ y ≤ 60) ∧ IvS 1 v ∧ (y = 0 ∧ v = v1 ∨ 0 < v.out)) (fun (y : Int) _ => (60 - y).toNat) v1 h ⟨⟨by decide, by decide⟩, i1, .inl ⟨rfl, rfl⟩⟩ ?_
    rintro K (y : Int) v w ⟨hy, hi, hv⟩ h k
    have ho0 := hi.ok.out
    have ho1 := hi.o
    unfold U at ho0
    refine w_ite (fun c => ?_) fun c => ?_
    · have c : y < 60 := of_decide_eq_true c
      have hwi : IntKind.i64.wrap (y + 1) = y + 1 := wi (by omega) (by omega)
      refine w_call (emit_tri p v hi.ok (pcs_lost hi.pc) 0 u0) h fun r w h => ?_
      obtain ⟨_, h⟩ := h.purP
      have hpos : 0 < (emitS v 0).2.out := by
        by_cases he : (emitS v 0).1.2 = 0
        · have hw := emit_went hi u0 he
          have h1 := hw.n
          rw [hw.out]; omega
        · obtain ⟨_, hs, hc⟩ := emit_no he
          rw [hs.out]
          rcases hv with ⟨_, hv⟩ | hv
          · rw [hc, hv] at he; exact absurd hmy he
          · exact hv
      exact k (IntKind.i64.wrap (y + 1)) (emitS v 0).2 w (by rw [hwi]; exact ⟨⟨by omega, by omega⟩, hi.emit u0, .inr hpos⟩) h (by show (60 - IntKind.i64.wrap (y + 1)).toNat < (60 - y).toNat; rw [hwi]; omega)
    · have c : ¬ y < 60 := of_decide_eq_false c
      have hp : 0 < v.out := by
        rcases hv with ⟨hv, _⟩ | hv
        · omega
        · exact hv
      refine w_call (out_tri p v) h fun r w h => ?_
      obtain ⟨hr, h⟩ := h.purP; rw [hr]
      have e1 : IntKind.i64.wrap v.out = v.out := wi (by omega) (by omega)
      have e2 : IntKind.i64.wrap (IntKind.i64.wrap (v.out + 1) + o) = v.out + 1 + o := by rw [wi (n := v.out + 1) (by omega) (by omega)]; exact wi (by omega) (by omega)
      have e3 : IntKind.u64.wrap v.out = v.out := wu (by omega) (by omega)
      rw [e1, e2, e3]
      refine w_ite (fun _ => ?_) fun c => (by have := of_decide_eq_false c; omega)
      refine w_call (SockC.done_tri p v hi.ok.out (v.out + 1 + o) (by omega)) h fun r w h => ?_
      rw [done_no (v := v) (n := v.out + 1 + o) (.inr (by omega))] at h
      obtain ⟨hr, h⟩ := h.purP; rw [hr]
      refine w_ite (fun _ => ?_) fun c => (by cases c)
      refine w_call (SockC.done_tri p v hi.ok.out 0 (by omega)) h fun r w h => ?_
      rw [done_no (v := v) (n := 0) (.inl (by omega))] at h
      obtain ⟨hr, h⟩ := h.purP; rw [hr]
      refine w_ite (fun _ => ?_) fun c => (by cases c)
      refine w_call (SockC.done_tri p v hi.ok.out (-1) (by omega)) h fun r w h => ?_
      rw [done_no (v := v) (n := -1) (.inl (by omega))] at h
      obtain ⟨hr, h⟩ := h.purP; rw [hr]
      refine w_ite (fun _ => ?_) fun c => (by cases c)
      refine w_call (out_tri p v) h fun r w h => ?_
      obtain ⟨hr, h⟩ := h.purP; rw [hr]
      refine w_ite (fun _ => ?_) fun c => (by simp at c)
      refine w_call (SockC.done_tri p v hi.ok.out v.out (by omega)) h fun r w h => ?_
      rw [done_yes (v := v) (n := v.out) (by omega)] at h
      obtain ⟨hr, h⟩ := h.purP; rw [hr]
      refine w_ite (fun _ => ?_) fun c => (by cases c)
      have eo : v.out - v.out = 0 := by omega
      rw [eo] at h
      refine w_call (out_tri p { v with out := 0 }) h fun r w h => ?_
      obtain ⟨hr, h⟩ := h.purP; rw [hr]
      refine w_ite (fun _ => ?_) fun c => (by cases c)
      refine w_call (SockC.done_tri p { v with out := 0 } (U_lit 0) 1 (by omega)) h fun r w h => ?_
      rw [done_no (v := { v with out := 0 }) (n := 1) (.inr (by show (1:Int) > 0; decide))] at h
      obtain ⟨hr, h⟩ := h.purP; rw [hr]
      exact Own.retP rfl h.emp'
end SockR


end Go.X
