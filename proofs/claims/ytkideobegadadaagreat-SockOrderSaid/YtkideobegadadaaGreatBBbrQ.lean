/- Contracts and plain facts: BbrW BbrQ. -/
import Derived.Test.YtkideobegadadaaGreatBArith
import Derived.Test.YtkideobegadadaaGreatBWf
import Derived.Test.YtkideobegadadaaGreatBTarget
import Derived.Test.YtkideobegadadaaGreatBBbrMm
import Derived.Test.YtkideobegadadaaGreatBBbrP
import Derived.Test.YtkideobegadadaaGreatXw
import Derived.Test.YtkideobegadadaaGreatK
import Derived.Test.YtkideobegadadaaGreatF0
import Derived.Test.YtkideobegadadaaGreatF1
set_option linter.unusedVariables false
set_option linter.unusedSimpArgs false
set_option linter.unusedSectionVars false
namespace Go.X
open Go.Proofs
namespace BbrW
open Arith ArithC _root_.Go.X.Target BbrM BbrP
theorem U4 {w : Int} (h : U w) : IntKind.u64.wrap (w.tdiv 4) = w / 4 := by
  unfold U at h; rw [Int.tdiv_eq_ediv_of_nonneg h.1, wu (by omega) (by omega)]
theorem U2 {w : Int} (h : U w) : IntKind.u64.wrap (w.tdiv 2) = w / 2 := by
  unfold U at h; rw [Int.tdiv_eq_ediv_of_nonneg h.1, wu (by omega) (by omega)]
theorem maxupd_tri (b : Nat) (v : Wn) (hv : OkW v) (t x : Int) (ht : U t) (hx : U x) : Tri Tryz.prog N_winmax_Max_Update [.lf (.ptr (some ⟨b, 0⟩)), .lf (.int .u64 t), .lf (.int .u64 x)] [.lf (.int .u64)] (blk b [.int .u64 v.w, .int .u64 v.t0, .int .u64 v.v0, .int .u64 v.t1, .int .u64 v.v1, .int .u64 v.t2, .int .u64 v.v2, .int .u64 v.la])
    (fun r => pur (r = (wUpd v t x).v0) (blk b [.int .u64 (wUpd v t x).w, .int .u64 (wUpd v t x).t0, .int .u64 (wUpd v t x).v0, .int .u64 (wUpd v t x).t1, .int .u64 (wUpd v t x).v1, .int .u64 (wUpd v t x).t2, .int .u64 (wUpd v t x).v2, .int .u64 (wUpd v t x).la])) :=
  tri_0 (call_winmax_Max_Update _ t x) fun w0 S R h => by
    unfold W_winmax_Max_Update
    refine w_ite (fun c => (by cases c)) fun _ => ?_
    refine w_deref (w_ld h rfl (w_deref ?_))
    refine w_setTo h b [.int .u64 (v.tick t).w, .int .u64 (v.tick t).t0, .int .u64 (v.tick t).v0, .int .u64 (v.tick t).t1, .int .u64 (v.tick t).v1, .int .u64 (v.tick t).t2, .int .u64 (v.tick t).v2, .int .u64 (v.tick t).la] rfl rfl rfl fun w h => ?_
    have hu := hv.tick ht
    have e0 : wUpd v t x = wU (v.tick t) (v.tick t).la x := rfl
    rw [e0]
    generalize v.tick t = u at *
    refine w_deref (w_ld h rfl ?_)
    refine w_new h fun n w h => ?_
    refine w_setTo h n [.int .u64 u.la, .int .u64 x] rfl rfl rfl fun w h => ?_
    have h : Own w0 S R w (blk b [.int .u64 u.w, .int .u64 u.t0, .int .u64 u.v0, .int .u64 u.t1, .int .u64 u.v1, .int .u64 u.t2, .int .u64 u.v2, .int .u64 u.la] ^ blk n [.int .u64 u.la, .int .u64 x]) := h.fin
    refine w_join h (fun _ => blk b [.int .u64 u.w, .int .u64 u.t0, .int .u64 u.v0, .int .u64 u.t1, .int .u64 u.v1, .int .u64 u.t2, .int .u64 u.v2, .int .u64 u.la] ^ blk n [.int .u64 u.la, .int .u64 x]) (fun y : Bool => y = decide (x ≥ u.v0 ∨ far u.la u.t2 u.w)) (fun (y : Bool) w hy h => ?_) ?_
    · rw [hy]
      refine w_ite (fun c => ?_) fun c => ?_
      · have c : x ≥ u.v0 ∨ far u.la u.t2 u.w := by simpa using c
        refine w_ld h rfl ?_
        refine w_call (reset_tri b u u.la x) h fun r w h => ?_
        have e : wU u u.la x = u.all u.la x := by unfold wU; rw [if_pos c]
        rw [e]
        have e2 : u.tick u.la = u := by unfold Wn.tick; simp
        rw [e2] at h
        exact Own.retP rfl h.keep
      have c : ¬ (x ≥ u.v0 ∨ far u.la u.t2 u.w) := by simpa using c
      have e : wU u u.la x = wS2 (wS1 u u.la x) u.la x := by unfold wU; rw [if_neg c]
      rw [e]
      refine w_join h (fun _ => blk b [.int .u64 (wS1 u u.la x).w, .int .u64 (wS1 u u.la x).t0, .int .u64 (wS1 u u.la x).v0, .int .u64 (wS1 u u.la x).t1, .int .u64 (wS1 u u.la x).v1, .int .u64 (wS1 u u.la x).t2, .int .u64 (wS1 u u.la x).v2, .int .u64 (wS1 u u.la x).la] ^ blk n [.int .u64 u.la, .int .u64 x]) (fun _ => True) (fun _ w _ h => ?_) ?_
      · have hs := hu.wS1 hu.la hx
        have hT := hu.la
        generalize u.la = T at *
        generalize wS1 u T x = s at *
        refine w_join h (fun _ => blk b [.int .u64 (wS2 s T x).w, .int .u64 (wS2 s T x).t0, .int .u64 (wS2 s T x).v0, .int .u64 (wS2 s T x).t1, .int .u64 (wS2 s T x).v1, .int .u64 (wS2 s T x).t2, .int .u64 (wS2 s T x).v2, .int .u64 (wS2 s T x).la] ^ blk n [.int .u64 T, .int .u64 x]) (fun _ => True) (fun _ w _ h => ?_) ?_
        · refine w_deref ⟨by decide, w_ld h rfl ?_⟩
          exact Own.retP rfl h.keep
        refine w_drw h fun w h => w_ld h rfl (w_deref (w_deref ⟨by decide, w_ld h rfl (w_ld (x := (s.t0, s.v0)) h rfl ?_)⟩))
        refine w_call (near_tri T s.t0 s.v0 s.w hT hs.t0) h fun r w h => ?_
        obtain ⟨hr, h⟩ := h.purP
        rw [hr, Bool.not_not]
        refine w_ite (fun c1 => ?_) fun c1 => ?_
        · have c1 : far T s.t0 s.w := by simpa using c1
          refine w_ldAll (x := (T, x)) h rfl ?_
          refine w_call (push_tri b s T x) h fun r w h => ?_
          refine w_drw h fun w h => w_ld h rfl (w_deref (w_deref ⟨by decide, w_ld h rfl (w_ld (x := (s.t1, s.v1)) h rfl ?_)⟩))
          refine w_call (near_tri T s.t1 s.v1 s.w hT hs.t1) h fun r w h => ?_
          obtain ⟨hr, h⟩ := h.purP
          rw [hr, Bool.not_not]
          refine w_ite (fun c2 => ?_) fun c2 => ?_
          · have c2 : far T s.t1 s.w := by simpa using c2
            refine w_ldAll (x := (T, x)) h rfl ?_
            refine w_call (push_tri b (s.push T x) T x) h fun r w h => ?_
            have e : wS2 s T x = (s.push T x).push T x := by unfold wS2; rw [if_pos c1, if_pos c2]
            rw [e]
            exact ⟨trivial, h.fin⟩
          · have c2 : ¬ far T s.t1 s.w := by simpa using c2
            have e : wS2 s T x = s.push T x := by unfold wS2; rw [if_pos c1, if_neg c2]
            rw [e]
            exact ⟨trivial, h.fin⟩
        have c1 : ¬ far T s.t0 s.w := by simpa using c1
        have hf : ∀ k, (wS2 s T x = k) = ((if s.t1 = s.t0 ∧ far T s.t0 (s.w / 4) then s.s12 T x else if s.t2 = s.t1 ∧ far T s.t0 (s.w / 2) then s.s2 T x else s) = k) := fun k => by unfold wS2; rw [if_neg c1]
        refine w_join h (fun _ => blk b [.int .u64 s.w, .int .u64 s.t0, .int .u64 s.v0, .int .u64 s.t1, .int .u64 s.v1, .int .u64 s.t2, .int .u64 s.v2, .int .u64 s.la] ^ blk n [.int .u64 T, .int .u64 x]) (fun y : Bool => y = decide (s.t1 = s.t0 ∧ far T s.t0 (s.w / 4))) (fun (y : Bool) w hy h => ?_) ?_
        · rw [hy]
          refine w_ite (fun c2 => ?_) fun c2 => ?_
          · have c2 : s.t1 = s.t0 ∧ far T s.t0 (s.w / 4) := by simpa using c2
            refine w_ldAll (x := (T, x)) h rfl ?_
            refine w_call (all_tri b s 1 T x (.inr (.inl rfl))) h fun r w h => ?_
            have e : wS2 s T x = s.s12 T x := by rw [hf, if_pos c2]
            rw [e]
            have h : Own w0 S R w (blk b [.int .u64 (s.s12 T x).w, .int .u64 (s.s12 T x).t0, .int .u64 (s.s12 T x).v0, .int .u64 (s.s12 T x).t1, .int .u64 (s.s12 T x).v1, .int .u64 (s.s12 T x).t2, .int .u64 (s.s12 T x).v2, .int .u64 (s.s12 T x).la] ^ blk n [.int .u64 T, .int .u64 x]) := h
            exact ⟨trivial, h⟩
          have c2 : ¬ (s.t1 = s.t0 ∧ far T s.t0 (s.w / 4)) := by simpa using c2
          refine w_join h (fun _ => blk b [.int .u64 s.w, .int .u64 s.t0, .int .u64 s.v0, .int .u64 s.t1, .int .u64 s.v1, .int .u64 s.t2, .int .u64 s.v2, .int .u64 s.la] ^ blk n [.int .u64 T, .int .u64 x]) (fun y : Bool => y = decide (s.t2 = s.t1 ∧ far T s.t0 (s.w / 2))) (fun (y : Bool) w hy h => ?_) ?_
          · rw [hy]
            refine w_ite (fun c3 => ?_) fun c3 => ?_
            · have c3 : s.t2 = s.t1 ∧ far T s.t0 (s.w / 2) := by simpa using c3
              refine w_ldAll (x := (T, x)) h rfl ?_
              refine w_call (all_tri b s 2 T x (.inr (.inr rfl))) h fun r w h => ?_
              have e : wS2 s T x = s.s2 T x := by rw [hf, if_neg c2, if_pos c3]
              rw [e]
              have h : Own w0 S R w (blk b [.int .u64 (s.s2 T x).w, .int .u64 (s.s2 T x).t0, .int .u64 (s.s2 T x).v0, .int .u64 (s.s2 T x).t1, .int .u64 (s.s2 T x).v1, .int .u64 (s.s2 T x).t2, .int .u64 (s.s2 T x).v2, .int .u64 (s.s2 T x).la] ^ blk n [.int .u64 T, .int .u64 x]) := h
              exact ⟨trivial, h⟩
            · have c3 : ¬ (s.t2 = s.t1 ∧ far T s.t0 (s.w / 2)) := by simpa using c3
              have e : wS2 s T x = s := by rw [hf, if_neg c2, if_neg c3]
              rw [e]
              exact ⟨trivial, h.fin⟩
          · refine w_drw h fun w h => w_deref (w_deref ⟨by decide, by decide, w_ld h rfl (w_ld h rfl ?_)⟩)
            refine w_ite (fun c3 => ?_) fun c3 => ?_
            · have c3 : s.t2 = s.t1 := by simpa using c3
              refine w_ld h rfl (w_deref (w_deref ⟨by decide, w_ld h rfl (w_ld (x := (s.t0, s.v0)) h rfl ?_)⟩))
              rw [U2 hs.w]
              refine w_call (near_tri T s.t0 s.v0 (s.w / 2) hT hs.t0) h fun r w h => ?_
              obtain ⟨hr, h⟩ := h.purP
              exact ⟨by rw [hr, Bool.not_not]; simp [c3], h.fin⟩
            · have c3 : ¬ s.t2 = s.t1 := by simpa using c3
              exact ⟨by simp [c3], h.fin⟩
        · refine w_drw h fun w h => w_deref (w_deref ⟨by decide, by decide, w_ld h rfl (w_ld h rfl ?_)⟩)
          refine w_ite (fun c3 => ?_) fun c3 => ?_
          · have c3 : s.t1 = s.t0 := by simpa using c3
            refine w_ld h rfl (w_deref (w_deref ⟨by decide, w_ld h rfl (w_ld (x := (s.t0, s.v0)) h rfl ?_)⟩))
            rw [U4 hs.w]
            refine w_call (near_tri T s.t0 s.v0 (s.w / 4) hT hs.t0) h fun r w h => ?_
            obtain ⟨hr, h⟩ := h.purP
            exact ⟨by rw [hr, Bool.not_not]; simp [c3], h.fin⟩
          · have c3 : ¬ s.t1 = s.t0 := by simpa using c3
            exact ⟨by simp [c3], h.fin⟩
      · refine w_loop (fun _ : Int => blk b [.int .u64 u.w, .int .u64 u.t0, .int .u64 u.v0, .int .u64 u.t1, .int .u64 u.v1, .int .u64 u.t2, .int .u64 u.v2, .int .u64 u.la] ^ blk n [.int .u64 u.la, .int .u64 x]) (fun i : Int => (0 ≤ i ∧ i ≤ 3) ∧ (i ≥ 2 → ¬ x ≥ u.v1) ∧ (i ≥ 3 → ¬ x ≥ u.v2)) (fun i : Int => 3 - i.toNat) h ⟨⟨by simp, by simp⟩, by simp, by simp⟩ ?_
        rintro (i : Int) w ⟨⟨h0, h1⟩, h2, h3⟩ h
        refine w_ite (fun c => ?_) fun c => ?_
        · have c : i < 3 := by simpa using c
          have hi : i = 0 ∨ i = 1 ∨ i = 2 := by omega
          refine w_join h (fun _ => blk b [.int .u64 u.w, .int .u64 u.t0, .int .u64 u.v0, .int .u64 u.t1, .int .u64 u.v1, .int .u64 u.t2, .int .u64 u.v2, .int .u64 u.la] ^ blk n [.int .u64 u.la, .int .u64 x]) (fun y : Bool => y = (decide (i = 1 ∧ x ≥ u.v1) || decide (i = 2 ∧ x ≥ u.v2))) (fun (y : Bool) w hy h => ?_) ?_
          · rw [hy]
            refine w_ite (fun c2 => ?_) fun c2 => ?_
            · refine w_ldAll (x := (u.la, x)) h rfl ?_
              refine w_call (all_tri b u i u.la x hi) h fun r w h => ?_
              have c2 : (i = 1 ∧ x ≥ u.v1) ∨ (i = 2 ∧ x ≥ u.v2) := by simpa using c2
              have e : wS1 u u.la x = if i = 0 then u.all u.la x else if i = 1 then u.s12 u.la x else u.s2 u.la x := by
                unfold wS1
                rcases c2 with ⟨rfl, cc⟩ | ⟨rfl, cc⟩
                · rw [if_pos cc]; rfl
                · rw [if_neg (h2 (by omega)), if_pos cc]; rfl
              rw [e]
              exact ⟨trivial, h.fin⟩
            · have c2 : ¬ ((i = 1 ∧ x ≥ u.v1) ∨ (i = 2 ∧ x ≥ u.v2)) := by simpa using c2
              rw [wi (n := i + 1) (by omega) (by omega)]
              refine ⟨⟨⟨⟨by omega, by omega⟩, fun hh => ?_, fun hh => ?_⟩, h⟩, by omega⟩
              · by_cases hi1 : i = 1
                · intro hx1; exact c2 (.inl ⟨hi1, hx1⟩)
                · exact h2 (by omega)
              · intro hx1; exact c2 (.inr ⟨by omega, hx1⟩)
          · refine w_ite (fun c2 => ?_) fun c2 => ?_
            · have c2 : i > 0 := by simpa using c2
              refine w_deref ⟨⟨h0, c⟩, ?_⟩
              have hi : i = 1 ∨ i = 2 := by omega
              rcases hi with rfl | rfl
              · exact w_ld h rfl ⟨by simp, h⟩
              · exact w_ld h rfl ⟨by simp, h⟩
            · have c2 : i = 0 := by have : ¬ i > 0 := by simpa using c2
                                    omega
              exact ⟨by simp [c2], h⟩
        · have c : i = 3 := by have : ¬ i < 3 := by simpa using c
                               omega
          have e : wS1 u u.la x = u := by unfold wS1; rw [if_neg (h2 (by omega)), if_neg (h3 (by omega))]
          rw [e]
          exact ⟨trivial, h⟩
    · refine w_drw h fun w h => w_deref ⟨by decide, w_ld h rfl ?_⟩
      refine w_ite (fun c => ?_) fun c => ?_
      · have c : x ≥ u.v0 := by simpa using c
        exact ⟨by simp [c], h⟩
      · have c : ¬ x ≥ u.v0 := by simpa using c
        refine w_ld h rfl (w_deref (w_deref ⟨by decide, w_ld h rfl (w_ld (x := (u.t2, u.v2)) h rfl ?_)⟩))
        refine w_call (near_tri u.la u.t2 u.v2 u.w hu.la hu.t2) h fun r w h => ?_
        obtain ⟨hr, h⟩ := h.purP
        exact ⟨by rw [hr, Bool.not_not]; simp [c], h.fin⟩
end BbrW

namespace BbrQ
open Arith ArithC _root_.Go.X.Target BbrM
theorem rnew_tri : Tri Tryz.prog N_rounds_New [] [.lf .ptr] emp (fun r => ex fun n : Nat => pur (r = some ⟨n, 0⟩) (blk n [.int .u64 (Rnd.mk 0 0).n, .int .u64 (Rnd.mk 0 0).nx])) :=
  tri_0 call_rounds_New fun w0 S R h => by
    unfold W_rounds_New
    refine w_new h fun n w h => ?_
    exact Own.retE n (Own.retP rfl h.fin)
theorem pnew_tri : Tri Tryz.prog N_pipe_New [] [.lf .ptr] emp (fun r => ex fun n : Nat => pur (r = some ⟨n, 0⟩) (blk n [.int .u64 (Pp.mk 0 0 false).best, .int .i64 (Pp.mk 0 0 false).n, .bool (Pp.mk 0 0 false).full])) :=
  tri_0 call_pipe_New fun w0 S R h => by
    unfold W_pipe_New
    refine w_new h fun n w h => ?_
    exact Own.retE n (Own.retP rfl h.fin)
theorem cnew_tri : Tri Tryz.prog N_cycle_New [] [.lf .ptr] emp (fun r => ex fun n : Nat => pur (r = some ⟨n, 0⟩) (blk n [.int .i64 (Cy.mk 0 0).ph, .int .u64 (Cy.mk 0 0).at'])) :=
  tri_0 call_cycle_New fun w0 S R h => by
    unfold W_cycle_New
    refine w_new h fun n w h => ?_
    exact Own.retE n (Own.retP rfl h.fin)
theorem bnew_tri : Tri Tryz.prog N_probe_New [] [.lf .ptr] emp (fun r => ex fun n : Nat => pur (r = some ⟨n, 0⟩) (blk n [.int .u64 (Pb.mk 0 0 false 0 false).best, .int .u64 (Pb.mk 0 0 false 0 false).at', .bool (Pb.mk 0 0 false 0 false).on, .int .u64 (Pb.mk 0 0 false 0 false).til, .bool (Pb.mk 0 0 false 0 false).rd])) :=
  tri_0 call_probe_New fun w0 S R h => by
    unfold W_probe_New
    refine w_new h fun n w h => ?_
    exact Own.retE n (Own.retP rfl h.fin)
theorem lnew_tri : Tri Tryz.prog N_policer_New [] [.lf .ptr] emp (fun r => ex fun n : Nat => pur (r = some ⟨n, 0⟩) (blk n [.bool (Pl.mk false false 0 0 0 0 0 0).use, .bool (Pl.mk false false 0 0 0 0 0 0).mea, .int .u64 (Pl.mk false false 0 0 0 0 0 0).bw, .int .i64 (Pl.mk false false 0 0 0 0 0 0).n, .int .u64 (Pl.mk false false 0 0 0 0 0 0).lost, .int .u64 (Pl.mk false false 0 0 0 0 0 0).t0, .int .u64 (Pl.mk false false 0 0 0 0 0 0).d0, .int .u64 (Pl.mk false false 0 0 0 0 0 0).l0])) :=
  tri_0 call_policer_New fun w0 S R h => by
    unfold W_policer_New
    refine w_new h fun n w h => ?_
    exact Own.retE n (Own.retP rfl h.fin)
theorem count_tri (b : Nat) (r : Rnd) : Tri Tryz.prog N_rounds_Rounds_Count [.lf (.ptr (some ⟨b, 0⟩))] [.lf (.int .u64)] (blk b [.int .u64 r.n, .int .u64 r.nx]) (fun x => pur (x = r.n) (blk b [.int .u64 r.n, .int .u64 r.nx])) :=
  tri_0 (call_rounds_Rounds_Count _) fun w0 S R h => by
    unfold W_rounds_Rounds_Count
    refine w_ite (fun c => (by cases c)) fun _ => w_deref (w_ld h rfl ?_)
    exact Own.retP rfl h.fin
theorem phase_tri (b : Nat) (c : Cy) : Tri Tryz.prog N_cycle_Cycle_Phase [.lf (.ptr (some ⟨b, 0⟩))] [.lf (.int .i64)] (blk b [.int .i64 c.ph, .int .u64 c.at']) (fun x => pur (x = c.ph) (blk b [.int .i64 c.ph, .int .u64 c.at'])) :=
  tri_0 (call_cycle_Cycle_Phase _) fun w0 S R h => by
    unfold W_cycle_Cycle_Phase
    refine w_ite (fun c => (by cases c)) fun _ => w_deref (w_ld h rfl ?_)
    exact Own.retP rfl h.fin
theorem full_tri (b : Nat) (p : Pp) : Tri Tryz.prog N_pipe_Pipe_Full [.lf (.ptr (some ⟨b, 0⟩))] [.lf .bool] (blk b [.int .u64 p.best, .int .i64 p.n, .bool p.full]) (fun x => pur (x = p.full) (blk b [.int .u64 p.best, .int .i64 p.n, .bool p.full])) :=
  tri_0 (call_pipe_Pipe_Full _) fun w0 S R h => by
    unfold W_pipe_Pipe_Full
    refine w_ite (fun _ => w_deref (w_ld h rfl ?_)) fun c => (by cases c)
    exact Own.retP rfl h.fin
theorem bbest_tri (b : Nat) (v : Pb) : Tri Tryz.prog N_probe_Probe_Best [.lf (.ptr (some ⟨b, 0⟩))] [.lf (.int .u64)] (blk b [.int .u64 v.best, .int .u64 v.at', .bool v.on, .int .u64 v.til, .bool v.rd]) (fun x => pur (x = v.best) (blk b [.int .u64 v.best, .int .u64 v.at', .bool v.on, .int .u64 v.til, .bool v.rd])) :=
  tri_0 (call_probe_Probe_Best _) fun w0 S R h => by
    unfold W_probe_Probe_Best
    refine w_ite (fun c => (by cases c)) fun _ => w_deref (w_ld h rfl ?_)
    exact Own.retP rfl h.fin
theorem gain_tri (b : Nat) (c : Cy) : Tri Tryz.prog N_cycle_Cycle_Gain [.lf (.ptr (some ⟨b, 0⟩))] [.lf (.int .u64)] (blk b [.int .i64 c.ph, .int .u64 c.at']) (fun x => pur (x = cG c) (blk b [.int .i64 c.ph, .int .u64 c.at'])) :=
  tri_0 (call_cycle_Cycle_Gain _) fun w0 S R h => by
    unfold W_cycle_Cycle_Gain
    refine w_ite (fun _ => w_deref (w_ld h rfl ?_)) fun c => (by cases c)
    refine w_ite (fun c1 => ?_) fun c1 => ?_
    · exact Own.retP (by unfold cG; rw [if_pos (by simpa using c1)]) h.fin
    refine w_ite (fun c2 => ?_) fun c2 => ?_
    · exact Own.retP (by unfold cG; rw [if_neg (by simpa using c1), if_pos (by simpa using c2)]) h.fin
    · exact Own.retP (by unfold cG; rw [if_neg (by simpa using c1), if_neg (by simpa using c2)]) h.fin
theorem luse_tri (b : Nat) (q : Pl) : Tri Tryz.prog N_policer_Policer_Use [.lf (.ptr (some ⟨b, 0⟩))] [.lf (.int .u64), .lf .bool] (blk b [.bool q.use, .bool q.mea, .int .u64 q.bw, .int .i64 q.n, .int .u64 q.lost, .int .u64 q.t0, .int .u64 q.d0, .int .u64 q.l0]) (fun x => pur (x = (if q.use then q.bw else 0, q.use)) (blk b [.bool q.use, .bool q.mea, .int .u64 q.bw, .int .i64 q.n, .int .u64 q.lost, .int .u64 q.t0, .int .u64 q.d0, .int .u64 q.l0])) :=
  tri_0 (call_policer_Policer_Use _) fun w0 S R h => by
    unfold W_policer_Policer_Use
    refine w_join h (fun _ => blk b [.bool q.use, .bool q.mea, .int .u64 q.bw, .int .i64 q.n, .int .u64 q.lost, .int .u64 q.t0, .int .u64 q.d0, .int .u64 q.l0]) (fun _ => q.use = true) (fun _ w hu h => ?_) ?_
    · refine w_deref (w_ld h rfl ?_)
      exact Own.retP (by rw [hu]; rfl) h
    · refine w_ite (fun c => (by cases c)) fun _ => w_deref (w_ld h rfl ?_)
      refine w_ite (fun c => ?_) fun c => ?_
      · have c : q.use = false := by simpa using c
        exact Own.retP (by rw [c]; rfl) h
      · exact ⟨by simpa using c, h⟩
theorem rupd_tri (b : Nat) (r : Rnd) (s : Sm) : Tri Tryz.prog N_rounds_Rounds_Update [.lf (.ptr (some ⟨b, 0⟩)), .agg (Ks.mk K_u8b s)] [.lf .bool] (blk b [.int .u64 r.n, .int .u64 r.nx]) (fun x => pur (x = rB r s) (blk b [.int .u64 (rU r s).n, .int .u64 (rU r s).nx])) :=
  tri_0 (call_rounds_Rounds_Update _ _) fun w0 S R h => by
    unfold W_rounds_Rounds_Update
    refine w_new h fun n w h => ?_
    refine w_loop (fun _ : Bool => blk n (Ks.mk K_u8b s) ^ blk b [.int .u64 r.n, .int .u64 r.nx]) (fun y : Bool => y = false) (fun _ => 0) h rfl ?_
    rintro (y : Bool) w hy h
    rw [hy]
    refine w_join h (fun _ => blk n (Ks.mk K_u8b s) ^ blk b [.int .u64 r.n, .int .u64 r.nx]) (fun _ => sAck s > 0) (fun _ w c1 h => ?_) ?_
    · refine w_drw h fun w h => w_ld h rfl (w_deref (w_ld h rfl ?_))
      refine w_ite (fun c2 => ?_) fun c2 => ?_
      · have e : rB r s = false := by unfold rB; simp at c2 ⊢; intro _; exact c2
        have e2 : rU r s = r := by unfold rU; rw [e]; rfl
        rw [e2]
        exact Own.retP e.symm h.fin
      · have e : rB r s = true := by unfold rB; simp at c2 ⊢; exact ⟨c1, c2⟩
        have e2 : rU r s = ⟨IntKind.u64.wrap (r.n + 1), sDel s⟩ := by unfold rU; rw [e]; rfl
        rw [e2]
        refine w_ld h rfl (w_deref ?_)
        refine w_setTo h b [.int .u64 r.n, .int .u64 (sDel s)] rfl rfl rfl fun w h => ?_
        refine w_deref (w_ld h rfl (w_deref ?_))
        refine w_setTo h b [.int .u64 (IntKind.u64.wrap (r.n + 1)), .int .u64 (sDel s)] rfl rfl rfl fun w h => ?_
        exact Own.retP e.symm h.fin
    · refine w_ite (fun _ => w_ld h rfl ?_) fun c => (by cases c)
      refine w_ite (fun c => ?_) fun c => ?_
      · exact ⟨by simpa using c, h⟩
      · have e : rB r s = false := by unfold rB; rw [show decide (sAck s > 0) = false from c]; rfl
        have e2 : rU r s = r := by unfold rU; rw [e]; rfl
        rw [e2]
        exact Own.retP e.symm h.fin
theorem pupd_tri (b : Nat) (p : Pp) (hp : OkP p) (a l : Bool) (bw : Int) (hb : U bw) : Tri Tryz.prog N_pipe_Pipe_Update [.lf (.ptr (some ⟨b, 0⟩)), .lf (.bool a), .lf (.bool l), .lf (.int .u64 bw)] [.lf .bool] (blk b [.int .u64 p.best, .int .i64 p.n, .bool p.full]) (fun x => pur (x = (pU p a l bw).full) (blk b [.int .u64 (pU p a l bw).best, .int .i64 (pU p a l bw).n, .bool (pU p a l bw).full])) :=
  tri_0 (call_pipe_Pipe_Update _ _ _ _) fun w0 S R h => by
    unfold W_pipe_Pipe_Update
    refine w_join h (fun _ => blk b [.int .u64 (pU p a l bw).best, .int .i64 (pU p a l bw).n, .bool (pU p a l bw).full]) (fun _ => True) (fun _ w _ h => ?_) ?_
    · refine w_call (full_tri b (pU p a l bw)) h fun r w h => ?_
      obtain ⟨hr, h⟩ := h.purP
      exact Own.retP hr h.fin
    refine w_loop (fun _ : Unit => blk b [.int .u64 p.best, .int .i64 p.n, .bool p.full]) (fun _ : Unit => True) (fun _ => 0) h trivial ?_
    rintro _ w _ h
    refine w_join h (fun _ => blk b [.int .u64 p.best, .int .i64 p.n, .bool p.full]) (fun _ => (!p.full && a && !l) = true) (fun _ w c h => ?_) ?_
    · refine w_deref (w_ld h rfl ?_)
      refine w_call (md_tri p.best 320 256 hp.best (U_lit _) (U_lit _)) h fun r w h => ?_
      obtain ⟨hr, h⟩ := h.purP
      rw [hr]
      refine w_ite (fun c2 => ?_) fun c2 => ?_
      · have c2 : bw ≥ mdI p.best 320 256 := by simpa using c2
        have e : pU p a l bw = ⟨bw, 0, p.full⟩ := by unfold pU; rw [if_pos c, if_pos c2]
        rw [e]
        refine w_deref (w_setTo h b [.int .u64 bw, .int .i64 p.n, .bool p.full] rfl rfl rfl fun w h => ?_)
        refine w_deref (w_setTo h b [.int .u64 bw, .int .i64 0, .bool p.full] rfl rfl rfl fun w h => ?_)
        exact ⟨trivial, h.fin⟩
      · have c2 : ¬ bw ≥ mdI p.best 320 256 := by simpa using c2
        have e : pU p a l bw = ⟨p.best, p.n + 1, decide (p.n + 1 = 3)⟩ := by unfold pU; rw [if_pos c, if_neg c2]
        rw [e]
        have hn := hp.n
        refine w_deref (w_ld h rfl (w_deref ?_))
        rw [wi (n := p.n + 1) (by omega) (by omega)]
        refine w_setTo h b [.int .u64 p.best, .int .i64 (p.n + 1), .bool p.full] rfl rfl rfl fun w h => ?_
        refine w_deref (w_ld h rfl (w_deref ?_))
        refine w_setTo h b [.int .u64 p.best, .int .i64 (p.n + 1), .bool (decide (p.n + 1 = 3))] rfl rfl rfl fun w h => ?_
        exact ⟨trivial, h.fin⟩
    · refine w_ite (fun _ => w_deref (w_ld h rfl ?_)) fun c => (by cases c)
      refine w_ite (fun c => ?_) fun c => ?_
      · exact ⟨c, h⟩
      · have e : pU p a l bw = p := by unfold pU; rw [if_neg (by rw [c]; simp)]
        rw [e]
        exact ⟨trivial, h⟩
theorem ph8 {ph : Int} (h0 : 0 ≤ ph) (h1 : ph ≤ 1000) : (IntKind.i64.wrap (ph.tmod 8 + 8)).tmod 8 = ph % 8 := by
  rw [Int.tmod_eq_emod_of_nonneg h0, wi (by omega) (by omega), Int.tmod_eq_emod_of_nonneg (by omega)]; omega
theorem cst_tri (b : Nat) (c : Cy) (now ph : Int) (h0 : 0 ≤ ph) (h1 : ph ≤ 1000) : Tri Tryz.prog N_cycle_Cycle_Start [.lf (.ptr (some ⟨b, 0⟩)), .lf (.int .u64 now), .lf (.int .i64 ph)] [] (blk b [.int .i64 c.ph, .int .u64 c.at']) (fun _ => blk b [.int .i64 (cSt now ph).ph, .int .u64 (cSt now ph).at']) :=
  tri_0 (call_cycle_Cycle_Start _ _ _) fun w0 S R h => by
    unfold W_cycle_Cycle_Start
    refine w_ite (fun _ => ?_) fun c => (by cases c)
    rw [ph8 h0 h1]
    refine w_deref (w_setTo h b [.int .i64 (ph % 8), .int .u64 c.at'] rfl rfl rfl fun w h => ?_)
    refine w_deref (w_setTo h b [.int .i64 (ph % 8), .int .u64 now] rfl rfl rfl fun w h => ?_)
    exact Own.keep (A := blk b [.int .i64 (cSt now ph).ph, .int .u64 (cSt now ph).at']) h
def cE (c : Cy) (over : Bool) (lost fl up one : Int) : Bool := if c.ph = 0 then over && (decide (lost > 0) || decide (fl ≥ up)) else if c.ph = 1 then over || decide (fl ≤ one) else over
theorem cE_B (c : Cy) (now rtt lost fl up one : Int) : cE c (decide (subI now c.at' > rtt)) lost fl up one = cB c now rtt lost fl up one := rfl
theorem cends_tri (b : Nat) (c : Cy) (over : Bool) (lost fl up one : Int) : Tri Tryz.prog N_cycle_Cycle_ends [.lf (.ptr (some ⟨b, 0⟩)), .lf (.bool over), .lf (.int .u64 lost), .lf (.int .u64 fl), .lf (.int .u64 up), .lf (.int .u64 one)] [.lf .bool] (blk b [.int .i64 c.ph, .int .u64 c.at']) (fun x => pur (x = cE c over lost fl up one) (blk b [.int .i64 c.ph, .int .u64 c.at'])) :=
  tri_0 (call_cycle_Cycle_ends _ _ _ _ _ _) fun w0 S R h => by
    unfold W_cycle_Cycle_ends
    refine w_deref (w_ld h rfl ?_)
    refine w_ite (fun c1 => ?_) fun c1 => ?_
    · exact Own.retP (by unfold cE; rw [if_pos (by simpa using c1)]) h.fin
    refine w_ite (fun c2 => ?_) fun c2 => ?_
    · exact Own.retP (by unfold cE; rw [if_neg (by simpa using c1), if_pos (by simpa using c2)]) h.fin
    · exact Own.retP (by unfold cE; rw [if_neg (by simpa using c1), if_neg (by simpa using c2)]) h.fin
theorem cupd_tri (b : Nat) (c : Cy) (hc : OkC c) (now rtt lost fl up one : Int) (hn : U now) : Tri Tryz.prog N_cycle_Cycle_Update [.lf (.ptr (some ⟨b, 0⟩)), .lf (.int .u64 now), .lf (.int .u64 rtt), .lf (.int .u64 lost), .lf (.int .u64 fl), .lf (.int .u64 up), .lf (.int .u64 one)] [.lf .bool] (blk b [.int .i64 c.ph, .int .u64 c.at']) (fun x => blk b [.int .i64 (cU c now rtt lost fl up one).ph, .int .u64 (cU c now rtt lost fl up one).at']) :=
  tri_0 (call_cycle_Cycle_Update _ _ _ _ _ _ _) fun w0 S R h => by
    unfold W_cycle_Cycle_Update
    refine w_loop (fun _ : Bool => blk b [.int .i64 c.ph, .int .u64 c.at']) (fun _ : Bool => True) (fun _ => 0) h trivial ?_
    rintro _ w _ h
    refine w_join h (fun _ => blk b [.int .i64 c.ph, .int .u64 c.at']) (fun _ => cB c now rtt lost fl up one = true) (fun _ w c1 h => ?_) ?_
    · have hp := hc.ph
      refine w_deref (w_ld h rfl ?_)
      rw [wi (n := c.ph + 1) (by omega) (by omega)]
      refine w_call (cst_tri b c now (c.ph + 1) (by omega) (by omega)) (h.le (star_emp _)) fun r w h => ?_
      have e : cU c now rtt lost fl up one = cSt now (c.ph + 1) := by unfold cU; rw [if_pos c1]
      rw [e]
      exact h.keep
    · refine w_ite (fun _ => w_deref (w_ld h rfl ?_)) fun c => (by cases c)
      refine w_call (satsub_tri now c.at' hn hc.at') h fun r w h => ?_
      obtain ⟨hr, h⟩ := h.purP
      rw [hr]
      refine w_call (cends_tri b c _ lost fl up one) h fun r w h => ?_
      obtain ⟨hr, h⟩ := h.purP
      rw [hr, cE_B]
      refine w_ite (fun c1 => ?_) fun c1 => ?_
      · exact ⟨c1, h.fin⟩
      · have e : cU c now rtt lost fl up one = c := by unfold cU; rw [c1]; rfl
        rw [e]
        exact h.fin
end BbrQ


end Go.X
