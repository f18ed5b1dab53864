/- Contracts and plain facts: BbrW BbrQ BbrL BbrN BbrO. -/
import Derived.Test.YtniflenfpbbikaaGreatDoorB0
import Derived.Test.YtniflenfpbbikaaGreatDoorB1
import Derived.Test.YtniflenfpbbikaaGreatDoorB4
import Derived.Test.YtniflenfpbbikaaGreatDoorK
import Derived.Test.YtniflenfpbbikaaGreatDoorF0
import Derived.Test.YtniflenfpbbikaaGreatDoorF1
import Derived.Test.YtniflenfpbbikaaGreatDoorF2
set_option linter.unusedVariables false
set_option linter.unusedSimpArgs false
set_option linter.unusedSectionVars false
namespace Go.X
open Go.Proofs
namespace BbrW
open Arith ArithC _root_.Go.X.Target BbrM BbrP
theorem U4 {w:Int} (h:U w):IntKind.u64.wrap (w.tdiv 4)=w / 4:=by
 unfold U at h;rw [Int.tdiv_eq_ediv_of_nonneg h.1,wu (by omega) (by omega)]
theorem U2 {w:Int} (h:U w):IntKind.u64.wrap (w.tdiv 2)=w / 2:=by
 unfold U at h;rw [Int.tdiv_eq_ediv_of_nonneg h.1,wu (by omega) (by omega)]
theorem maxupd_tri (b : Nat) (v : Wn) (hv : OkW v) (t x : Int) (ht : U t) (hx : U x) : Tri Tryz.prog N_winmax_Max_Update [.lf (.ptr (some ⟨b, 0⟩)), .lf (.int .u64 t), .lf (.int .u64 x)] [.lf (.int .u64)] (blk b (BbrLs.lsW v))
    (fun r => pur (r = (wUpd v t x).v0) (blk b (BbrLs.lsW ((wUpd v t x))))) :=
  tri_0 (call_winmax_Max_Update _ t x) fun w0 S R h => by
    unfold W_winmax_Max_Update
    refine w_ite (fun c => (by cases c)) fun _ => ?_
    refine w_deref (w_ld h rfl (w_deref ?_))
    refine w_setTo h b (BbrLs.lsW ((v.tick t))) rfl rfl rfl fun w h => ?_
    have hu := hv.tick ht
    have e0 : wUpd v t x = wU (v.tick t) (v.tick t).la x := rfl
    rw [e0]
    generalize v.tick t = u at *
    refine w_deref (w_ld h rfl ?_)
    refine w_new h fun n w h => ?_
    refine w_setTo h n [.int .u64 u.la, .int .u64 x] rfl rfl rfl fun w h => ?_
    have h : Own w0 S R w (blk b (BbrLs.lsW u) ^ blk n [.int .u64 u.la, .int .u64 x]) := h.fin
    refine w_join h (fun _ => blk b (BbrLs.lsW u) ^ blk n [.int .u64 u.la, .int .u64 x]) (fun y : Bool => y = decide (x ≥ u.v0 ∨ far u.la u.t2 u.w)) (fun (y : Bool) w hy h => ?_) ?_
    · rw [hy]
      refine w_ite (fun c => ?_) fun c => ?_
      · have c : x ≥ u.v0 ∨ far u.la u.t2 u.w := by simpa using c
        refine w_ld h rfl ?_
        refine w_call (reset_tri b u u.la x) h fun r w h => ?_
        have e : wU u u.la x = u.all u.la x := by unfold wU; rw [if_pos c]
        rw [e]
        have e2 : u.tick u.la = u := by unfold Wn.tick; simp
        rw [e2] at h
        exact Own.retP rfl h.keep
      have c : ¬ (x ≥ u.v0 ∨ far u.la u.t2 u.w) := by simpa using c
      have e : wU u u.la x = wS2 (wS1 u u.la x) u.la x := by unfold wU; rw [if_neg c]
      rw [e]
      refine w_join h (fun _ => blk b (BbrLs.lsW ((wS1 u u.la x))) ^ blk n [.int .u64 u.la, .int .u64 x]) (fun _ => True) (fun _ w _ h => ?_) ?_
      · have hs := hu.wS1 hu.la hx
        have hT := hu.la
        generalize u.la = T at *
        generalize wS1 u T x = s at *
        refine w_join h (fun _ => blk b (BbrLs.lsW ((wS2 s T x))) ^ blk n [.int .u64 T, .int .u64 x]) (fun _ => True) (fun _ w _ h => ?_) ?_
        · refine w_deref ⟨by decide, w_ld h rfl ?_⟩
          exact Own.retP rfl h.keep
        refine w_drw h fun w h => w_ld h rfl (w_deref (w_deref ⟨by decide, w_ld h rfl (w_ld (x := (s.t0, s.v0)) h rfl ?_)⟩))
        refine w_call (near_tri T s.t0 s.v0 s.w hT hs.t0) h fun r w h => ?_
        obtain ⟨hr, h⟩ := h.purP
        rw [hr, Bool.not_not]
        refine w_ite (fun c1 => ?_) fun c1 => ?_
        · have c1 : far T s.t0 s.w := by simpa using c1
          refine w_ldAll (x := (T, x)) h rfl ?_
          refine w_call (push_tri b s T x) h fun r w h => ?_
          refine w_drw h fun w h => w_ld h rfl (w_deref (w_deref ⟨by decide, w_ld h rfl (w_ld (x := (s.t1, s.v1)) h rfl ?_)⟩))
          refine w_call (near_tri T s.t1 s.v1 s.w hT hs.t1) h fun r w h => ?_
          obtain ⟨hr, h⟩ := h.purP
          rw [hr, Bool.not_not]
          refine w_ite (fun c2 => ?_) fun c2 => ?_
          · have c2 : far T s.t1 s.w := by simpa using c2
            refine w_ldAll (x := (T, x)) h rfl ?_
            refine w_call (push_tri b (s.push T x) T x) h fun r w h => ?_
            have e : wS2 s T x = (s.push T x).push T x := by unfold wS2; rw [if_pos c1, if_pos c2]
            rw [e]
            exact ⟨trivial, h.fin⟩
          · have c2 : ¬ far T s.t1 s.w := by simpa using c2
            have e : wS2 s T x = s.push T x := by unfold wS2; rw [if_pos c1, if_neg c2]
            rw [e]
            exact ⟨trivial, h.fin⟩
        have c1 : ¬ far T s.t0 s.w := by simpa using c1
        have hf : ∀ k, (wS2 s T x = k) = ((if s.t1 = s.t0 ∧ far T s.t0 (s.w / 4) then s.s12 T x else if s.t2 = s.t1 ∧ far T s.t0 (s.w / 2) then s.s2 T x else s) = k) := fun k => by unfold wS2; rw [if_neg c1]
        refine w_join h (fun _ => blk b (BbrLs.lsW s) ^ blk n [.int .u64 T, .int .u64 x]) (fun y : Bool => y = decide (s.t1 = s.t0 ∧ far T s.t0 (s.w / 4))) (fun (y : Bool) w hy h => ?_) ?_
        · rw [hy]
          refine w_ite (fun c2 => ?_) fun c2 => ?_
          · have c2 : s.t1 = s.t0 ∧ far T s.t0 (s.w / 4) := by simpa using c2
            refine w_ldAll (x := (T, x)) h rfl ?_
            refine w_call (all_tri b s 1 T x (.inr (.inl rfl))) h fun r w h => ?_
            have e : wS2 s T x = s.s12 T x := by rw [hf, if_pos c2]
            rw [e]
            have h : Own w0 S R w (blk b (BbrLs.lsW ((s.s12 T x))) ^ blk n [.int .u64 T, .int .u64 x]) := h
            exact ⟨trivial, h⟩
          have c2 : ¬ (s.t1 = s.t0 ∧ far T s.t0 (s.w / 4)) := by simpa using c2
          refine w_join h (fun _ => blk b (BbrLs.lsW s) ^ blk n [.int .u64 T, .int .u64 x]) (fun y : Bool => y = decide (s.t2 = s.t1 ∧ far T s.t0 (s.w / 2))) (fun (y : Bool) w hy h => ?_) ?_
          · rw [hy]
            refine w_ite (fun c3 => ?_) fun c3 => ?_
            · have c3 : s.t2 = s.t1 ∧ far T s.t0 (s.w / 2) := by simpa using c3
              refine w_ldAll (x := (T, x)) h rfl ?_
              refine w_call (all_tri b s 2 T x (.inr (.inr rfl))) h fun r w h => ?_
              have e : wS2 s T x = s.s2 T x := by rw [hf, if_neg c2, if_pos c3]
              rw [e]
              have h : Own w0 S R w (blk b (BbrLs.lsW ((s.s2 T x))) ^ blk n [.int .u64 T, .int .u64 x]) := h
              exact ⟨trivial, h⟩
            · have c3 : ¬ (s.t2 = s.t1 ∧ far T s.t0 (s.w / 2)) := by simpa using c3
              have e : wS2 s T x = s := by rw [hf, if_neg c2, if_neg c3]
              rw [e]
              exact ⟨trivial, h.fin⟩
          · refine w_drw h fun w h => w_deref (w_deref ⟨by decide, by decide, w_ld h rfl (w_ld h rfl ?_)⟩)
            refine w_ite (fun c3 => ?_) fun c3 => ?_
            · have c3 : s.t2 = s.t1 := by simpa using c3
              refine w_ld h rfl (w_deref (w_deref ⟨by decide, w_ld h rfl (w_ld (x := (s.t0, s.v0)) h rfl ?_)⟩))
              rw [U2 hs.w]
              refine w_call (near_tri T s.t0 s.v0 (s.w / 2) hT hs.t0) h fun r w h => ?_
              obtain ⟨hr, h⟩ := h.purP
              exact ⟨by rw [hr, Bool.not_not]; simp [c3], h.fin⟩
            · have c3 : ¬ s.t2 = s.t1 := by simpa using c3
              exact ⟨by simp [c3], h.fin⟩
        · refine w_drw h fun w h => w_deref (w_deref ⟨by decide, by decide, w_ld h rfl (w_ld h rfl ?_)⟩)
          refine w_ite (fun c3 => ?_) fun c3 => ?_
          · have c3 : s.t1 = s.t0 := by simpa using c3
            refine w_ld h rfl (w_deref (w_deref ⟨by decide, w_ld h rfl (w_ld (x := (s.t0, s.v0)) h rfl ?_)⟩))
            rw [U4 hs.w]
            refine w_call (near_tri T s.t0 s.v0 (s.w / 4) hT hs.t0) h fun r w h => ?_
            obtain ⟨hr, h⟩ := h.purP
            exact ⟨by rw [hr, Bool.not_not]; simp [c3], h.fin⟩
          · have c3 : ¬ s.t1 = s.t0 := by simpa using c3
            exact ⟨by simp [c3], h.fin⟩
      · refine w_loop (fun _ : Int => blk b (BbrLs.lsW u) ^ blk n [.int .u64 u.la, .int .u64 x]) (fun i : Int => (0 ≤ i ∧ i ≤ 3) ∧ (i ≥ 2 → ¬ x ≥ u.v1) ∧ (i ≥ 3 → ¬ x ≥ u.v2)) (fun i : Int => 3 - i.toNat) h ⟨⟨by simp, by simp⟩, by simp, by simp⟩ ?_
        rintro (i : Int) w ⟨⟨h0, h1⟩, h2, h3⟩ h
        refine w_ite (fun c => ?_) fun c => ?_
        · have c : i < 3 := by simpa using c
          have hi : i = 0 ∨ i = 1 ∨ i = 2 := by omega
          refine w_join h (fun _ => blk b (BbrLs.lsW u) ^ blk n [.int .u64 u.la, .int .u64 x]) (fun y : Bool => y = (decide (i = 1 ∧ x ≥ u.v1) || decide (i = 2 ∧ x ≥ u.v2))) (fun (y : Bool) w hy h => ?_) ?_
          · rw [hy]
            refine w_ite (fun c2 => ?_) fun c2 => ?_
            · refine w_ldAll (x := (u.la, x)) h rfl ?_
              refine w_call (all_tri b u i u.la x hi) h fun r w h => ?_
              have c2 : (i = 1 ∧ x ≥ u.v1) ∨ (i = 2 ∧ x ≥ u.v2) := by simpa using c2
              have e : wS1 u u.la x = if i = 0 then u.all u.la x else if i = 1 then u.s12 u.la x else u.s2 u.la x := by
                unfold wS1
                rcases c2 with ⟨rfl, cc⟩ | ⟨rfl, cc⟩
                · rw [if_pos cc]; rfl
                · rw [if_neg (h2 (by omega)), if_pos cc]; rfl
              rw [e]
              exact ⟨trivial, h.fin⟩
            · have c2 : ¬ ((i = 1 ∧ x ≥ u.v1) ∨ (i = 2 ∧ x ≥ u.v2)) := by simpa using c2
              rw [wi (n := i + 1) (by omega) (by omega)]
              refine ⟨⟨⟨⟨by omega, by omega⟩, fun hh => ?_, fun hh => ?_⟩, h⟩, by omega⟩
              · by_cases hi1 : i = 1
                · intro hx1; exact c2 (.inl ⟨hi1, hx1⟩)
                · exact h2 (by omega)
              · intro hx1; exact c2 (.inr ⟨by omega, hx1⟩)
          · refine w_ite (fun c2 => ?_) fun c2 => ?_
            · have c2 : i > 0 := by simpa using c2
              refine w_deref ⟨⟨h0, c⟩, ?_⟩
              have hi : i = 1 ∨ i = 2 := by omega
              rcases hi with rfl | rfl
              · exact w_ld h rfl ⟨by simp, h⟩
              · exact w_ld h rfl ⟨by simp, h⟩
            · have c2 : i = 0 := by have : ¬ i > 0 := by simpa using c2
                                    omega
              exact ⟨by simp [c2], h⟩
        · have c : i = 3 := by have : ¬ i < 3 := by simpa using c
                               omega
          have e : wS1 u u.la x = u := by unfold wS1; rw [if_neg (h2 (by omega)), if_neg (h3 (by omega))]
          rw [e]
          exact ⟨trivial, h⟩
    · refine w_drw h fun w h => w_deref ⟨by decide, w_ld h rfl ?_⟩
      refine w_ite (fun c => ?_) fun c => ?_
      · have c : x ≥ u.v0 := by simpa using c
        exact ⟨by simp [c], h⟩
      · have c : ¬ x ≥ u.v0 := by simpa using c
        refine w_ld h rfl (w_deref (w_deref ⟨by decide, w_ld h rfl (w_ld (x := (u.t2, u.v2)) h rfl ?_)⟩))
        refine w_call (near_tri u.la u.t2 u.v2 u.w hu.la hu.t2) h fun r w h => ?_
        obtain ⟨hr, h⟩ := h.purP
        exact ⟨by rw [hr, Bool.not_not]; simp [c], h.fin⟩
end BbrW

namespace BbrQ
open Arith ArithC _root_.Go.X.Target BbrM
theorem rnew_tri:Tri Tryz.prog N_rounds_New [] [.lf .ptr] emp (fun r=>ex fun n:Nat=>pur (r=some ⟨n,0⟩) (blk n (BbrLs.lsR ((Rnd.mk 0 0))))) :=
 tri_0 call_rounds_New fun w0 S R h=>by
  unfold W_rounds_New
  refine w_new h fun n w h=>?_
  exact Own.retE n (Own.retP rfl h.fin)
theorem pnew_tri:Tri Tryz.prog N_pipe_New [] [.lf .ptr] emp (fun r=>ex fun n:Nat=>pur (r=some ⟨n,0⟩) (blk n (BbrLs.lsP ((Pp.mk 0 0 false))))) :=
 tri_0 call_pipe_New fun w0 S R h=>by
  unfold W_pipe_New
  refine w_new h fun n w h=>?_
  exact Own.retE n (Own.retP rfl h.fin)
theorem cnew_tri:Tri Tryz.prog N_cycle_New [] [.lf .ptr] emp (fun r=>ex fun n:Nat=>pur (r=some ⟨n,0⟩) (blk n (BbrLs.lsC ((Cy.mk 0 0))))) :=
 tri_0 call_cycle_New fun w0 S R h=>by
  unfold W_cycle_New
  refine w_new h fun n w h=>?_
  exact Own.retE n (Own.retP rfl h.fin)
theorem bnew_tri:Tri Tryz.prog N_probe_New [] [.lf .ptr] emp (fun r=>ex fun n:Nat=>pur (r=some ⟨n,0⟩) (blk n (BbrLs.lsB ((Pb.mk 0 0 false 0 false))))) :=
 tri_0 call_probe_New fun w0 S R h=>by
  unfold W_probe_New
  refine w_new h fun n w h=>?_
  exact Own.retE n (Own.retP rfl h.fin)
theorem lnew_tri:Tri Tryz.prog N_policer_New [] [.lf .ptr] emp (fun r=>ex fun n:Nat=>pur (r=some ⟨n,0⟩) (blk n (BbrLs.lsL ((Pl.mk false false 0 0 0 0 0 0))))) :=
 tri_0 call_policer_New fun w0 S R h=>by
  unfold W_policer_New
  refine w_new h fun n w h=>?_
  exact Own.retE n (Own.retP rfl h.fin)
theorem count_tri (b:Nat) (r:Rnd):Tri Tryz.prog N_rounds_Rounds_Count [.lf (.ptr (some ⟨b,0⟩))] [.lf (.int .u64)] (blk b (BbrLs.lsR r)) (fun x=>pur (x=r.n) (blk b (BbrLs.lsR r))) :=
 tri_0 (call_rounds_Rounds_Count _) fun w0 S R h=>by
  unfold W_rounds_Rounds_Count
  refine w_ite (fun c=>(by cases c)) fun _=>w_deref (w_ld h rfl ?_)
  exact Own.retP rfl h.fin
theorem phase_tri (b:Nat) (c:Cy):Tri Tryz.prog N_cycle_Cycle_Phase [.lf (.ptr (some ⟨b,0⟩))] [.lf (.int .i64)] (blk b (BbrLs.lsC c)) (fun x=>pur (x=c.ph) (blk b (BbrLs.lsC c))) :=
 tri_0 (call_cycle_Cycle_Phase _) fun w0 S R h=>by
  unfold W_cycle_Cycle_Phase
  refine w_ite (fun c=>(by cases c)) fun _=>w_deref (w_ld h rfl ?_)
  exact Own.retP rfl h.fin
theorem full_tri (b:Nat) (p:Pp):Tri Tryz.prog N_pipe_Pipe_Full [.lf (.ptr (some ⟨b,0⟩))] [.lf .bool] (blk b (BbrLs.lsP p)) (fun x=>pur (x=p.full) (blk b (BbrLs.lsP p))) :=
 tri_0 (call_pipe_Pipe_Full _) fun w0 S R h=>by
  unfold W_pipe_Pipe_Full
  refine w_ite (fun _=>w_deref (w_ld h rfl ?_)) fun c=>(by cases c)
  exact Own.retP rfl h.fin
theorem bbest_tri (b:Nat) (v:Pb):Tri Tryz.prog N_probe_Probe_Best [.lf (.ptr (some ⟨b,0⟩))] [.lf (.int .u64)] (blk b (BbrLs.lsB v)) (fun x=>pur (x=v.best) (blk b (BbrLs.lsB v))) :=
 tri_0 (call_probe_Probe_Best _) fun w0 S R h=>by
  unfold W_probe_Probe_Best
  refine w_ite (fun c=>(by cases c)) fun _=>w_deref (w_ld h rfl ?_)
  exact Own.retP rfl h.fin
theorem gain_tri (b:Nat) (c:Cy):Tri Tryz.prog N_cycle_Cycle_Gain [.lf (.ptr (some ⟨b,0⟩))] [.lf (.int .u64)] (blk b (BbrLs.lsC c)) (fun x=>pur (x=cG c) (blk b (BbrLs.lsC c))) :=
 tri_0 (call_cycle_Cycle_Gain _) fun w0 S R h=>by
  unfold W_cycle_Cycle_Gain
  refine w_ite (fun _=>w_deref (w_ld h rfl ?_)) fun c=>(by cases c)
  refine w_ite (fun c1=>?_) fun c1=>?_
  ·exact Own.retP (by unfold cG;rw [if_pos (by simpa using c1)]) h.fin
  refine w_ite (fun c2=>?_) fun c2=>?_
  ·exact Own.retP (by unfold cG;rw [if_neg (by simpa using c1),if_pos (by simpa using c2)]) h.fin
  ·exact Own.retP (by unfold cG;rw [if_neg (by simpa using c1),if_neg (by simpa using c2)]) h.fin
theorem luse_tri (b:Nat) (q:Pl):Tri Tryz.prog N_policer_Policer_Use [.lf (.ptr (some ⟨b,0⟩))] [.lf (.int .u64),.lf .bool] (blk b (BbrLs.lsL q)) (fun x=>pur (x=(if q.use then q.bw else 0,q.use)) (blk b (BbrLs.lsL q))) :=
 tri_0 (call_policer_Policer_Use _) fun w0 S R h=>by
  unfold W_policer_Policer_Use
  refine w_join h (fun _=>blk b (BbrLs.lsL q)) (fun _=>q.use=true) (fun _ w hu h=>?_) ?_
  ·refine w_deref (w_ld h rfl ?_)
   exact Own.retP (by rw [hu];rfl) h
  ·refine w_ite (fun c=>(by cases c)) fun _=>w_deref (w_ld h rfl ?_)
   refine w_ite (fun c=>?_) fun c=>?_
   ·have c:q.use=false:=by simpa using c
    exact Own.retP (by rw [c];rfl) h
   ·exact ⟨by simpa using c,h⟩
theorem rupd_tri (b:Nat) (r:Rnd) (s:Sm):Tri Tryz.prog N_rounds_Rounds_Update [.lf (.ptr (some ⟨b,0⟩)),.agg (Ks.mk K_u8b s)] [.lf .bool] (blk b (BbrLs.lsR r)) (fun x=>pur (x=rB r s) (blk b (BbrLs.lsR ((rU r s))))) :=
 tri_0 (call_rounds_Rounds_Update _ _) fun w0 S R h=>by
  unfold W_rounds_Rounds_Update
  refine w_new h fun n w h=>?_
  refine w_loop (fun _:Bool=>blk n (Ks.mk K_u8b s)^blk b (BbrLs.lsR r)) (fun y:Bool=>y=false) (fun _=>0) h rfl ?_
  rintro (y:Bool) w hy h
  rw [hy]
  refine w_join h (fun _=>blk n (Ks.mk K_u8b s)^blk b (BbrLs.lsR r)) (fun _=>sAck s > 0) (fun _ w c1 h=>?_) ?_
  ·refine w_drw h fun w h=>w_ld h rfl (w_deref (w_ld h rfl ?_))
   refine w_ite (fun c2=>?_) fun c2=>?_
   ·have e:rB r s=false:=by unfold rB;simp at c2 ⊢;intro _;exact c2
    have e2:rU r s=r:=by unfold rU;rw [e];rfl
    rw [e2]
    exact Own.retP e.symm h.fin
   ·have e:rB r s=true:=by unfold rB;simp at c2 ⊢;exact ⟨c1,c2⟩
    have e2:rU r s=⟨IntKind.u64.wrap (r.n+1),sDel s⟩:=by unfold rU;rw [e];rfl
    rw [e2]
    refine w_ld h rfl (w_deref ?_)
    refine w_setTo h b [.int .u64 r.n,.int .u64 (sDel s)] rfl rfl rfl fun w h=>?_
    refine w_deref (w_ld h rfl (w_deref ?_))
    refine w_setTo h b [.int .u64 (IntKind.u64.wrap (r.n+1)),.int .u64 (sDel s)] rfl rfl rfl fun w h=>?_
    exact Own.retP e.symm h.fin
  ·refine w_ite (fun _=>w_ld h rfl ?_) fun c=>(by cases c)
   refine w_ite (fun c=>?_) fun c=>?_
   ·exact ⟨by simpa using c,h⟩
   ·have e:rB r s=false:=by unfold rB;rw [show decide (sAck s > 0)=false from c];rfl
    have e2:rU r s=r:=by unfold rU;rw [e];rfl
    rw [e2]
    exact Own.retP e.symm h.fin
theorem pupd_tri (b:Nat) (p:Pp) (hp:OkP p) (a l:Bool) (bw:Int) (hb:U bw):Tri Tryz.prog N_pipe_Pipe_Update [.lf (.ptr (some ⟨b,0⟩)),.lf (.bool a),.lf (.bool l),.lf (.int .u64 bw)] [.lf .bool] (blk b (BbrLs.lsP p)) (fun x=>pur (x=(pU p a l bw).full) (blk b (BbrLs.lsP ((pU p a l bw))))) :=
 tri_0 (call_pipe_Pipe_Update _ _ _ _) fun w0 S R h=>by
  unfold W_pipe_Pipe_Update
  refine w_join h (fun _=>blk b (BbrLs.lsP ((pU p a l bw)))) (fun _=>True) (fun _ w _ h=>?_) ?_
  ·refine w_call (full_tri b (pU p a l bw)) h fun r w h=>?_
   obtain ⟨hr,h⟩:=h.purP
   exact Own.retP hr h.fin
  refine w_loop (fun _:Unit=>blk b (BbrLs.lsP p)) (fun _:Unit=>True) (fun _=>0) h trivial ?_
  rintro _ w _ h
  refine w_join h (fun _=>blk b (BbrLs.lsP p)) (fun _=>(!p.full && a && !l)=true) (fun _ w c h=>?_) ?_
  ·refine w_deref (w_ld h rfl ?_)
   refine w_call (md_tri p.best 320 256 hp.best (U_lit _) (U_lit _)) h fun r w h=>?_
   obtain ⟨hr,h⟩:=h.purP
   rw [hr]
   refine w_ite (fun c2=>?_) fun c2=>?_
   ·have c2:bw ≥ mdI p.best 320 256:=by simpa using c2
    have e:pU p a l bw=⟨bw,0,p.full⟩:=by unfold pU;rw [if_pos c,if_pos c2]
    rw [e]
    refine w_deref (w_setTo h b [.int .u64 bw,.int .i64 p.n,.bool p.full] rfl rfl rfl fun w h=>?_)
    refine w_deref (w_setTo h b [.int .u64 bw,.int .i64 0,.bool p.full] rfl rfl rfl fun w h=>?_)
    exact ⟨trivial,h.fin⟩
   ·have c2:¬ bw ≥ mdI p.best 320 256:=by simpa using c2
    have e:pU p a l bw=⟨p.best,p.n+1,decide (p.n+1=3)⟩:=by unfold pU;rw [if_pos c,if_neg c2]
    rw [e]
    have hn:=hp.n
    refine w_deref (w_ld h rfl (w_deref ?_))
    rw [wi (n:=p.n+1) (by omega) (by omega)]
    refine w_setTo h b [.int .u64 p.best,.int .i64 (p.n+1),.bool p.full] rfl rfl rfl fun w h=>?_
    refine w_deref (w_ld h rfl (w_deref ?_))
    refine w_setTo h b [.int .u64 p.best,.int .i64 (p.n+1),.bool (decide (p.n+1=3))] rfl rfl rfl fun w h=>?_
    exact ⟨trivial,h.fin⟩
  ·refine w_ite (fun _=>w_deref (w_ld h rfl ?_)) fun c=>(by cases c)
   refine w_ite (fun c=>?_) fun c=>?_
   ·exact ⟨c,h⟩
   ·have e:pU p a l bw=p:=by unfold pU;rw [if_neg (by rw [c];simp)]
    rw [e]
    exact ⟨trivial,h⟩
theorem ph8 {ph:Int} (h0:0≤ph) (h1:ph≤1000):(IntKind.i64.wrap (ph.tmod 8+8)).tmod 8=ph % 8:=by
 rw [Int.tmod_eq_emod_of_nonneg h0,wi (by omega) (by omega),Int.tmod_eq_emod_of_nonneg (by omega)];omega
theorem cst_tri (b:Nat) (c:Cy) (now ph:Int) (h0:0≤ph) (h1:ph≤1000):Tri Tryz.prog N_cycle_Cycle_Start [.lf (.ptr (some ⟨b,0⟩)),.lf (.int .u64 now),.lf (.int .i64 ph)] [] (blk b (BbrLs.lsC c)) (fun _=>blk b (BbrLs.lsC ((cSt now ph)))) :=
 tri_0 (call_cycle_Cycle_Start _ _ _) fun w0 S R h=>by
  unfold W_cycle_Cycle_Start
  refine w_ite (fun _=>?_) fun c=>(by cases c)
  rw [ph8 h0 h1]
  refine w_deref (w_setTo h b [.int .i64 (ph % 8),.int .u64 c.at'] rfl rfl rfl fun w h=>?_)
  refine w_deref (w_setTo h b [.int .i64 (ph % 8),.int .u64 now] rfl rfl rfl fun w h=>?_)
  exact Own.keep (A:=blk b (BbrLs.lsC ((cSt now ph)))) h
def cE (c:Cy) (over:Bool) (lost fl up one:Int):Bool:=if c.ph=0 then over && (decide (lost > 0) || decide (fl ≥ up)) else if c.ph=1 then over || decide (fl≤one) else over
theorem cE_B (c:Cy) (now rtt lost fl up one:Int):cE c (decide (subI now c.at' > rtt)) lost fl up one=cB c now rtt lost fl up one:=rfl
theorem cends_tri (b:Nat) (c:Cy) (over:Bool) (lost fl up one:Int):Tri Tryz.prog N_cycle_Cycle_ends [.lf (.ptr (some ⟨b,0⟩)),.lf (.bool over),.lf (.int .u64 lost),.lf (.int .u64 fl),.lf (.int .u64 up),.lf (.int .u64 one)] [.lf .bool] (blk b (BbrLs.lsC c)) (fun x=>pur (x=cE c over lost fl up one) (blk b (BbrLs.lsC c))) :=
 tri_0 (call_cycle_Cycle_ends _ _ _ _ _ _) fun w0 S R h=>by
  unfold W_cycle_Cycle_ends
  refine w_deref (w_ld h rfl ?_)
  refine w_ite (fun c1=>?_) fun c1=>?_
  ·exact Own.retP (by unfold cE;rw [if_pos (by simpa using c1)]) h.fin
  refine w_ite (fun c2=>?_) fun c2=>?_
  ·exact Own.retP (by unfold cE;rw [if_neg (by simpa using c1),if_pos (by simpa using c2)]) h.fin
  ·exact Own.retP (by unfold cE;rw [if_neg (by simpa using c1),if_neg (by simpa using c2)]) h.fin
theorem cupd_tri (b:Nat) (c:Cy) (hc:OkC c) (now rtt lost fl up one:Int) (hn:U now):Tri Tryz.prog N_cycle_Cycle_Update [.lf (.ptr (some ⟨b,0⟩)),.lf (.int .u64 now),.lf (.int .u64 rtt),.lf (.int .u64 lost),.lf (.int .u64 fl),.lf (.int .u64 up),.lf (.int .u64 one)] [.lf .bool] (blk b (BbrLs.lsC c)) (fun x=>blk b (BbrLs.lsC ((cU c now rtt lost fl up one)))) :=
 tri_0 (call_cycle_Cycle_Update _ _ _ _ _ _ _) fun w0 S R h=>by
  unfold W_cycle_Cycle_Update
  refine w_loop (fun _:Bool=>blk b (BbrLs.lsC c)) (fun _:Bool=>True) (fun _=>0) h trivial ?_
  rintro _ w _ h
  refine w_join h (fun _=>blk b (BbrLs.lsC c)) (fun _=>cB c now rtt lost fl up one=true) (fun _ w c1 h=>?_) ?_
  ·have hp:=hc.ph
   refine w_deref (w_ld h rfl ?_)
   rw [wi (n:=c.ph+1) (by omega) (by omega)]
   refine w_call (cst_tri b c now (c.ph+1) (by omega) (by omega)) (h.le (star_emp _)) fun r w h=>?_
   have e:cU c now rtt lost fl up one=cSt now (c.ph+1):=by unfold cU;rw [if_pos c1]
   rw [e]
   exact h.keep
  ·refine w_ite (fun _=>w_deref (w_ld h rfl ?_)) fun c=>(by cases c)
   refine w_call (satsub_tri now c.at' hn hc.at') h fun r w h=>?_
   obtain ⟨hr,h⟩:=h.purP
   rw [hr]
   refine w_call (cends_tri b c _ lost fl up one) h fun r w h=>?_
   obtain ⟨hr,h⟩:=h.purP
   rw [hr,cE_B]
   refine w_ite (fun c1=>?_) fun c1=>?_
   ·exact ⟨c1,h.fin⟩
   ·have e:cU c now rtt lost fl up one=c:=by unfold cU;rw [c1];rfl
    rw [e]
    exact h.fin
end BbrQ

namespace BbrL
open Arith ArithC _root_.Go.X.Target BbrM
theorem blv_tri (b:Nat) (v:Pb) (now fl floor:Int) (st:Bool) (hn:U now):Tri Tryz.prog N_probe_Probe_leaves [.lf (.ptr (some ⟨b,0⟩)),.lf (.int .u64 now),.lf (.bool st),.lf (.int .u64 fl),.lf (.int .u64 floor)] [.lf .bool] (blk b (BbrLs.lsB v))
  (fun x=>pur (x=(bLv v now st fl floor).1) (blk b (BbrLs.lsB ((bLv v now st fl floor).2)))) :=
 tri_0 (call_probe_Probe_leaves _ _ _ _ _) fun w0 S R h=>by
  unfold W_probe_Probe_leaves
  refine w_deref (w_ld h rfl ?_)
  refine w_ite (fun c1=>?_) fun c1=>?_
  ·have c1:v.til=0:=by simpa using c1
   refine w_ite (fun c2=>?_) fun c2=>?_
   ·have c2:fl≤floor:=by simpa using c2
    have e:bLv v now st fl floor=(false,{ v with til:=addI now 200000000,rd:=false }):=by unfold bLv;rw [if_pos c1,if_pos c2]
    rw [e]
    refine w_call (satadd_tri now 200000000 hn (U_lit _)) (h.le (star_emp _)) fun r w h=>?_
    obtain ⟨hr,h⟩:=h.purP
    rw [hr]
    refine w_deref (w_setTo h b [.int .u64 v.best,.int .u64 v.at',.bool v.on,.int .u64 (addI now 200000000),.bool v.rd] rfl rfl rfl fun w h=>?_)
    refine w_deref (w_setTo h b [.int .u64 v.best,.int .u64 v.at',.bool v.on,.int .u64 (addI now 200000000),.bool false] rfl rfl rfl fun w h=>?_)
    exact Own.retP rfl h.fin
   ·have c2:¬ fl≤floor:=by simpa using c2
    have e:bLv v now st fl floor=(false,v):=by unfold bLv;rw [if_pos c1,if_neg c2]
    rw [e]
    exact Own.retP rfl h.fin
  ·have c1:¬ v.til=0:=by simpa using c1
   refine w_deref (w_ld h rfl (w_deref ?_))
   refine w_setTo h b [.int .u64 v.best,.int .u64 v.at',.bool v.on,.int .u64 v.til,.bool (v.rd || st)] rfl rfl rfl fun w h=>?_
   have h:Own w0 S R w (blk b [.int .u64 v.best,.int .u64 v.at',.bool v.on,.int .u64 v.til,.bool (v.rd || st)]):=h.fin
   refine w_join h (fun _=>blk b [.int .u64 v.best,.int .u64 v.at',.bool v.on,.int .u64 v.til,.bool (v.rd || st)]) (fun _=>(v.rd || st)=true∧¬ now≤v.til) (fun _ w hc h=>?_) ?_
   ·have e:bLv v now st fl floor=(true,{ v with rd:=v.rd || st,at':=now,on:=false }):=by unfold bLv;rw [if_neg c1,if_neg (by rw [hc.1];simp),if_neg hc.2]
    rw [e]
    refine w_deref (w_setTo h b [.int .u64 v.best,.int .u64 now,.bool v.on,.int .u64 v.til,.bool (v.rd || st)] rfl rfl rfl fun w h=>?_)
    refine w_deref (w_setTo h b [.int .u64 v.best,.int .u64 now,.bool false,.int .u64 v.til,.bool (v.rd || st)] rfl rfl rfl fun w h=>?_)
    exact Own.retP rfl h.fin
   ·refine w_deref (w_ld h rfl ?_)
    refine w_ite (fun c2=>?_) fun c2=>?_
    ·have e:bLv v now st fl floor=(false,{ v with rd:=v.rd || st }):=by unfold bLv;rw [if_neg c1,if_pos c2]
     rw [e]
     exact Own.retP rfl h.fin
    ·refine w_deref (w_ld h rfl ?_)
     refine w_ite (fun c3=>?_) fun c3=>?_
     ·have c3:now≤v.til:=by simpa using c3
      have e:bLv v now st fl floor=(false,{ v with rd:=v.rd || st }):=by unfold bLv;rw [if_neg c1,if_neg (by rw [c2];simp),if_pos c3]
      rw [e]
      exact Own.retP rfl h.fin
     ·have c4:∀ x:Bool,(!x)=false→x=true:=by decide
      exact ⟨⟨c4 _ c2,by simpa using c3⟩,h⟩
theorem bupd_tri (b:Nat) (v:Pb) (hv:OkB v) (now rtt fl floor:Int) (st:Bool) (hn:U now) (hq:U rtt):Tri Tryz.prog N_probe_Probe_Update [.lf (.ptr (some ⟨b,0⟩)),.lf (.int .u64 now),.lf (.int .u64 rtt),.lf (.bool st),.lf (.int .u64 fl),.lf (.int .u64 floor)] [.lf .bool,.lf .bool] (blk b (BbrLs.lsB v))
  (fun x=>pur (x=(bU v now rtt st fl floor).1) (blk b (BbrLs.lsB ((bU v now rtt st fl floor).2)))) :=
 tri_0 (call_probe_Probe_Update _ _ _ _ _ _) fun w0 S R h=>by
  unfold W_probe_Probe_Update
  refine w_loop (fun _:Bool × Bool=>blk b (BbrLs.lsB v)) (fun y:Bool × Bool=>y=(false,false)) (fun _=>0) h rfl ?_
  rintro (⟨y1,y2⟩:Bool × Bool) w hy h
  cases hy
  refine w_ite (fun _=>?_) fun c=>(by cases c)
  refine w_join h (fun _=>blk b (BbrLs.lsB v)) (fun y:Bool=>y=bOld v now) (fun (y:Bool) w hy h=>?_) ?_
  ·rw [hy]
   refine w_join h (fun _=>blk b (BbrLs.lsB ((bNew v now rtt)))) (fun _=>True) (fun _ w _ h=>?_) ?_
   ·have on_eq:(bNew v now rtt).on=v.on:=by unfold bNew;split<;>rfl
    refine w_join h (fun _=>blk b (BbrLs.lsB ((bNew v now rtt)))) (fun y:Bool=>y=(bOld v now && !v.on)) (fun (y:Bool) w hy h=>?_) ?_
    ·rw [hy]
     refine w_ite (fun c=>?_) fun c=>?_
     ·have e:bU v now rtt st fl floor=((true,false),{ bNew v now rtt with on:=true,til:=0,rd:=false }):=by unfold bU;rw [if_pos c]
      rw [e]
      generalize bNew v now rtt=u at *
      refine w_deref (w_setTo h b [.int .u64 u.best,.int .u64 u.at',.bool true,.int .u64 u.til,.bool u.rd] rfl rfl rfl fun w h=>?_)
      refine w_deref (w_setTo h b [.int .u64 u.best,.int .u64 u.at',.bool true,.int .u64 0,.bool u.rd] rfl rfl rfl fun w h=>?_)
      refine w_deref (w_setTo h b [.int .u64 u.best,.int .u64 u.at',.bool true,.int .u64 0,.bool false] rfl rfl rfl fun w h=>?_)
      exact Own.retP rfl h.fin
     ·refine w_deref (w_ld h rfl ?_)
      rw [on_eq]
      refine w_ite (fun c2=>?_) fun c2=>?_
      ·have e:bU v now rtt st fl floor=((false,(bLv (bNew v now rtt) now st fl floor).1),(bLv (bNew v now rtt) now st fl floor).2):=by unfold bU;rw [if_neg (by rw [c];simp),if_pos c2]
       rw [e]
       refine w_call (blv_tri b (bNew v now rtt) now fl floor st hn) (h.le (star_emp _)) fun r w h=>?_
       obtain ⟨hr,h⟩:=h.purP
       exact Own.retP (by rw [hr]) h.fin
      ·have e:bU v now rtt st fl floor=((false,false),bNew v now rtt):=by unfold bU;rw [if_neg (by rw [c];simp),if_neg (by rw [c2];simp)]
       rw [e]
       exact Own.retP rfl h.fin
    ·refine w_ite (fun c=>?_) fun c=>?_
     ·refine w_deref (w_ld h rfl ?_)
      exact ⟨by rw [on_eq,c];rfl,h⟩
     ·exact ⟨by rw [c];rfl,h⟩
   ·refine w_join h (fun _=>blk b (BbrLs.lsB v)) (fun y:Bool=>y=bTake v now rtt) (fun (y:Bool) w hy h=>?_) ?_
    ·rw [hy]
     refine w_ite (fun c=>?_) fun c=>?_
     ·have e:bNew v now rtt={ v with best:=rtt,at':=now }:=by unfold bNew;rw [if_pos c]
      rw [e]
      refine w_deref (w_setTo h b [.int .u64 rtt,.int .u64 v.at',.bool v.on,.int .u64 v.til,.bool v.rd] rfl rfl rfl fun w h=>?_)
      refine w_deref (w_setTo h b [.int .u64 rtt,.int .u64 now,.bool v.on,.int .u64 v.til,.bool v.rd] rfl rfl rfl fun w h=>?_)
      exact ⟨trivial,h.fin⟩
     ·have e:bNew v now rtt=v:=by unfold bNew;rw [if_neg (by rw [c];simp)]
      rw [e]
      exact ⟨trivial,h⟩
    ·refine w_ite (fun c=>?_) fun c=>?_
     ·refine w_deref (w_ld h rfl ?_)
      refine w_ite (fun c2=>?_) fun c2=>?_
      ·exact ⟨by unfold bTake;rw [show decide (rtt > 0)=true from c,show decide (v.best=0)=true by simpa using c2];rfl,h⟩
      ·refine w_deref (w_ld h rfl ?_)
       exact ⟨by unfold bTake;rw [show decide (rtt > 0)=true from c,show decide (v.best=0)=false by simpa using c2];rfl,h⟩
     ·exact ⟨by unfold bTake;rw [show decide (rtt > 0)=false from c];rfl,h⟩
  ·refine w_deref (w_ld h rfl ?_)
   refine w_ite (fun c=>?_) fun c=>?_
   ·refine w_deref (w_ld h rfl ?_)
    refine w_call (satadd_tri v.at' 10000000000 hv.at' (U_lit _)) (h.le (star_emp _)) fun r w h=>?_
    obtain ⟨hr,h⟩:=h.purP
    exact ⟨by rw [hr];unfold bOld;rw [show decide (v.best > 0)=true from c];rfl,h.fin⟩
   ·exact ⟨by unfold bOld;rw [show decide (v.best > 0)=false from c];rfl,h⟩
theorem lbegin_tri (b:Nat) (q:Pl) (s:Sm):Tri Tryz.prog N_policer_Policer_begin [.lf (.ptr (some ⟨b,0⟩)),.agg (Ks.mk K_u8b s)] [] (blk b (BbrLs.lsL q)) (fun _=>blk b (BbrLs.lsL ((qBegin q s)))) :=
 tri_0 (call_policer_Policer_begin _ _) fun w0 S R h=>by
  unfold W_policer_Policer_begin
  refine w_new h fun n w h=>?_
  refine w_drw h fun w h=>w_ld h rfl (w_ld h rfl (w_deref (w_ld h rfl (w_deref ?_))))
  refine w_setTo h b [.bool q.use,.bool true,.int .u64 q.bw,.int .i64 q.n,.int .u64 q.lost,.int .u64 q.t0,.int .u64 q.d0,.int .u64 q.l0] rfl rfl rfl fun w h=>?_
  refine w_chk h rfl (w_chk h rfl (w_deref ?_))
  refine w_setTo h b [.bool q.use,.bool true,.int .u64 q.bw,.int .i64 0,.int .u64 q.lost,.int .u64 q.t0,.int .u64 q.d0,.int .u64 q.l0] rfl rfl rfl fun w h=>?_
  refine w_chk h rfl (w_chk h rfl (w_deref ?_))
  refine w_setTo h b [.bool q.use,.bool true,.int .u64 q.bw,.int .i64 0,.int .u64 q.lost,.int .u64 (sNow s),.int .u64 (sDel s),.int .u64 q.lost] rfl rfl rfl fun w h=>?_
  exact Own.keep (A:=blk b (BbrLs.lsL ((qBegin q s)))) h
theorem lleave_tri (b:Nat) (q:Pl):Tri Tryz.prog N_policer_Policer_leave [.lf (.ptr (some ⟨b,0⟩))] [] (blk b (BbrLs.lsL q)) (fun _=>blk b (BbrLs.lsL ((qLeave q)))) :=
 tri_0 (call_policer_Policer_leave _) fun w0 S R h=>by
  unfold W_policer_Policer_leave
  refine w_deref (w_setTo h b [.bool false,.bool q.mea,.int .u64 q.bw,.int .i64 q.n,.int .u64 q.lost,.int .u64 q.t0,.int .u64 q.d0,.int .u64 q.l0] rfl rfl rfl fun w h=>?_)
  refine w_deref (w_setTo h b [.bool false,.bool false,.int .u64 q.bw,.int .i64 q.n,.int .u64 q.lost,.int .u64 q.t0,.int .u64 q.d0,.int .u64 q.l0] rfl rfl rfl fun w h=>?_)
  refine w_deref (w_setTo h b [.bool false,.bool false,.int .u64 0,.int .i64 q.n,.int .u64 q.lost,.int .u64 q.t0,.int .u64 q.d0,.int .u64 q.l0] rfl rfl rfl fun w h=>?_)
  exact Own.keep (A:=blk b (BbrLs.lsL ((qLeave q)))) h
theorem apart_eq {a b:Int} (ha:U a) (hb:U b):IntKind.u64.wrap ((if b > a then b else a) - (if b < a then b else a))=apart a b:=by
 unfold U apart at *
 by_cases h:a < b
 ·rw [if_pos (show b > a by omega),if_neg (show ¬ b < a by omega),if_pos h,wu (by omega) (by omega)]
 ·rw [if_neg (show ¬ b > a by omega),if_neg h]
  split
  ·rw [wu (by omega) (by omega)]
  ·rw [wu (by omega) (by omega)];omega
theorem apart_tri (a b:Int) (ha:U a) (hb:U b):Tri Tryz.prog N_policer_apart [.lf (.int .u64 a),.lf (.int .u64 b)] [.lf (.int .u64)] emp (fun x=>pur (x=apart a b) emp) :=
 tri_0 (call_policer_apart _ _) fun w0 S R h=>by
  unfold W_policer_apart
  exact Own.retP (apart_eq ha hb) h.fin
theorem U8 {w:Int} (h:U w):IntKind.u64.wrap (w.tdiv 8)=w / 8:=by
 unfold U at h;rw [Int.tdiv_eq_ediv_of_nonneg h.1,wu (by omega) (by omega)]
theorem lmeas_tri (b:Nat) (q:Pl) (hq:OkL q) (s:Sm) (hs:OkS s):Tri Tryz.prog N_policer_Policer_measured [.lf (.ptr (some ⟨b,0⟩)),.agg (Ks.mk K_u8b s)] [.lf (.int .u64),.lf .bool] (blk b (BbrLs.lsL q))
  (fun x=>pur (x=match qMeas q s with | none=>(0,false) | some r=>(r,true)) (blk b (BbrLs.lsL q))) :=
 tri_0 (call_policer_Policer_measured _ _) fun w0 S R h=>by
  unfold W_policer_Policer_measured
  refine w_new h fun n w h=>?_
  have h:Own w0 S R w (blk n (Ks.mk K_u8b s)^blk b (BbrLs.lsL q)^emp):=h.le (star_mono Le.rfl (star_emp _))
  refine w_drw h fun w h=>w_ld h rfl (w_deref (w_deref (w_deref (w_ld h rfl (w_deref (w_ld h rfl (w_ld h rfl (w_ld h rfl (w_ld h rfl ?_)))))))))
  refine w_call (satsub_tri (sDel s) q.d0 hs.del hq.d0) h fun r w h=>?_
  obtain ⟨hr,h⟩:=h.purP
  rw [hr]
  refine w_chk h rfl (w_chk h rfl (w_chk h rfl (w_chk h rfl ?_)))
  refine w_call (satsub_tri q.lost q.l0 hq.lost hq.l0) h fun r w h=>?_
  obtain ⟨hr,h⟩:=h.purP
  rw [hr]
  refine w_chk h rfl (w_chk h rfl ?_)
  refine w_call (satsub_tri (sNow s) q.t0 hs.now hq.t0) h fun r w h=>?_
  obtain ⟨hr,h⟩:=h.purP
  rw [hr]
  refine w_ite (fun c=>?_) fun c=>?_
  ·have c:subI (sDel s) q.d0=0∨subI (sNow s) q.t0=0:=by simpa using c
   have e:qMeas q s=none:=by unfold qMeas;rw [if_pos c]
   rw [e]
   exact Own.retP rfl h.fin
  have c:¬ (subI (sDel s) q.d0=0∨subI (sNow s) q.t0=0):=fun hh=>by
   rcases hh with hh | hh<;>simp [hh] at c
  refine w_call (md_tri (subI (sDel s) q.d0) 50 256 (U_sub hs.del hq.d0) (U_lit _) (U_lit _)) h fun r w h=>?_
  obtain ⟨hr,h⟩:=h.purP
  rw [hr]
  refine w_ite (fun c2=>?_) fun c2=>?_
  ·have c2:subI q.lost q.l0 < mdI (subI (sDel s) q.d0) 50 256:=by simpa using c2
   have e:qMeas q s=none:=by unfold qMeas;rw [if_neg c,if_pos c2]
   rw [e]
   exact Own.retP rfl h.fin
  have c2:¬ subI q.lost q.l0 < mdI (subI (sDel s) q.d0) 50 256:=by simpa using c2
  refine w_call (md_tri (subI (sDel s) q.d0) 1000000000 (subI (sNow s) q.t0) (U_sub hs.del hq.d0) (U_lit _) (U_sub hs.now hq.t0)) h fun r w h=>?_
  obtain ⟨hr,h⟩:=h.purP
  rw [hr]
  have e:qMeas q s=some (mdI (subI (sDel s) q.d0) 1000000000 (subI (sNow s) q.t0)):=by unfold qMeas;rw [if_neg c,if_neg c2]
  rw [e]
  exact Own.retP rfl h.fin
theorem and1 (a b:Int) (ha:U a) (hb:U b):((BitVec.ofInt IntKind.u64.bits (IntKind.u64.wrap ((BitVec.ofInt IntKind.u64.bits a &&& BitVec.ofInt IntKind.u64.bits b).toNat:Int)) &&& BitVec.ofInt IntKind.u64.bits (1:Int)).toNat:Int)=(a % 2+b % 2) / 2:=by
 show ((BitVec.ofInt 64 (IntKind.u64.wrap ((BitVec.ofInt 64 a &&& BitVec.ofInt 64 b).toNat:Int)) &&& BitVec.ofInt 64 1).toNat:Int)=_
 obtain ⟨x,hx⟩:∃ x,(BitVec.ofInt 64 a &&& BitVec.ofInt 64 b).toNat=x:=⟨_,rfl⟩
 have hx2:x % 2=(a.toNat &&& b.toNat) % 2:=by rw [← hx,BitVec.toNat_and,bvu ha,bvu hb]
 have hlt:x < 18446744073709551616:=by rw [← hx];exact BitVec.isLt _
 rw [hx,wu (by omega) (by omega)]
 rw [BitVec.toNat_and,bvu (show U (x:Int) by unfold U;omega),show (BitVec.ofInt 64 1).toNat=2^1 - 1 by decide,Nat.and_two_pow_sub_one_eq_mod]
 have h3:(a.toNat &&& b.toNat) % 2=(a.toNat % 2) * (b.toNat % 2):=by
  have e:=Nat.and_mod_two_pow (a:=a.toNat) (b:=b.toNat) (n:=1)
  rw [show (2:Nat)^1=2 from rfl] at e
  rw [e]
  have h1:a.toNat % 2=0∨a.toNat % 2=1:=by omega
  have h2:b.toNat % 2=0∨b.toNat % 2=1:=by omega
  rcases h1 with h1 | h1<;>rcases h2 with h2 | h2<;>rw [h1,h2]<;>rfl
 show ((((x:Int).toNat) % 2:Nat):Int)=_
 rw [Int.toNat_natCast,hx2,h3]
 unfold U at ha hb
 have h1:a % 2=0∨a % 2=1:=by omega
 have h2:b % 2=0∨b % 2=1:=by omega
 rcases h1 with h1 | h1<;>rcases h2 with h2 | h2
 ·rw [show a.toNat % 2=0 by omega,h1,h2];simp
 ·rw [show a.toNat % 2=0 by omega,h1,h2];simp
 ·rw [show b.toNat % 2=0 by omega,h1,h2];simp
 ·rw [show a.toNat % 2=1 by omega,show b.toNat % 2=1 by omega,h1,h2];simp
theorem avg_eq {a b:Int} (ha:U a) (hb:U b):IntKind.u64.wrap ((IntKind.u64.wrap ((IntKind.u64.wrap (a.tdiv (2:Int)))+(IntKind.u64.wrap (b.tdiv (2:Int)))))+(IntKind.u64.wrap (BitVec.ofInt IntKind.u64.bits (IntKind.u64.wrap (BitVec.ofInt IntKind.u64.bits a &&& BitVec.ofInt IntKind.u64.bits b).toNat) &&& BitVec.ofInt IntKind.u64.bits (1:Int)).toNat))=avg a b:=by
 rw [and1 a b ha hb,Int.tdiv_eq_ediv_of_nonneg ha.1,Int.tdiv_eq_ediv_of_nonneg hb.1]
 unfold U avg at *
 simp only [wm]
 omega
theorem lend_tri (b:Nat) (q:Pl) (hq:OkL q) (s:Sm) (hs:OkS s):Tri Tryz.prog N_policer_Policer_end [.lf (.ptr (some ⟨b,0⟩)),.agg (Ks.mk K_u8b s)] [] (blk b (BbrLs.lsL q)) (fun _=>blk b (BbrLs.lsL ((qEnd q s)))) :=
 tri_0 (call_policer_Policer_end _ _) fun w0 S R h=>by
  unfold W_policer_Policer_end
  refine w_new h fun n w h=>?_
  refine w_ldAll (x:=s) h rfl ?_
  refine w_call (lmeas_tri b q hq s hs) h fun r w h=>?_
  obtain ⟨hr,h⟩:=h.purP
  rw [hr]
  cases hm:qMeas q s with
  | none =>
   have e:qEnd q s=q:=by unfold qEnd;rw [hm]
   rw [e]
   refine w_ite (fun c=>?_) fun c=>(by cases c)
   exact h.fin
  | some r =>
   have e:qEnd q s=qGot q s r:=by unfold qEnd;rw [hm]
   rw [e]
   have hU:=U_meas hq hs hm
   refine w_ite (fun c=>(by cases c)) fun c=>?_
   show join _ _ _ _
   refine w_join h (fun _=>blk b (BbrLs.lsL q)^blk n (Ks.mk K_u8b s)) (fun y:Bool=>y=decide (q.bw > 0∧apart q.bw r≤q.bw / 8)) (fun (y:Bool) w hy h=>?_) ?_
   ·rw [hy]
    refine w_ite (fun c=>?_) fun c=>?_
    ·have c:q.bw > 0∧apart q.bw r≤q.bw / 8:=by simpa using c
     have e:qGot q s r={ q with bw:=avg q.bw r,use:=true,n:=0 }:=by unfold qGot;rw [if_pos c]
     rw [e]
     refine w_drw h fun w h=>w_deref (w_deref (w_ld h rfl (w_ld h rfl (w_deref ?_))))
     dsimp only
     rw [avg_eq hq.bw hU]
     refine w_setTo h b [.bool q.use,.bool q.mea,.int .u64 (avg q.bw r),.int .i64 q.n,.int .u64 q.lost,.int .u64 q.t0,.int .u64 q.d0,.int .u64 q.l0] rfl rfl rfl fun w h=>?_
     refine w_deref (w_setTo h b [.bool true,.bool q.mea,.int .u64 (avg q.bw r),.int .i64 q.n,.int .u64 q.lost,.int .u64 q.t0,.int .u64 q.d0,.int .u64 q.l0] rfl rfl rfl fun w h=>?_)
     refine w_deref (w_setTo h b [.bool true,.bool q.mea,.int .u64 (avg q.bw r),.int .i64 0,.int .u64 q.lost,.int .u64 q.t0,.int .u64 q.d0,.int .u64 q.l0] rfl rfl rfl fun w h=>?_)
     exact h.keep
    ·have c:¬ (q.bw > 0∧apart q.bw r≤q.bw / 8):=by simpa using c
     have e:qGot q s r=qBegin { q with bw:=r } s:=by unfold qGot;rw [if_neg c]
     rw [e]
     refine w_deref (w_setTo h b (BbrLs.lsL ({ q with bw:=r })) rfl rfl rfl fun w h=>?_)
     refine w_ldAll (x:=s) h rfl ?_
     refine w_call (lbegin_tri b { q with bw:=r } s) h fun _ w h=>?_
     exact h.keep
   ·refine w_drw h fun w h=>w_deref (w_ld h rfl ?_)
    refine w_ite (fun c=>?_) fun c=>?_
    ·have c:q.bw > 0:=by simpa using c
     refine w_deref (w_deref (w_ld h rfl (w_ld h rfl ?_)))
     refine w_call (apart_tri q.bw r hq.bw hU) (h.le ((star_mono Le.rfl (star_emp _)))) fun x w h=>?_
     obtain ⟨hx,h⟩:=h.purP
     rw [hx,U8 hq.bw]
     refine w_chk h rfl ?_
     exact ⟨by simp [c],h.fin⟩
    ·have c:¬ q.bw > 0:=by simpa using c
     exact ⟨by simp [c],h.fin⟩
theorem tick_ok {q:Pl} (h:OkL q) (o:Bool) (hn:(qTick q o).use=false→(qTick q o).n≤16) (hu:(qTick q o).use=false):OkL (qTick q o):=by
 cases o with
 | false=>exact h
 | true =>
  have h0:=h.n.1
  have h1:=hn hu
  have hu:q.use=false:=hu
  have h1:q.n+1≤16:=h1
  exact ⟨h.bw,⟨(by show 0≤q.n+1;omega),(by show q.n+1≤48;omega)⟩,h.lost,h.t0,h.d0,h.l0,(fun hh=>by have hh:q.use=true:=hh;rw [hu] at hh;cases hh),fun _ _=>h1⟩
theorem lupd_tri (b : Nat) (q : Pl) (hq : OkL q) (o : Bool) (s : Sm) (hs : OkS s) : Tri Tryz.prog N_policer_Policer_Update [.lf (.ptr (some ⟨b, 0⟩)), .lf (.bool o), .agg (Ks.mk K_u8b s)] [] (blk b (BbrLs.lsL q)) (fun _ => blk b (BbrLs.lsL ((qUpd q o s)))) :=
  tri_0 (call_policer_Policer_Update _ _ _) fun w0 S R h => by
    unfold W_policer_Policer_Update
    refine w_new h fun n w h => ?_
    have h : Own w0 S R w (blk n (Ks.mk K_u8b s) ^ blk b (BbrLs.lsL q) ^ emp) := h.le (star_mono Le.rfl (star_emp _))
    refine w_loop (fun _ : Unit => blk n (Ks.mk K_u8b s) ^ blk b (BbrLs.lsL q) ^ emp) (fun _ : Unit => True) (fun _ => 0) h trivial ?_
    rintro _ w _ h
    refine w_ite (fun _ => ?_) fun c => (by cases c)
    refine w_drw h fun w h => w_deref (w_ld h rfl (w_ld h rfl ?_))
    refine w_call (satadd_tri q.lost (sLost s) hq.lost hs.lost) h fun r w h => ?_
    obtain ⟨hr, h⟩ := h.purP
    rw [hr]
    refine w_deref (w_setTo h b (BbrLs.lsL ((qAdd q s))) rfl rfl rfl fun w h => ?_)
    have hq1 := hq.add hs
    have hu : (qAdd q s).use = q.use := rfl
    have hm : (qAdd q s).mea = q.mea := rfl
    have hdef : qUpd q o s = if (qAdd q s).use = false ∧ (qAdd q s).mea = false then (if sLost s > 0 then qBegin (qAdd q s) s else qAdd q s)
        else if (qAdd q s).use = false ∧ sLim s = true then qLeave (qAdd q s) else qGo (qTick (qAdd q s) o) o s := rfl
    rw [hdef]
    generalize qAdd q s = u at *
    have h : Own w0 S R w (blk n (Ks.mk K_u8b s) ^ blk b (BbrLs.lsL u)) := h.fin
    refine w_join h (fun _ => blk n (Ks.mk K_u8b s) ^ blk b (BbrLs.lsL u)) (fun y : Bool => y = decide (u.use = false ∧ u.mea = false)) (fun (y : Bool) w hy h => ?_) ?_
    · rw [hy]
      refine w_ite (fun c => ?_) fun c => ?_
      · have c : u.use = false ∧ u.mea = false := by simpa using c
        rw [if_pos c]
        refine w_ld h rfl ?_
        refine w_ite (fun c2 => ?_) fun c2 => ?_
        · have c2 : sLost s > 0 := by simpa using c2
          rw [if_pos c2]
          refine w_ldAll (x := s) h rfl ?_
          refine w_call (lbegin_tri b u s) (h.le (star_mono Le.rfl (star_emp _))) fun _ w h => ?_
          exact h.keep
        · have c2 : ¬ sLost s > 0 := by simpa using c2
          rw [if_neg c2]
          exact h.fin
      have c : ¬ (u.use = false ∧ u.mea = false) := by simpa using c
      rw [if_neg c]
      refine w_join h (fun _ => blk n (Ks.mk K_u8b s) ^ blk b (BbrLs.lsL u)) (fun _ => ¬ (u.use = false ∧ sLim s = true)) (fun _ w c2 h => ?_) ?_
      · rw [if_neg c2]
        have hn := hq1.n
        refine w_join h (fun _ => blk n (Ks.mk K_u8b s) ^ blk b (BbrLs.lsL ((qTick u o)))) (fun _ => True) (fun _ w _ h => ?_) ?_
        · have ht := tick_ok hq1 o
          generalize qTick u o = v at *
          refine w_deref (w_ld h rfl ?_)
          refine w_ite (fun c3 => ?_) fun c3 => ?_
          · have c3 : v.use = true := c3
            refine w_join h (fun _ => blk n (Ks.mk K_u8b s) ^ blk b (BbrLs.lsL v)) (fun y : Bool => y = decide (o = true ∧ v.n = 48)) (fun (y : Bool) w hy h => ?_) ?_
            · rw [hy]
              refine w_ite (fun c4 => ?_) fun c4 => ?_
              · have c4 : o = true ∧ v.n = 48 := by simpa using c4
                have e : qGo v o s = { qLeave v with n := 0 } := by unfold qGo; rw [if_pos c3, if_pos c4]
                rw [e]
                refine w_call (lleave_tri b v) (h.le (star_mono Le.rfl (star_emp _))) fun _ w h => ?_
                refine w_deref (w_setTo h b (BbrLs.lsL ({ qLeave v with n := 0 })) rfl rfl rfl fun w h => ?_)
                exact h.keep
              · have c4 : ¬ (o = true ∧ v.n = 48) := by simpa using c4
                have e : qGo v o s = v := by unfold qGo; rw [if_pos c3, if_neg c4]
                rw [e]
                exact h.fin
            · refine w_ite (fun c4 => ?_) fun c4 => ?_
              · refine w_deref (w_ld h rfl ?_)
                have c4 : o = true := c4
                exact ⟨by rw [c4, Bool.eq_iff_iff]; simp, h⟩
              · have c4 : o = false := c4
                exact ⟨by rw [c4]; rfl, h⟩
          have c3 : ¬ v.use = true := by rw [show v.use = false from c3]; simp
          have c3' : v.use = false := by simpa using c3
          refine w_deref (w_ld h rfl ?_)
          refine w_ite (fun c4 => ?_) fun c4 => ?_
          · have c4 : v.n > 16 := by simpa using c4
            have e : qGo v o s = qLeave v := by unfold qGo; rw [if_neg c3, if_pos c4]
            rw [e]
            refine w_call (lleave_tri b v) (h.le (star_mono Le.rfl (star_emp _))) fun _ w h => ?_
            exact h.keep
          have c4 : ¬ v.n > 16 := by simpa using c4
          refine w_join h (fun _ => blk n (Ks.mk K_u8b s) ^ blk b (BbrLs.lsL v)) (fun y : Bool => y = decide (v.n ≥ 4 ∧ sLost s > 0)) (fun (y : Bool) w hy h => ?_) ?_
          · rw [hy]
            refine w_ite (fun c5 => ?_) fun c5 => ?_
            · have c5 : v.n ≥ 4 ∧ sLost s > 0 := by simpa using c5
              have e : qGo v o s = qEnd v s := by unfold qGo; rw [if_neg c3, if_neg c4, if_pos c5]
              rw [e]
              refine w_ldAll (x := s) h rfl ?_
              refine w_call (lend_tri b v (ht (fun _ => by omega) c3') s hs) (h.le (star_mono Le.rfl (star_emp _))) fun _ w h => ?_
              exact h.keep
            · have c5 : ¬ (v.n ≥ 4 ∧ sLost s > 0) := by simpa using c5
              have e : qGo v o s = v := by unfold qGo; rw [if_neg c3, if_neg c4, if_neg c5]
              rw [e]
              exact h.fin
          · refine w_deref (w_ld h rfl ?_)
            refine w_ite (fun c5 => ?_) fun c5 => ?_
            · refine w_ld h rfl ?_
              have c5 : v.n ≥ 4 := by simpa using c5
              exact ⟨by rw [Bool.eq_iff_iff]; simp [c5], h⟩
            · have c5 : ¬ v.n ≥ 4 := by simpa using c5
              exact ⟨by simp [c5], h⟩
        · refine w_ite (fun c3 => ?_) fun c3 => ?_
          · have c3 : o = true := c3
            have e : qTick u o = { u with n := u.n + 1 } := by unfold qTick; rw [if_pos c3]
            rw [e]
            refine w_deref (w_ld h rfl (w_deref ?_))
            rw [wi (n := u.n + 1) (by omega) (by omega)]
            refine w_setTo h b (BbrLs.lsL ({ u with n := u.n + 1 })) rfl rfl rfl fun w h => ?_
            exact ⟨trivial, h.fin⟩
          · have c3 : o = false := c3
            have e : qTick u o = u := by unfold qTick; rw [c3]; rfl
            rw [e]
            exact ⟨trivial, h⟩
      · refine w_deref (w_ld h rfl ?_)
        refine w_ite (fun c2 => ?_) fun c2 => ?_
        · have c2 : u.use = false := by simpa using c2
          refine w_ld h rfl ?_
          refine w_ite (fun c3 => ?_) fun c3 => ?_
          · rw [if_pos ⟨c2, c3⟩]
            refine w_call (lleave_tri b u) (h.le (star_mono Le.rfl (star_emp _))) fun _ w h => ?_
            exact h.keep
          · exact ⟨fun hh => by have : sLim s = false := c3
                                rw [this] at hh; simp at hh, h⟩
        · have c2 : u.use = true := by simpa using c2
          exact ⟨(fun hh => by rw [c2] at hh; simp at hh), h⟩
    · refine w_deref (w_ld h rfl ?_)
      refine w_ite (fun c => ?_) fun c => ?_
      · have c : u.use = false := by simpa using c
        refine w_deref (w_ld h rfl ?_)
        exact ⟨by rw [c]; cases u.mea <;> rfl, h⟩
      · have c : u.use = true := by simpa using c
        exact ⟨by rw [c]; rfl, h⟩
end BbrL

namespace BbrN
open Arith ArithC _root_.Go.X.Target BbrM BbrMm BbrP BbrW BbrQ BbrL
theorem new_tri (n:Int):Tri Tryz.prog N_bbr_New [.lf (.int .u64 n)] [.lf .ptr] emp (fun r=>ex fun x:Nat × Nat × Nat × Nat × Nat × Nat × Nat=>match x with | (b,n1,n2,n3,n4,n5,n6)=>pur (r=some ⟨b,0⟩) (blk b (BbrLs.lsM n1 n2 n3 n4 n5 n6 ((mNew n)))^blk n1 (BbrLs.lsW ((mNew n).w))^blk n2 (BbrLs.lsR ((mNew n).r))^blk n3 (BbrLs.lsP ((mNew n).p))^blk n4 (BbrLs.lsC ((mNew n).c))^blk n5 (BbrLs.lsB ((mNew n).b))^blk n6 (BbrLs.lsL ((mNew n).q)))) :=
 tri_0 (call_bbr_New _) fun w0 S R h=>by
  unfold W_bbr_New
  refine w_call (wnew_tri 10) h fun r w h=>?_
  obtain ⟨n1,h⟩:=h.exP;obtain ⟨hr,h⟩:=h.purP;rw [hr]
  refine w_call rnew_tri h fun r w h=>?_
  obtain ⟨n2,h⟩:=h.exP;obtain ⟨hr,h⟩:=h.purP;rw [hr]
  refine w_call pnew_tri h fun r w h=>?_
  obtain ⟨n3,h⟩:=h.exP;obtain ⟨hr,h⟩:=h.purP;rw [hr]
  refine w_call cnew_tri h fun r w h=>?_
  obtain ⟨n4,h⟩:=h.exP;obtain ⟨hr,h⟩:=h.purP;rw [hr]
  refine w_call bnew_tri h fun r w h=>?_
  obtain ⟨n5,h⟩:=h.exP;obtain ⟨hr,h⟩:=h.purP;rw [hr]
  refine w_call lnew_tri h fun r w h=>?_
  obtain ⟨n6,h⟩:=h.exP;obtain ⟨hr,h⟩:=h.purP;rw [hr]
  have hm:=mss_r n
  refine w_new h fun b w h=>?_
  change Own w0 S R w (blk b [.ptr (some ⟨n1,0⟩),.ptr (some ⟨n2,0⟩),.ptr (some ⟨n3,0⟩),.ptr (some ⟨n4,0⟩),.ptr (some ⟨n5,0⟩),.ptr (some ⟨n6,0⟩),.int .u64 (mMss n),.int .i64 0,.int .u64 0,.int .u64 0,.int .u64 0,.bool false,.bool false,.int .u64 0]^_) at h
  change deref _ (fun q8=>st _ [.int .u64 (IntKind.u64.wrap (10 * mMss n))] _) w
  rw [wu (n:=10 * mMss n) (by omega) (by omega)]
  refine w_deref (w_setTo h b [.ptr (some ⟨n1,0⟩),.ptr (some ⟨n2,0⟩),.ptr (some ⟨n3,0⟩),.ptr (some ⟨n4,0⟩),.ptr (some ⟨n5,0⟩),.ptr (some ⟨n6,0⟩),.int .u64 (mMss n),.int .i64 0,.int .u64 0,.int .u64 (10 * mMss n),.int .u64 0,.bool false,.bool false,.int .u64 0] rfl rfl rfl fun w h=>?_)
  refine w_deref (w_ld h rfl ?_)
  rw [wu (n:=10 * mMss n * 1000) (by omega) (by omega)]
  refine w_call (rate_tri (10 * mMss n * 1000) 739 ⟨by omega,by omega⟩ (U_lit _)) h fun r w h=>?_
  obtain ⟨hr,h⟩:=h.purP;rw [hr]
  refine w_deref (w_setTo h b (BbrLs.lsM n1 n2 n3 n4 n5 n6 ((mNew n))) rfl rfl rfl fun w h=>?_)
  exact Own.retE (b,n1,n2,n3,n4,n5,n6) (Own.retP rfl h.fin)
section
variable (b n1 n2 n3 n4 n5 n6 : Nat) (m : Md)
theorem bw_tri:Tri Tryz.prog N_bbr_Model_bw [.lf (.ptr (some ⟨b,0⟩))] [.lf (.int .u64)] (blk b (BbrLs.lsM n1 n2 n3 n4 n5 n6 m)^blk n1 (BbrLs.lsW m.w)^blk n2 (BbrLs.lsR m.r)^blk n3 (BbrLs.lsP m.p)^blk n4 (BbrLs.lsC m.c)^blk n5 (BbrLs.lsB m.b)^blk n6 (BbrLs.lsL m.q)) (fun r=>pur (r=mBw m) (blk b (BbrLs.lsM n1 n2 n3 n4 n5 n6 m)^blk n1 (BbrLs.lsW m.w)^blk n2 (BbrLs.lsR m.r)^blk n3 (BbrLs.lsP m.p)^blk n4 (BbrLs.lsC m.c)^blk n5 (BbrLs.lsB m.b)^blk n6 (BbrLs.lsL m.q))) :=
 tri_0 (call_bbr_Model_bw _) fun w0 S R h=>by
  unfold W_bbr_Model_bw
  repeat' (first
   | (refine w_drw h fun w h=>?_)
   | (refine w_deref ?_)
   | (refine w_ldAll h rfl ?_)
   | (refine w_ld h rfl ?_)
   | (refine w_chkAll h ?_)
   | (refine w_chk h rfl ?_)
   | (refine w_setAll h (by rfl) fun w h=>?_)
   | (refine w_new h fun n w h=>?_)
   | (refine w_leave h fun w h=>?_)
   | (refine w_set h rfl fun w h=>?_;dsimp only [upd,over] at h)
   | (refine w_call (luse_tri n6 m.q) h fun r w h=>?_;obtain ⟨hr,h⟩:=h.purP;(try dsimp only at hr h);try rw [hr]))
  refine w_ite (fun c=>?_) fun c=>?_
  ·have c:m.q.use=true:=c
   exact Own.retP (by unfold mBw;rw [c];rfl) h.fin
  ·have c:m.q.use=false:=c
   repeat' (first
    | (refine w_drw h fun w h=>?_)
    | (refine w_deref ?_)
    | (refine w_ldAll h rfl ?_)
    | (refine w_ld h rfl ?_)
    | (refine w_chkAll h ?_)
    | (refine w_chk h rfl ?_)
    | (refine w_setAll h (by rfl) fun w h=>?_)
    | (refine w_new h fun n w h=>?_)
    | (refine w_leave h fun w h=>?_)
    | (refine w_set h rfl fun w h=>?_;dsimp only [upd,over] at h)
    | (refine w_call (best_tri n1 m.w) h fun r w h=>?_;obtain ⟨hr,h⟩:=h.purP;(try dsimp only at hr h);try rw [hr]))
   exact Own.retP (by unfold mBw;rw [c];rfl) h.fin
theorem pol_tri:Tri Tryz.prog N_bbr_Model_policed [.lf (.ptr (some ⟨b,0⟩))] [.lf .bool] (blk b (BbrLs.lsM n1 n2 n3 n4 n5 n6 m)^blk n1 (BbrLs.lsW m.w)^blk n2 (BbrLs.lsR m.r)^blk n3 (BbrLs.lsP m.p)^blk n4 (BbrLs.lsC m.c)^blk n5 (BbrLs.lsB m.b)^blk n6 (BbrLs.lsL m.q)) (fun r=>pur (r=m.q.use) (blk b (BbrLs.lsM n1 n2 n3 n4 n5 n6 m)^blk n1 (BbrLs.lsW m.w)^blk n2 (BbrLs.lsR m.r)^blk n3 (BbrLs.lsP m.p)^blk n4 (BbrLs.lsC m.c)^blk n5 (BbrLs.lsB m.b)^blk n6 (BbrLs.lsL m.q))) :=
 tri_0 (call_bbr_Model_policed _) fun w0 S R h=>by
  unfold W_bbr_Model_policed
  repeat' (first
   | (refine w_drw h fun w h=>?_)
   | (refine w_deref ?_)
   | (refine w_ldAll h rfl ?_)
   | (refine w_ld h rfl ?_)
   | (refine w_chkAll h ?_)
   | (refine w_chk h rfl ?_)
   | (refine w_setAll h (by rfl) fun w h=>?_)
   | (refine w_new h fun n w h=>?_)
   | (refine w_leave h fun w h=>?_)
   | (refine w_set h rfl fun w h=>?_;dsimp only [upd,over] at h)
   | (refine w_call (luse_tri n6 m.q) h fun r w h=>?_;obtain ⟨hr,h⟩:=h.purP;(try dsimp only at hr h);try rw [hr]))
  exact Own.retP rfl h.fin
theorem gainm_tri:Tri Tryz.prog N_bbr_Model_gain [.lf (.ptr (some ⟨b,0⟩))] [.lf (.int .u64)] (blk b (BbrLs.lsM n1 n2 n3 n4 n5 n6 m)^blk n1 (BbrLs.lsW m.w)^blk n2 (BbrLs.lsR m.r)^blk n3 (BbrLs.lsP m.p)^blk n4 (BbrLs.lsC m.c)^blk n5 (BbrLs.lsB m.b)^blk n6 (BbrLs.lsL m.q)) (fun r=>pur (r=mGain m) (blk b (BbrLs.lsM n1 n2 n3 n4 n5 n6 m)^blk n1 (BbrLs.lsW m.w)^blk n2 (BbrLs.lsR m.r)^blk n3 (BbrLs.lsP m.p)^blk n4 (BbrLs.lsC m.c)^blk n5 (BbrLs.lsB m.b)^blk n6 (BbrLs.lsL m.q))) :=
 tri_0 (call_bbr_Model_gain _) fun w0 S R h=>by
  unfold W_bbr_Model_gain
  repeat' (first
   | (refine w_drw h fun w h=>?_)
   | (refine w_deref ?_)
   | (refine w_ldAll h rfl ?_)
   | (refine w_ld h rfl ?_)
   | (refine w_chkAll h ?_)
   | (refine w_chk h rfl ?_)
   | (refine w_setAll h (by rfl) fun w h=>?_)
   | (refine w_new h fun n w h=>?_)
   | (refine w_leave h fun w h=>?_)
   | (refine w_set h rfl fun w h=>?_;dsimp only [upd,over] at h))
  refine w_ite (fun c=>?_) fun c=>?_
  ·exact Own.retP (by unfold mGain;rw [if_pos (by simpa using c)]) h.fin
  repeat' (first
   | (refine w_drw h fun w h=>?_)
   | (refine w_deref ?_)
   | (refine w_ldAll h rfl ?_)
   | (refine w_ld h rfl ?_)
   | (refine w_chkAll h ?_)
   | (refine w_chk h rfl ?_)
   | (refine w_setAll h (by rfl) fun w h=>?_)
   | (refine w_new h fun n w h=>?_)
   | (refine w_leave h fun w h=>?_)
   | (refine w_set h rfl fun w h=>?_;dsimp only [upd,over] at h))
  refine w_ite (fun c2=>?_) fun c2=>?_
  ·exact Own.retP (by unfold mGain;rw [if_neg (by simpa using c),if_pos (by simpa using c2)]) h.fin
  have e:mGain m=if m.mode=2∧m.q.use=false then cG m.c else 256:=by unfold mGain;rw [if_neg (by simpa using c),if_neg (by simpa using c2)]
  rw [e]
  refine w_join h (fun _=>blk b (BbrLs.lsM n1 n2 n3 n4 n5 n6 m)^blk n1 (BbrLs.lsW m.w)^blk n2 (BbrLs.lsR m.r)^blk n3 (BbrLs.lsP m.p)^blk n4 (BbrLs.lsC m.c)^blk n5 (BbrLs.lsB m.b)^blk n6 (BbrLs.lsL m.q)) (fun y:Bool=>y=decide (m.mode=2∧m.q.use=false)) (fun (y:Bool) w hy h=>?_) ?_
  ·rw [hy]
   refine w_ite (fun c3=>?_) fun c3=>?_
   ·have c3:m.mode=2∧m.q.use=false:=by simpa using c3
    rw [if_pos c3]
    repeat' (first
     | (refine w_drw h fun w h=>?_)
     | (refine w_deref ?_)
     | (refine w_ldAll h rfl ?_)
     | (refine w_ld h rfl ?_)
     | (refine w_chkAll h ?_)
     | (refine w_chk h rfl ?_)
     | (refine w_setAll h (by rfl) fun w h=>?_)
     | (refine w_new h fun n w h=>?_)
     | (refine w_leave h fun w h=>?_)
     | (refine w_set h rfl fun w h=>?_;dsimp only [upd,over] at h)
     | (refine w_call (gain_tri n4 m.c) h fun r w h=>?_;obtain ⟨hr,h⟩:=h.purP;(try dsimp only at hr h);try rw [hr]))
    exact Own.retP rfl h.fin
   ·have c3:¬ (m.mode=2∧m.q.use=false):=by simpa using c3
    rw [if_neg c3]
    exact Own.retP rfl h.fin
  ·repeat' (first
    | (refine w_drw h fun w h=>?_)
    | (refine w_deref ?_)
    | (refine w_ldAll h rfl ?_)
    | (refine w_ld h rfl ?_)
    | (refine w_chkAll h ?_)
    | (refine w_chk h rfl ?_)
    | (refine w_setAll h (by rfl) fun w h=>?_)
    | (refine w_new h fun n w h=>?_)
    | (refine w_leave h fun w h=>?_)
    | (refine w_set h rfl fun w h=>?_;dsimp only [upd,over] at h))
   refine w_ite (fun c3=>?_) fun c3=>?_
   ·have c3:m.mode=2:=by simpa using c3
    repeat' (first
     | (refine w_drw h fun w h=>?_)
     | (refine w_deref ?_)
     | (refine w_ldAll h rfl ?_)
     | (refine w_ld h rfl ?_)
     | (refine w_chkAll h ?_)
     | (refine w_chk h rfl ?_)
     | (refine w_setAll h (by rfl) fun w h=>?_)
     | (refine w_new h fun n w h=>?_)
     | (refine w_leave h fun w h=>?_)
     | (refine w_set h rfl fun w h=>?_;dsimp only [upd,over] at h)
     | (refine w_call (pol_tri b n1 n2 n3 n4 n5 n6 m) h fun r w h=>?_;obtain ⟨hr,h⟩:=h.purP;(try dsimp only at hr h);try rw [hr]))
    exact ⟨by rw [Bool.eq_iff_iff];simp [c3],h.fin⟩
   ·have c3:¬ m.mode=2:=by simpa using c3
    exact ⟨by simp [c3],h.fin⟩
theorem wide_tri':Tri Tryz.prog N_bbr_Model_wideGain [.lf (.ptr (some ⟨b,0⟩))] [.lf (.int .u64)] (blk b (BbrLs.lsM n1 n2 n3 n4 n5 n6 m)^blk n1 (BbrLs.lsW m.w)^blk n2 (BbrLs.lsR m.r)^blk n3 (BbrLs.lsP m.p)^blk n4 (BbrLs.lsC m.c)^blk n5 (BbrLs.lsB m.b)^blk n6 (BbrLs.lsL m.q)) (fun r=>pur (r=mWide m) (blk b (BbrLs.lsM n1 n2 n3 n4 n5 n6 m)^blk n1 (BbrLs.lsW m.w)^blk n2 (BbrLs.lsR m.r)^blk n3 (BbrLs.lsP m.p)^blk n4 (BbrLs.lsC m.c)^blk n5 (BbrLs.lsB m.b)^blk n6 (BbrLs.lsL m.q))) :=
 tri_0 (call_bbr_Model_wideGain _) fun w0 S R h=>by
  unfold W_bbr_Model_wideGain
  repeat' (first
   | (refine w_drw h fun w h=>?_)
   | (refine w_deref ?_)
   | (refine w_ldAll h rfl ?_)
   | (refine w_ld h rfl ?_)
   | (refine w_chkAll h ?_)
   | (refine w_chk h rfl ?_)
   | (refine w_setAll h (by rfl) fun w h=>?_)
   | (refine w_new h fun n w h=>?_)
   | (refine w_leave h fun w h=>?_)
   | (refine w_set h rfl fun w h=>?_;dsimp only [upd,over] at h))
  refine w_ite (fun c=>?_) fun c=>?_
  ·exact Own.retP (by unfold mWide;rw [if_pos (by simpa using c)]) h.fin
  refine w_ite (fun c2=>?_) fun c2=>?_
  ·exact Own.retP (by unfold mWide;rw [if_neg (by simpa using c),if_pos (by simpa using c2)]) h.fin
  ·exact Own.retP (by unfold mWide;rw [if_neg (by simpa using c),if_neg (by simpa using c2)]) h.fin
theorem floor_tri (hm:OkM m):Tri Tryz.prog N_bbr_Model_floor [.lf (.ptr (some ⟨b,0⟩))] [.lf (.int .u64)] (blk b (BbrLs.lsM n1 n2 n3 n4 n5 n6 m)^blk n1 (BbrLs.lsW m.w)^blk n2 (BbrLs.lsR m.r)^blk n3 (BbrLs.lsP m.p)^blk n4 (BbrLs.lsC m.c)^blk n5 (BbrLs.lsB m.b)^blk n6 (BbrLs.lsL m.q)) (fun r=>pur (r=mFloor m) (blk b (BbrLs.lsM n1 n2 n3 n4 n5 n6 m)^blk n1 (BbrLs.lsW m.w)^blk n2 (BbrLs.lsR m.r)^blk n3 (BbrLs.lsP m.p)^blk n4 (BbrLs.lsC m.c)^blk n5 (BbrLs.lsB m.b)^blk n6 (BbrLs.lsL m.q))) :=
 tri_0 (call_bbr_Model_floor _) fun w0 S R h=>by
  unfold W_bbr_Model_floor
  repeat' (first
   | (refine w_drw h fun w h=>?_)
   | (refine w_deref ?_)
   | (refine w_ldAll h rfl ?_)
   | (refine w_ld h rfl ?_)
   | (refine w_chkAll h ?_)
   | (refine w_chk h rfl ?_)
   | (refine w_setAll h (by rfl) fun w h=>?_)
   | (refine w_new h fun n w h=>?_)
   | (refine w_leave h fun w h=>?_)
   | (refine w_set h rfl fun w h=>?_;dsimp only [upd,over] at h))
  have:=hm.mss
  exact Own.retP (wu (by omega) (by omega)) h.fin
theorem bdpm_tri (hm:OkM m) (g:Int) (hg:U g):Tri Tryz.prog N_bbr_Model_bdp [.lf (.ptr (some ⟨b,0⟩)),.lf (.int .u64 g)] [.lf (.int .u64)] (blk b (BbrLs.lsM n1 n2 n3 n4 n5 n6 m)^blk n1 (BbrLs.lsW m.w)^blk n2 (BbrLs.lsR m.r)^blk n3 (BbrLs.lsP m.p)^blk n4 (BbrLs.lsC m.c)^blk n5 (BbrLs.lsB m.b)^blk n6 (BbrLs.lsL m.q)) (fun r=>pur (r=mBdp m g) (blk b (BbrLs.lsM n1 n2 n3 n4 n5 n6 m)^blk n1 (BbrLs.lsW m.w)^blk n2 (BbrLs.lsR m.r)^blk n3 (BbrLs.lsP m.p)^blk n4 (BbrLs.lsC m.c)^blk n5 (BbrLs.lsB m.b)^blk n6 (BbrLs.lsL m.q))) :=
 tri_0 (call_bbr_Model_bdp _ _) fun w0 S R h=>by
  unfold W_bbr_Model_bdp
  have h:Own w0 S R w0 ((blk b (BbrLs.lsM n1 n2 n3 n4 n5 n6 m)^blk n1 (BbrLs.lsW m.w)^blk n2 (BbrLs.lsR m.r)^blk n3 (BbrLs.lsP m.p)^blk n4 (BbrLs.lsC m.c)^blk n5 (BbrLs.lsB m.b)^blk n6 (BbrLs.lsL m.q))^emp):=h.le (star_emp _)
  repeat' (first
   | (refine w_drw h fun w h=>?_)
   | (refine w_deref ?_)
   | (refine w_ldAll h rfl ?_)
   | (refine w_ld h rfl ?_)
   | (refine w_chkAll h ?_)
   | (refine w_chk h rfl ?_)
   | (refine w_setAll h (by rfl) fun w h=>?_)
   | (refine w_new h fun n w h=>?_)
   | (refine w_leave h fun w h=>?_)
   | (refine w_set h rfl fun w h=>?_;dsimp only [upd,over] at h)
   | (refine w_call (bw_tri b n1 n2 n3 n4 n5 n6 m) h fun r w h=>?_;obtain ⟨hr,h⟩:=h.purP;(try dsimp only at hr h);try rw [hr])
   | (refine w_call (bbest_tri n5 m.b) h fun r w h=>?_;obtain ⟨hr,h⟩:=h.purP;(try dsimp only at hr h);try rw [hr])
   | (refine w_call (bdp_tri (mBw m) m.b.best g hm.bw hm.b.best hg) h fun r w h=>?_;obtain ⟨hr,h⟩:=h.purP;(try dsimp only at hr h);try rw [hr]))
  exact Own.retP rfl h.fin
theorem cruise_tri (now:Int):Tri Tryz.prog N_bbr_Model_cruise [.lf (.ptr (some ⟨b,0⟩)),.lf (.int .u64 now)] [] (blk b (BbrLs.lsM n1 n2 n3 n4 n5 n6 m)^blk n1 (BbrLs.lsW m.w)^blk n2 (BbrLs.lsR m.r)^blk n3 (BbrLs.lsP m.p)^blk n4 (BbrLs.lsC m.c)^blk n5 (BbrLs.lsB m.b)^blk n6 (BbrLs.lsL m.q)) (fun _=>blk b (BbrLs.lsM n1 n2 n3 n4 n5 n6 ((mCruise m now)))^blk n1 (BbrLs.lsW ((mCruise m now).w))^blk n2 (BbrLs.lsR ((mCruise m now).r))^blk n3 (BbrLs.lsP ((mCruise m now).p))^blk n4 (BbrLs.lsC ((mCruise m now).c))^blk n5 (BbrLs.lsB ((mCruise m now).b))^blk n6 (BbrLs.lsL ((mCruise m now).q))) :=
 tri_0 (call_bbr_Model_cruise _ _) fun w0 S R h=>by
  unfold W_bbr_Model_cruise
  refine w_deref (w_setTo h b (BbrLs.lsM n1 n2 n3 n4 n5 n6 ((mCruise m now))) rfl rfl rfl fun w h=>?_)
  refine w_deref (w_ld h rfl ?_)
  refine w_call (cst_tri n4 m.c now 2 (by decide) (by decide)) h fun r w h=>?_
  show Own w0 S R w (blk b (BbrLs.lsM n1 n2 n3 n4 n5 n6 ((mCruise m now)))^blk n1 (BbrLs.lsW ((mCruise m now).w))^blk n2 (BbrLs.lsR ((mCruise m now).r))^blk n3 (BbrLs.lsP ((mCruise m now).p))^blk n4 (BbrLs.lsC ((mCruise m now).c))^blk n5 (BbrLs.lsB ((mCruise m now).b))^blk n6 (BbrLs.lsL ((mCruise m now).q)))
  exact h.fin
theorem back_tri:Tri Tryz.prog N_bbr_Model_back [.lf (.ptr (some ⟨b,0⟩))] [] (blk b (BbrLs.lsM n1 n2 n3 n4 n5 n6 m)^blk n1 (BbrLs.lsW m.w)^blk n2 (BbrLs.lsR m.r)^blk n3 (BbrLs.lsP m.p)^blk n4 (BbrLs.lsC m.c)^blk n5 (BbrLs.lsB m.b)^blk n6 (BbrLs.lsL m.q)) (fun _=>blk b (BbrLs.lsM n1 n2 n3 n4 n5 n6 ((mBack m)))^blk n1 (BbrLs.lsW ((mBack m).w))^blk n2 (BbrLs.lsR ((mBack m).r))^blk n3 (BbrLs.lsP ((mBack m).p))^blk n4 (BbrLs.lsC ((mBack m).c))^blk n5 (BbrLs.lsB ((mBack m).b))^blk n6 (BbrLs.lsL ((mBack m).q))) :=
 tri_0 (call_bbr_Model_back _) fun w0 S R h=>by
  unfold W_bbr_Model_back
  refine w_drw h fun w h=>w_deref (w_deref (w_ld h rfl (w_ld h rfl (w_deref ?_))))
  refine w_setTo h b (BbrLs.lsM n1 n2 n3 n4 n5 n6 ({ m with win:=if m.sav > m.win then m.sav else m.win })) rfl rfl rfl fun w h=>?_
  refine w_deref (w_setTo h b (BbrLs.lsM n1 n2 n3 n4 n5 n6 ((mBack m))) rfl rfl rfl fun w h=>?_)
  show Own w0 S R w (blk b (BbrLs.lsM n1 n2 n3 n4 n5 n6 ((mBack m)))^blk n1 (BbrLs.lsW ((mBack m).w))^blk n2 (BbrLs.lsR ((mBack m).r))^blk n3 (BbrLs.lsP ((mBack m).p))^blk n4 (BbrLs.lsC ((mBack m).c))^blk n5 (BbrLs.lsB ((mBack m).b))^blk n6 (BbrLs.lsL ((mBack m).q)))
  exact h.fin
theorem state_tri:Tri Tryz.prog N_bbr_Model_State [.lf (.ptr (some ⟨b,0⟩))] [.agg K_i2u6b2] (blk b (BbrLs.lsM n1 n2 n3 n4 n5 n6 m)^blk n1 (BbrLs.lsW m.w)^blk n2 (BbrLs.lsR m.r)^blk n3 (BbrLs.lsP m.p)^blk n4 (BbrLs.lsC m.c)^blk n5 (BbrLs.lsB m.b)^blk n6 (BbrLs.lsL m.q)) (fun r=>pur (r=mSt m) (blk b (BbrLs.lsM n1 n2 n3 n4 n5 n6 m)^blk n1 (BbrLs.lsW m.w)^blk n2 (BbrLs.lsR m.r)^blk n3 (BbrLs.lsP m.p)^blk n4 (BbrLs.lsC m.c)^blk n5 (BbrLs.lsB m.b)^blk n6 (BbrLs.lsL m.q))) :=
 tri_0 (call_bbr_Model_State _) fun w0 S R h=>by
  unfold W_bbr_Model_State
  refine w_new h fun x w h=>?_
  refine w_ite (fun c=>(by cases c)) fun _=>?_
  repeat' (first
   | (refine w_drw h fun w h=>?_)
   | (refine w_deref ?_)
   | (refine w_ldAll h rfl ?_)
   | (refine w_ld h rfl ?_)
   | (refine w_chkAll h ?_)
   | (refine w_chk h rfl ?_)
   | (refine w_setAll h (by rfl) fun w h=>?_)
   | (refine w_new h fun n w h=>?_)
   | (refine w_leave h fun w h=>?_)
   | (refine w_set h rfl fun w h=>?_;dsimp only [upd,over] at h)
   | (refine w_call (bw_tri b n1 n2 n3 n4 n5 n6 m) h fun r w h=>?_;obtain ⟨hr,h⟩:=h.purP;(try dsimp only at hr h);try rw [hr])
   | (refine w_call (bbest_tri n5 m.b) h fun r w h=>?_;obtain ⟨hr,h⟩:=h.purP;(try dsimp only at hr h);try rw [hr])
   | (refine w_call (gainm_tri b n1 n2 n3 n4 n5 n6 m) h fun r w h=>?_;obtain ⟨hr,h⟩:=h.purP;(try dsimp only at hr h);try rw [hr])
   | (refine w_call (count_tri n2 m.r) h fun r w h=>?_;obtain ⟨hr,h⟩:=h.purP;(try dsimp only at hr h);try rw [hr])
   | (refine w_call (phase_tri n4 m.c) h fun r w h=>?_;obtain ⟨hr,h⟩:=h.purP;(try dsimp only at hr h);try rw [hr])
   | (refine w_call (full_tri n3 m.p) h fun r w h=>?_;obtain ⟨hr,h⟩:=h.purP;(try dsimp only at hr h);try rw [hr])
   | (refine w_call (pol_tri b n1 n2 n3 n4 n5 n6 m) h fun r w h=>?_;obtain ⟨hr,h⟩:=h.purP;(try dsimp only at hr h);try rw [hr]))
  exact Own.retP rfl h.fin
end
end BbrN

namespace BbrO
open Arith ArithC _root_.Go.X.Target BbrM BbrMm BbrP BbrW BbrQ BbrL BbrN
section
variable (b n1 n2 n3 n4 n5 n6 : Nat) (m : Md) (hm : OkM m) (s : Sm) (hs : OkS s) (o : Bool)
include hm hs
theorem meas_tri:Tri Tryz.prog N_bbr_Model_measure [.lf (.ptr (some ⟨b,0⟩)),.agg (Ks.mk K_u8b s)] [] (blk b (BbrLs.lsM n1 n2 n3 n4 n5 n6 m)^blk n1 (BbrLs.lsW m.w)^blk n2 (BbrLs.lsR m.r)^blk n3 (BbrLs.lsP m.p)^blk n4 (BbrLs.lsC m.c)^blk n5 (BbrLs.lsB m.b)^blk n6 (BbrLs.lsL m.q)) (fun _=>blk b (BbrLs.lsM n1 n2 n3 n4 n5 n6 ((mMeas m s)))^blk n1 (BbrLs.lsW ((mMeas m s).w))^blk n2 (BbrLs.lsR ((mMeas m s).r))^blk n3 (BbrLs.lsP ((mMeas m s).p))^blk n4 (BbrLs.lsC ((mMeas m s).c))^blk n5 (BbrLs.lsB ((mMeas m s).b))^blk n6 (BbrLs.lsL ((mMeas m s).q))) :=
 tri_0 (call_bbr_Model_measure _ _) fun w0 S R h=>by
  unfold W_bbr_Model_measure
  refine w_new h fun x w h=>?_
  have h:Own w0 S R w ((blk b (BbrLs.lsM n1 n2 n3 n4 n5 n6 m)^blk n1 (BbrLs.lsW m.w)^blk n2 (BbrLs.lsR m.r)^blk n3 (BbrLs.lsP m.p)^blk n4 (BbrLs.lsC m.c)^blk n5 (BbrLs.lsB m.b)^blk n6 (BbrLs.lsL m.q))^blk x (Ks.mk K_u8b s)):=h.fin
  refine w_join h (fun _=>(blk b (BbrLs.lsM n1 n2 n3 n4 n5 n6 m)^blk n1 (BbrLs.lsW m.w)^blk n2 (BbrLs.lsR m.r)^blk n3 (BbrLs.lsP m.p)^blk n4 (BbrLs.lsC m.c)^blk n5 (BbrLs.lsB m.b)^blk n6 (BbrLs.lsL m.q))^blk x (Ks.mk K_u8b s)) (fun _=>¬ (sAck s=0∨sTim s=0)) (fun _ w c h=>?_) ?_
  ·repeat' (first
    | (refine w_drw h fun w h=>?_)
    | (refine w_deref ?_)
    | (refine w_ldAll h rfl ?_)
    | (refine w_ld h rfl ?_)
    | (refine w_chkAll h ?_)
    | (refine w_chk h rfl ?_)
    | (refine w_setAll h (by rfl) fun w h=>?_)
    | (refine w_new h fun n w h=>?_)
    | (refine w_leave h fun w h=>?_)
    | (refine w_set h rfl fun w h=>?_;dsimp only [upd,over] at h)
    | (refine w_call (satsub_tri (sDel s) (sPri s) hs.del hs.pri) h fun r w h=>?_;obtain ⟨hr,h⟩:=h.purP;(try dsimp only at hr h);try rw [hr])
    | (refine w_call (md_tri (subI (sDel s) (sPri s)) 1000000000 (sTim s) (U_sub hs.del hs.pri) (U_lit _) hs.tim) h fun r w h=>?_;obtain ⟨hr,h⟩:=h.purP;(try dsimp only at hr h);try rw [hr]))
   have hU:U (mK s):=U_md (U_sub hs.del hs.pri) (U_lit _) hs.tim
   refine w_join h (fun _=>(blk b (BbrLs.lsM n1 n2 n3 n4 n5 n6 m)^blk n1 (BbrLs.lsW m.w)^blk n2 (BbrLs.lsR m.r)^blk n3 (BbrLs.lsP m.p)^blk n4 (BbrLs.lsC m.c)^blk n5 (BbrLs.lsB m.b)^blk n6 (BbrLs.lsL m.q))^blk x (Ks.mk K_u8b s)) (fun y:Bool=>y=decide (sLim s=false∨mK s ≥ m.w.v0)) (fun (y:Bool) w hy h=>?_) ?_
   ·rw [hy]
    refine w_ite (fun c2=>?_) fun c2=>?_
    ·have c2:sLim s=false∨mK s ≥ m.w.v0:=by simpa using c2
     have e:mMeas m s={ m with w:=wUpd m.w m.r.n (mK s) }:=by unfold mMeas;rw [if_neg c,if_pos c2]
     rw [e]
     repeat' (first
      | (refine w_drw h fun w h=>?_)
      | (refine w_deref ?_)
      | (refine w_ldAll h rfl ?_)
      | (refine w_ld h rfl ?_)
      | (refine w_chkAll h ?_)
      | (refine w_chk h rfl ?_)
      | (refine w_setAll h (by rfl) fun w h=>?_)
      | (refine w_new h fun n w h=>?_)
      | (refine w_leave h fun w h=>?_)
      | (refine w_set h rfl fun w h=>?_;dsimp only [upd,over] at h)
      | (refine w_call (count_tri n2 m.r) h fun r w h=>?_;obtain ⟨hr,h⟩:=h.purP;(try dsimp only at hr h);try rw [hr])
      | (refine w_call (maxupd_tri n1 m.w hm.w m.r.n (mK s) hm.r.n hU) h fun r w h=>?_;obtain ⟨hr,h⟩:=h.purP;(try dsimp only at hr h);try rw [hr]))
     exact h.fin
    ·have c2:¬ (sLim s=false∨mK s ≥ m.w.v0):=by simpa using c2
     have e:mMeas m s=m:=by unfold mMeas;rw [if_neg c,if_neg c2]
     rw [e]
     exact h.fin
   ·repeat' (first
     | (refine w_drw h fun w h=>?_)
     | (refine w_deref ?_)
     | (refine w_ldAll h rfl ?_)
     | (refine w_ld h rfl ?_)
     | (refine w_chkAll h ?_)
     | (refine w_chk h rfl ?_)
     | (refine w_setAll h (by rfl) fun w h=>?_)
     | (refine w_new h fun n w h=>?_)
     | (refine w_leave h fun w h=>?_)
     | (refine w_set h rfl fun w h=>?_;dsimp only [upd,over] at h))
    refine w_ite (fun c2=>?_) fun c2=>?_
    ·have c2:sLim s=false:=by simpa using c2
     exact ⟨by simp [c2],h.fin⟩
    ·have c2:sLim s=true:=by simpa using c2
     repeat' (first
      | (refine w_drw h fun w h=>?_)
      | (refine w_deref ?_)
      | (refine w_ldAll h rfl ?_)
      | (refine w_ld h rfl ?_)
      | (refine w_chkAll h ?_)
      | (refine w_chk h rfl ?_)
      | (refine w_setAll h (by rfl) fun w h=>?_)
      | (refine w_new h fun n w h=>?_)
      | (refine w_leave h fun w h=>?_)
      | (refine w_set h rfl fun w h=>?_;dsimp only [upd,over] at h)
      | (refine w_call (best_tri n1 m.w) h fun r w h=>?_;obtain ⟨hr,h⟩:=h.purP;(try dsimp only at hr h);try rw [hr]))
     exact ⟨by rw [Bool.eq_iff_iff];simp [c2,mK],h.fin⟩
  ·repeat' (first
    | (refine w_drw h fun w h=>?_)
    | (refine w_deref ?_)
    | (refine w_ldAll h rfl ?_)
    | (refine w_ld h rfl ?_)
    | (refine w_chkAll h ?_)
    | (refine w_chk h rfl ?_)
    | (refine w_setAll h (by rfl) fun w h=>?_)
    | (refine w_new h fun n w h=>?_)
    | (refine w_leave h fun w h=>?_)
    | (refine w_set h rfl fun w h=>?_;dsimp only [upd,over] at h))
   refine w_ite (fun c=>?_) fun c=>?_
   ·have c:sAck s=0:=by simpa using c
    have e:mMeas m s=m:=by unfold mMeas;rw [if_pos (.inl c)]
    rw [e]
    exact h.fin
   repeat' (first
    | (refine w_drw h fun w h=>?_)
    | (refine w_deref ?_)
    | (refine w_ldAll h rfl ?_)
    | (refine w_ld h rfl ?_)
    | (refine w_chkAll h ?_)
    | (refine w_chk h rfl ?_)
    | (refine w_setAll h (by rfl) fun w h=>?_)
    | (refine w_new h fun n w h=>?_)
    | (refine w_leave h fun w h=>?_)
    | (refine w_set h rfl fun w h=>?_;dsimp only [upd,over] at h))
   have c:¬ sAck s=0:=by simpa using c
   refine w_ite (fun c2=>?_) fun c2=>?_
   ·have c2:sTim s=0:=by simpa using c2
    have e:mMeas m s=m:=by unfold mMeas;rw [if_pos (.inr c2)]
    rw [e]
    exact h.fin
   ·have c2:¬ sTim s=0:=by simpa using c2
    exact ⟨fun hh=>hh.elim c c2,h.fin⟩
theorem modes_tri:Tri Tryz.prog N_bbr_Model_modes [.lf (.ptr (some ⟨b,0⟩)),.agg (Ks.mk K_u8b s)] [] (blk b (BbrLs.lsM n1 n2 n3 n4 n5 n6 m)^blk n1 (BbrLs.lsW m.w)^blk n2 (BbrLs.lsR m.r)^blk n3 (BbrLs.lsP m.p)^blk n4 (BbrLs.lsC m.c)^blk n5 (BbrLs.lsB m.b)^blk n6 (BbrLs.lsL m.q)) (fun _=>blk b (BbrLs.lsM n1 n2 n3 n4 n5 n6 ((mM2 (mM1 m) s)))^blk n1 (BbrLs.lsW ((mM2 (mM1 m) s).w))^blk n2 (BbrLs.lsR ((mM2 (mM1 m) s).r))^blk n3 (BbrLs.lsP ((mM2 (mM1 m) s).p))^blk n4 (BbrLs.lsC ((mM2 (mM1 m) s).c))^blk n5 (BbrLs.lsB ((mM2 (mM1 m) s).b))^blk n6 (BbrLs.lsL ((mM2 (mM1 m) s).q))) :=
 tri_0 (call_bbr_Model_modes _ _) fun w0 S R h=>by
  unfold W_bbr_Model_modes
  refine w_new h fun x w h=>?_
  have h:Own w0 S R w ((blk b (BbrLs.lsM n1 n2 n3 n4 n5 n6 m)^blk n1 (BbrLs.lsW m.w)^blk n2 (BbrLs.lsR m.r)^blk n3 (BbrLs.lsP m.p)^blk n4 (BbrLs.lsC m.c)^blk n5 (BbrLs.lsB m.b)^blk n6 (BbrLs.lsL m.q))^blk x (Ks.mk K_u8b s)):=h.fin
  refine w_loopE (fun (_:Unit) (u:Md)=>(blk b (BbrLs.lsM n1 n2 n3 n4 n5 n6 u)^blk n1 (BbrLs.lsW u.w)^blk n2 (BbrLs.lsR u.r)^blk n3 (BbrLs.lsP u.p)^blk n4 (BbrLs.lsC u.c)^blk n5 (BbrLs.lsB u.b)^blk n6 (BbrLs.lsL u.q))^blk x (Ks.mk K_u8b s)) (fun _ u=>(OkM u∧mM1 u=mM1 m)) (fun _ u=>if u.mode=0 then 1 else 0) m h ⟨hm,rfl⟩ ?_
  rintro K _ u w ⟨hu,heq⟩ h hK
  rw [← heq]
  refine w_join h (fun _=>(blk b (BbrLs.lsM n1 n2 n3 n4 n5 n6 u)^blk n1 (BbrLs.lsW u.w)^blk n2 (BbrLs.lsR u.r)^blk n3 (BbrLs.lsP u.p)^blk n4 (BbrLs.lsC u.c)^blk n5 (BbrLs.lsB u.b)^blk n6 (BbrLs.lsL u.q))^blk x (Ks.mk K_u8b s)) (fun y:Bool=>y=decide (u.mode=0∧u.p.full=true)) (fun (y:Bool) w hy h=>?_) ?_
  ·rw [hy]
   refine w_ite (fun c=>?_) fun c=>?_
   ·have c:u.mode=0∧u.p.full=true:=by simpa using c
    refine w_deref (w_setTo h b (BbrLs.lsM n1 n2 n3 n4 n5 n6 ({ u with mode:=1 })) rfl rfl rfl fun w h=>?_)
    refine hK () { u with mode:=1 } w ⟨{ hu with mode:=by simp },?_⟩ h.fin ?_
    ·rw [← heq]
     have e1:mM1 u={ u with mode:=1 }:=by unfold mM1;rw [if_pos c]
     rw [e1]
     unfold mM1
     rw [if_neg (by simp)]
    ·rw [if_pos c.1,if_neg (by simp)];omega
   have c:¬ (u.mode=0∧u.p.full=true):=by simpa using c
   have e1:mM1 u=u:=by unfold mM1;rw [if_neg c]
   rw [e1]
   refine w_join h (fun _=>(blk b (BbrLs.lsM n1 n2 n3 n4 n5 n6 u)^blk n1 (BbrLs.lsW u.w)^blk n2 (BbrLs.lsR u.r)^blk n3 (BbrLs.lsP u.p)^blk n4 (BbrLs.lsC u.c)^blk n5 (BbrLs.lsB u.b)^blk n6 (BbrLs.lsL u.q))^blk x (Ks.mk K_u8b s)) (fun y:Bool=>y=decide (u.mode=1∧u.b.best > 0∧sFli s≤mBdp u 256)) (fun (y:Bool) w hy h=>?_) ?_
   ·rw [hy]
    refine w_ite (fun c2=>?_) fun c2=>?_
    ·have c2:u.mode=1∧u.b.best > 0∧sFli s≤mBdp u 256:=by simpa using c2
     have e:mM2 u s=mCruise u (sNow s):=by unfold mM2;rw [if_pos c2]
     rw [e]
     refine w_ld h rfl ?_
     refine w_call (cruise_tri b n1 n2 n3 n4 n5 n6 u (sNow s)) h fun _ w h=>?_
     exact h.fin
    ·have c2:¬ (u.mode=1∧u.b.best > 0∧sFli s≤mBdp u 256):=by simpa using c2
     have e:mM2 u s=u:=by unfold mM2;rw [if_neg c2]
     rw [e]
     exact h.fin
   ·repeat' (first
     | (refine w_drw h fun w h=>?_)
     | (refine w_deref ?_)
     | (refine w_ldAll h rfl ?_)
     | (refine w_ld h rfl ?_)
     | (refine w_chkAll h ?_)
     | (refine w_chk h rfl ?_)
     | (refine w_setAll h (by rfl) fun w h=>?_)
     | (refine w_new h fun n w h=>?_)
     | (refine w_leave h fun w h=>?_)
     | (refine w_set h rfl fun w h=>?_;dsimp only [upd,over] at h))
    refine w_ite (fun c2=>?_) fun c2=>?_
    ·have c2:u.mode=1:=by simpa using c2
     repeat' (first
      | (refine w_drw h fun w h=>?_)
      | (refine w_deref ?_)
      | (refine w_ldAll h rfl ?_)
      | (refine w_ld h rfl ?_)
      | (refine w_chkAll h ?_)
      | (refine w_chk h rfl ?_)
      | (refine w_setAll h (by rfl) fun w h=>?_)
      | (refine w_new h fun n w h=>?_)
      | (refine w_leave h fun w h=>?_)
      | (refine w_set h rfl fun w h=>?_;dsimp only [upd,over] at h)
      | (refine w_call (bbest_tri n5 u.b) h fun r w h=>?_;obtain ⟨hr,h⟩:=h.purP;(try dsimp only at hr h);try rw [hr]))
     refine w_ite (fun c3=>?_) fun c3=>?_
     ·have c3:u.b.best > 0:=by simpa using c3
      repeat' (first
       | (refine w_drw h fun w h=>?_)
       | (refine w_deref ?_)
       | (refine w_ldAll h rfl ?_)
       | (refine w_ld h rfl ?_)
       | (refine w_chkAll h ?_)
       | (refine w_chk h rfl ?_)
       | (refine w_setAll h (by rfl) fun w h=>?_)
       | (refine w_new h fun n w h=>?_)
       | (refine w_leave h fun w h=>?_)
       | (refine w_set h rfl fun w h=>?_;dsimp only [upd,over] at h)
       | (refine w_call (bdpm_tri b n1 n2 n3 n4 n5 n6 u hu 256 (U_lit _)) h fun r w h=>?_;obtain ⟨hr,h⟩:=h.purP;(try dsimp only at hr h);try rw [hr]))
      exact ⟨by rw [Bool.eq_iff_iff];simp [c2,c3],h.fin⟩
     ·have c3:¬ u.b.best > 0:=by simpa using c3
      exact ⟨by simp [c3],h.fin⟩
    ·have c2:¬ u.mode=1:=by simpa using c2
     exact ⟨by simp [c2],h.fin⟩
  ·repeat' (first
    | (refine w_drw h fun w h=>?_)
    | (refine w_deref ?_)
    | (refine w_ldAll h rfl ?_)
    | (refine w_ld h rfl ?_)
    | (refine w_chkAll h ?_)
    | (refine w_chk h rfl ?_)
    | (refine w_setAll h (by rfl) fun w h=>?_)
    | (refine w_new h fun n w h=>?_)
    | (refine w_leave h fun w h=>?_)
    | (refine w_set h rfl fun w h=>?_;dsimp only [upd,over] at h))
   refine w_ite (fun c=>?_) fun c=>?_
   ·have c:u.mode=0:=by simpa using c
    repeat' (first
     | (refine w_drw h fun w h=>?_)
     | (refine w_deref ?_)
     | (refine w_ldAll h rfl ?_)
     | (refine w_ld h rfl ?_)
     | (refine w_chkAll h ?_)
     | (refine w_chk h rfl ?_)
     | (refine w_setAll h (by rfl) fun w h=>?_)
     | (refine w_new h fun n w h=>?_)
     | (refine w_leave h fun w h=>?_)
     | (refine w_set h rfl fun w h=>?_;dsimp only [upd,over] at h)
     | (refine w_call (full_tri n3 u.p) h fun r w h=>?_;obtain ⟨hr,h⟩:=h.purP;(try dsimp only at hr h);try rw [hr]))
    exact ⟨by rw [Bool.eq_iff_iff];simp [c],h.fin⟩
   ·have c:¬ u.mode=0:=by simpa using c
    exact ⟨by simp [c],h.fin⟩
theorem look_tri:Tri Tryz.prog N_bbr_Model_look [.lf (.ptr (some ⟨b,0⟩)),.agg (Ks.mk K_u8b s),.lf (.bool o)] [] (blk b (BbrLs.lsM n1 n2 n3 n4 n5 n6 m)^blk n1 (BbrLs.lsW m.w)^blk n2 (BbrLs.lsR m.r)^blk n3 (BbrLs.lsP m.p)^blk n4 (BbrLs.lsC m.c)^blk n5 (BbrLs.lsB m.b)^blk n6 (BbrLs.lsL m.q)) (fun _=>blk b (BbrLs.lsM n1 n2 n3 n4 n5 n6 ((mLook m s o)))^blk n1 (BbrLs.lsW ((mLook m s o).w))^blk n2 (BbrLs.lsR ((mLook m s o).r))^blk n3 (BbrLs.lsP ((mLook m s o).p))^blk n4 (BbrLs.lsC ((mLook m s o).c))^blk n5 (BbrLs.lsB ((mLook m s o).b))^blk n6 (BbrLs.lsL ((mLook m s o).q))) :=
 tri_0 (call_bbr_Model_look _ _ _) fun w0 S R h=>by
  unfold W_bbr_Model_look
  refine w_new h fun x w h=>?_
  have h:Own w0 S R w ((blk b (BbrLs.lsM n1 n2 n3 n4 n5 n6 m)^blk n1 (BbrLs.lsW m.w)^blk n2 (BbrLs.lsR m.r)^blk n3 (BbrLs.lsP m.p)^blk n4 (BbrLs.lsC m.c)^blk n5 (BbrLs.lsB m.b)^blk n6 (BbrLs.lsL m.q))^blk x (Ks.mk K_u8b s)):=h.fin
  repeat' (first
   | (refine w_drw h fun w h=>?_)
   | (refine w_deref ?_)
   | (refine w_ldAll h rfl ?_)
   | (refine w_ld h rfl ?_)
   | (refine w_chkAll h ?_)
   | (refine w_chk h rfl ?_)
   | (refine w_setAll h (by rfl) fun w h=>?_)
   | (refine w_new h fun n w h=>?_)
   | (refine w_leave h fun w h=>?_)
   | (refine w_set h rfl fun w h=>?_;dsimp only [upd,over] at h)
   | (refine w_call (floor_tri b n1 n2 n3 n4 n5 n6 m hm) h fun r w h=>?_;obtain ⟨hr,h⟩:=h.purP;(try dsimp only at hr h);try rw [hr])
   | (refine w_call (bupd_tri n5 m.b hm.b (sNow s) (sRtt s) (sFli s) (mFloor m) o hs.now hs.rtt) h fun r w h=>?_;obtain ⟨hr,h⟩:=h.purP;(try dsimp only at hr h);try rw [hr]))
  have e:mLook m s o=mProbed { m with b:=(mPr m s o).2 } (mPr m s o).1 (sNow s):=rfl
  rw [e]
  have h:Own w0 S R w ((blk b (BbrLs.lsM n1 n2 n3 n4 n5 n6 (({ m with b:=(mPr m s o).2 })))^blk n1 (BbrLs.lsW (({ m with b:=(mPr m s o).2 }).w))^blk n2 (BbrLs.lsR (({ m with b:=(mPr m s o).2 }).r))^blk n3 (BbrLs.lsP (({ m with b:=(mPr m s o).2 }).p))^blk n4 (BbrLs.lsC (({ m with b:=(mPr m s o).2 }).c))^blk n5 (BbrLs.lsB (({ m with b:=(mPr m s o).2 }).b))^blk n6 (BbrLs.lsL (({ m with b:=(mPr m s o).2 }).q)))^blk x (Ks.mk K_u8b s)):=h.fin
  change ite' (mPr m s o).1.1 _ (ite' (mPr m s o).1.2 _ _) w
  generalize (mPr m s o).1=r at *
  generalize { m with b:=(mPr m s o).2 }=u at *
  refine w_ite (fun c=>?_) fun c=>?_
  ·have c:r.1=true:=c
   have e:mProbed u r (sNow s)={ u with sav:=if u.win > u.sav then u.win else u.sav,mode:=3 }:=by unfold mProbed;rw [if_pos c]
   rw [e]
   refine w_drw h fun w h=>w_deref (w_deref (w_ld h rfl (w_ld h rfl (w_deref ?_))))
   refine w_setTo h b (BbrLs.lsM n1 n2 n3 n4 n5 n6 ({ u with sav:=if u.win > u.sav then u.win else u.sav })) rfl rfl rfl fun w h=>?_
   refine w_deref (w_setTo h b (BbrLs.lsM n1 n2 n3 n4 n5 n6 ({ u with sav:=if u.win > u.sav then u.win else u.sav,mode:=3 })) rfl rfl rfl fun w h=>?_)
   exact h.fin
  have c:r.1=false:=c
  refine w_ite (fun c2=>?_) fun c2=>?_
  ·have c2:r.2=true:=c2
   have e:mProbed u r (sNow s)=if u.p.full then mCruise { mBack u with mode:=0 } (sNow s) else { mBack u with mode:=0 }:=by unfold mProbed;rw [if_neg (by rw [c];simp),if_pos c2]
   rw [e]
   refine w_call (back_tri b n1 n2 n3 n4 n5 n6 u) h fun _ w h=>?_
   refine w_deref (w_setTo h b (BbrLs.lsM n1 n2 n3 n4 n5 n6 ({ mBack u with mode:=0 })) rfl rfl rfl fun w h=>?_)
   refine w_deref (w_ld h rfl ?_)
   refine w_call (full_tri n3 u.p) h fun r w h=>?_
   obtain ⟨hr,h⟩:=h.purP;rw [hr]
   refine w_ite (fun c3=>?_) fun c3=>?_
   ·have c3:u.p.full=true:=c3
    rw [if_pos c3]
    refine w_ld h rfl ?_
    refine w_call (cruise_tri b n1 n2 n3 n4 n5 n6 { mBack u with mode:=0 } (sNow s)) h fun _ w h=>?_
    exact h.fin
   ·have c3:u.p.full=false:=c3
    rw [if_neg (by rw [c3];simp)]
    exact h.fin
  ·have c2:r.2=false:=c2
   have e:mProbed u r (sNow s)=u:=by unfold mProbed;rw [if_neg (by rw [c];simp),if_neg (by rw [c2];simp)]
   rw [e]
   exact h.fin
theorem rec_tri:Tri Tryz.prog N_bbr_Model_recover [.lf (.ptr (some ⟨b,0⟩)),.agg (Ks.mk K_u8b s),.lf (.bool o)] [] (blk b (BbrLs.lsM n1 n2 n3 n4 n5 n6 m)^blk n1 (BbrLs.lsW m.w)^blk n2 (BbrLs.lsR m.r)^blk n3 (BbrLs.lsP m.p)^blk n4 (BbrLs.lsC m.c)^blk n5 (BbrLs.lsB m.b)^blk n6 (BbrLs.lsL m.q)) (fun _=>blk b (BbrLs.lsM n1 n2 n3 n4 n5 n6 ((mRecover m s o)))^blk n1 (BbrLs.lsW ((mRecover m s o).w))^blk n2 (BbrLs.lsR ((mRecover m s o).r))^blk n3 (BbrLs.lsP ((mRecover m s o).p))^blk n4 (BbrLs.lsC ((mRecover m s o).c))^blk n5 (BbrLs.lsB ((mRecover m s o).b))^blk n6 (BbrLs.lsL ((mRecover m s o).q))) :=
 tri_0 (call_bbr_Model_recover _ _ _) fun w0 S R h=>by
  unfold W_bbr_Model_recover
  refine w_new h fun x w h=>?_
  have h:Own w0 S R w ((blk b (BbrLs.lsM n1 n2 n3 n4 n5 n6 m)^blk n1 (BbrLs.lsW m.w)^blk n2 (BbrLs.lsR m.r)^blk n3 (BbrLs.lsP m.p)^blk n4 (BbrLs.lsC m.c)^blk n5 (BbrLs.lsB m.b)^blk n6 (BbrLs.lsL m.q))^blk x (Ks.mk K_u8b s)):=h.fin
  refine w_join h (fun _=>(blk b (BbrLs.lsM n1 n2 n3 n4 n5 n6 m)^blk n1 (BbrLs.lsW m.w)^blk n2 (BbrLs.lsR m.r)^blk n3 (BbrLs.lsP m.p)^blk n4 (BbrLs.lsC m.c)^blk n5 (BbrLs.lsB m.b)^blk n6 (BbrLs.lsL m.q))^blk x (Ks.mk K_u8b s)) (fun y:Bool=>y=decide (sLost s > 0∧m.rec'=false)) (fun (y:Bool) w hy h=>?_) ?_
  ·rw [hy]
   refine w_ite (fun c=>?_) fun c=>?_
   ·have c:sLost s > 0∧m.rec'=false:=by simpa using c
    have e:mRecover m s o={ m with rec':=true,first:=true,til:=addI (sDel s) (sFli s),sav:=if m.win > m.sav then m.win else m.sav }:=by unfold mRecover;rw [if_pos c]
    rw [e]
    refine w_ld h rfl (w_ld h rfl ?_)
    refine w_call (satadd_tri (sDel s) (sFli s) hs.del hs.fli) (h.le ((star_comm _ _).trans (star_mono Le.rfl (star_emp _)))) fun r w h=>?_
    obtain ⟨hr,h⟩:=h.purP;rw [hr]
    refine w_deref (w_setTo h b (BbrLs.lsM n1 n2 n3 n4 n5 n6 ({ m with rec':=true })) rfl rfl rfl fun w h=>?_)
    refine w_deref (w_setTo h b (BbrLs.lsM n1 n2 n3 n4 n5 n6 ({ m with rec':=true,first:=true })) rfl rfl rfl fun w h=>?_)
    refine w_deref (w_setTo h b (BbrLs.lsM n1 n2 n3 n4 n5 n6 ({ m with rec':=true,first:=true,til:=addI (sDel s) (sFli s) })) rfl rfl rfl fun w h=>?_)
    refine w_drw h fun w h=>w_deref (w_deref (w_ld h rfl (w_ld h rfl (w_deref ?_))))
    refine w_setTo h b (BbrLs.lsM n1 n2 n3 n4 n5 n6 ({ m with rec':=true,first:=true,til:=addI (sDel s) (sFli s),sav:=if m.win > m.sav then m.win else m.sav })) rfl rfl rfl fun w h=>?_
    exact h.fin
   have c:¬ (sLost s > 0∧m.rec'=false):=by simpa using c
   refine w_deref (w_ld h rfl ?_)
   refine w_ite (fun c2=>?_) fun c2=>?_
   ·have c2:m.rec'=true:=c2
    have e:mRecover m s o=if sDel s < m.til then { m with first:=m.first && !o } else mOver { m with first:=m.first && !o }:=by unfold mRecover;rw [if_neg c,if_pos c2]
    rw [e]
    refine w_deref (w_ld h rfl (w_deref ?_))
    refine w_setTo h b (BbrLs.lsM n1 n2 n3 n4 n5 n6 ({ m with first:=m.first && !o })) rfl rfl rfl fun w h=>?_
    refine w_drw h fun w h=>w_ld h rfl (w_deref (w_ld h rfl ?_))
    refine w_ite (fun c3=>?_) fun c3=>?_
    ·have c3:sDel s < m.til:=by simpa using c3
     rw [if_pos c3]
     exact h.fin
    have c3:¬ sDel s < m.til:=by simpa using c3
    rw [if_neg c3]
    have h:Own w0 S R w ((blk b (BbrLs.lsM n1 n2 n3 n4 n5 n6 (({ m with first:=m.first && !o })))^blk n1 (BbrLs.lsW (({ m with first:=m.first && !o }).w))^blk n2 (BbrLs.lsR (({ m with first:=m.first && !o }).r))^blk n3 (BbrLs.lsP (({ m with first:=m.first && !o }).p))^blk n4 (BbrLs.lsC (({ m with first:=m.first && !o }).c))^blk n5 (BbrLs.lsB (({ m with first:=m.first && !o }).b))^blk n6 (BbrLs.lsL (({ m with first:=m.first && !o }).q)))^blk x (Ks.mk K_u8b s)):=h.fin
    generalize { m with first:=m.first && !o }=u at *
    refine w_deref (w_setTo h b (BbrLs.lsM n1 n2 n3 n4 n5 n6 ({ u with rec':=false })) rfl rfl rfl fun w h=>?_)
    refine w_deref (w_setTo h b (BbrLs.lsM n1 n2 n3 n4 n5 n6 ({ u with rec':=false,first:=false })) rfl rfl rfl fun w h=>?_)
    refine w_deref (w_ld h rfl ?_)
    refine w_ite (fun c4=>?_) fun c4=>?_
    ·have c4:u.mode≠3:=by simpa using c4
     have e:mOver u=mBack { u with rec':=false,first:=false }:=by unfold mOver;rw [if_pos c4]
     rw [e]
     refine w_call (back_tri b n1 n2 n3 n4 n5 n6 { u with rec':=false,first:=false }) h fun _ w h=>?_
     exact h.fin
    ·have c4:¬ u.mode≠3:=by simpa using c4
     have e:mOver u={ u with rec':=false,first:=false }:=by unfold mOver;rw [if_neg c4]
     rw [e]
     exact h.fin
   ·have c2:m.rec'=false:=c2
    have e:mRecover m s o=m:=by unfold mRecover;rw [if_neg c,if_neg (by rw [c2];simp)]
    rw [e]
    exact h.fin
  ·refine w_ld h rfl ?_
   refine w_ite (fun c=>?_) fun c=>?_
   ·have c:sLost s > 0:=by simpa using c
    refine w_deref (w_ld h rfl ?_)
    exact ⟨by rw [Bool.eq_iff_iff];simp [c],h⟩
   ·have c:¬ sLost s > 0:=by simpa using c
    exact ⟨by simp [c],h⟩
omit hs in
theorem pace_tri:Tri Tryz.prog N_bbr_Model_pace [.lf (.ptr (some ⟨b,0⟩))] [] (blk b (BbrLs.lsM n1 n2 n3 n4 n5 n6 m)^blk n1 (BbrLs.lsW m.w)^blk n2 (BbrLs.lsR m.r)^blk n3 (BbrLs.lsP m.p)^blk n4 (BbrLs.lsC m.c)^blk n5 (BbrLs.lsB m.b)^blk n6 (BbrLs.lsL m.q)) (fun _=>blk b (BbrLs.lsM n1 n2 n3 n4 n5 n6 ((mPace m)))^blk n1 (BbrLs.lsW ((mPace m).w))^blk n2 (BbrLs.lsR ((mPace m).r))^blk n3 (BbrLs.lsP ((mPace m).p))^blk n4 (BbrLs.lsC ((mPace m).c))^blk n5 (BbrLs.lsB ((mPace m).b))^blk n6 (BbrLs.lsL ((mPace m).q))) :=
 tri_0 (call_bbr_Model_pace _) fun w0 S R h=>by
  unfold W_bbr_Model_pace
  have h:Own w0 S R w0 ((blk b (BbrLs.lsM n1 n2 n3 n4 n5 n6 m)^blk n1 (BbrLs.lsW m.w)^blk n2 (BbrLs.lsR m.r)^blk n3 (BbrLs.lsP m.p)^blk n4 (BbrLs.lsC m.c)^blk n5 (BbrLs.lsB m.b)^blk n6 (BbrLs.lsL m.q))^emp):=h.le (star_emp _)
  repeat' (first
   | (refine w_drw h fun w h=>?_)
   | (refine w_deref ?_)
   | (refine w_ldAll h rfl ?_)
   | (refine w_ld h rfl ?_)
   | (refine w_chkAll h ?_)
   | (refine w_chk h rfl ?_)
   | (refine w_setAll h (by rfl) fun w h=>?_)
   | (refine w_new h fun n w h=>?_)
   | (refine w_leave h fun w h=>?_)
   | (refine w_set h rfl fun w h=>?_;dsimp only [upd,over] at h)
   | (refine w_call (bw_tri b n1 n2 n3 n4 n5 n6 m) h fun r w h=>?_;obtain ⟨hr,h⟩:=h.purP;(try dsimp only at hr h);try rw [hr]))
  refine w_ite (fun c=>?_) fun c=>?_
  ·have c:mBw m=0:=by simpa using c
   have e:mPace m=m:=by unfold mPace;rw [if_pos c]
   rw [e]
   exact h.fin
  have c:¬ mBw m=0:=by simpa using c
  repeat' (first
   | (refine w_drw h fun w h=>?_)
   | (refine w_deref ?_)
   | (refine w_ldAll h rfl ?_)
   | (refine w_ld h rfl ?_)
   | (refine w_chkAll h ?_)
   | (refine w_chk h rfl ?_)
   | (refine w_setAll h (by rfl) fun w h=>?_)
   | (refine w_new h fun n w h=>?_)
   | (refine w_leave h fun w h=>?_)
   | (refine w_set h rfl fun w h=>?_;dsimp only [upd,over] at h)
   | (refine w_call (bw_tri b n1 n2 n3 n4 n5 n6 m) h fun r w h=>?_;obtain ⟨hr,h⟩:=h.purP;(try dsimp only at hr h);try rw [hr])
   | (refine w_call (gainm_tri b n1 n2 n3 n4 n5 n6 m) h fun r w h=>?_;obtain ⟨hr,h⟩:=h.purP;(try dsimp only at hr h);try rw [hr])
   | (refine w_call (rate_tri (mBw m) (mGain m) hm.bw (U_gain m)) h fun r w h=>?_;obtain ⟨hr,h⟩:=h.purP;(try dsimp only at hr h);try rw [hr]))
  have e:mPace m=if m.p.full=true∨mRt m > m.rate then { m with rate:=mRt m } else m:=by unfold mPace;rw [if_neg c]
  rw [e]
  have h:Own w0 S R _ (blk b (BbrLs.lsM n1 n2 n3 n4 n5 n6 m)^blk n1 (BbrLs.lsW m.w)^blk n2 (BbrLs.lsR m.r)^blk n3 (BbrLs.lsP m.p)^blk n4 (BbrLs.lsC m.c)^blk n5 (BbrLs.lsB m.b)^blk n6 (BbrLs.lsL m.q)):=h.fin
  refine w_join h (fun _=>blk b (BbrLs.lsM n1 n2 n3 n4 n5 n6 m)^blk n1 (BbrLs.lsW m.w)^blk n2 (BbrLs.lsR m.r)^blk n3 (BbrLs.lsP m.p)^blk n4 (BbrLs.lsC m.c)^blk n5 (BbrLs.lsB m.b)^blk n6 (BbrLs.lsL m.q)) (fun y:Bool=>y=decide (m.p.full=true∨mRt m > m.rate)) (fun (y:Bool) w hy h=>?_) ?_
  ·rw [hy]
   refine w_ite (fun c2=>?_) fun c2=>?_
   ·have c2:m.p.full=true∨mRt m > m.rate:=by simpa using c2
    rw [if_pos c2]
    refine w_deref (w_setTo h b (BbrLs.lsM n1 n2 n3 n4 n5 n6 ({ m with rate:=mRt m })) rfl rfl rfl fun w h=>?_)
    exact h.fin
   ·have c2:¬ (m.p.full=true∨mRt m > m.rate):=by simpa using c2
    rw [if_neg c2]
    exact h.fin
  ·repeat' (first
    | (refine w_drw h fun w h=>?_)
    | (refine w_deref ?_)
    | (refine w_ldAll h rfl ?_)
    | (refine w_ld h rfl ?_)
    | (refine w_chkAll h ?_)
    | (refine w_chk h rfl ?_)
    | (refine w_setAll h (by rfl) fun w h=>?_)
    | (refine w_new h fun n w h=>?_)
    | (refine w_leave h fun w h=>?_)
    | (refine w_set h rfl fun w h=>?_;dsimp only [upd,over] at h)
    | (refine w_call (full_tri n3 m.p) h fun r w h=>?_;obtain ⟨hr,h⟩:=h.purP;(try dsimp only at hr h);try rw [hr]))
   refine w_ite (fun c2=>?_) fun c2=>?_
   ·have c2:m.p.full=true:=c2
    exact ⟨by simp [c2],h.fin⟩
   ·have c2:m.p.full=false:=c2
    repeat' (first
     | (refine w_drw h fun w h=>?_)
     | (refine w_deref ?_)
     | (refine w_ldAll h rfl ?_)
     | (refine w_ld h rfl ?_)
     | (refine w_chkAll h ?_)
     | (refine w_chk h rfl ?_)
     | (refine w_setAll h (by rfl) fun w h=>?_)
     | (refine w_new h fun n w h=>?_)
     | (refine w_leave h fun w h=>?_)
     | (refine w_set h rfl fun w h=>?_;dsimp only [upd,over] at h))
    exact ⟨by rw [Bool.eq_iff_iff];simp [c2,mRt],h.fin⟩
end
end BbrO

end Go.X
