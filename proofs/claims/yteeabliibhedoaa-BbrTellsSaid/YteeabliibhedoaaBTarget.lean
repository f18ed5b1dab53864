/- Contracts and plain facts: Target. -/
import Derived.Test.YteeabliibhedoaaBPlain
import Derived.Test.YteeabliibhedoaaBArith
import Derived.Test.YteeabliibhedoaaBArithC
import Derived.Test.YteeabliibhedoaaXw
import Derived.Test.YteeabliibhedoaaK
import Derived.Test.YteeabliibhedoaaF0
import Derived.Test.YteeabliibhedoaaF1
set_option linter.unusedVariables false
set_option linter.unusedSimpArgs false
set_option linter.unusedSectionVars false
namespace Go.X
open Go.Proofs
namespace Target
open Arith ArithC
abbrev KP : Ks := [.int .u64, .int .u64]
def scF : Int → List (Int × Int) → Int
  | v, [] => v
  | v, p :: r => if v = 0 then v else scF (mdI v p.1 p.2) r
theorem sc_tri (v : Int) (s : Sl) (ps : List (Int × Int)) (hv : U v) (hp : ∀ p ∈ ps, U p.1 ∧ U p.2) (hl : ps.length ≤ 1000000) :
    Tri Try.prog N_target_scaled [.lf (.int .u64 v), .lf (.sl s)] [.lf (.int .u64)] (arr s KP ps) (fun r => pur (r = scF v ps) (arr s KP ps)) :=
  tri_0 (call_target_scaled v s) fun w0 S R h => by
    unfold W_target_scaled
    have h : Own w0 S R w0 (arr s KP ps ^ emp) := h.le (star_emp _)
    have hs := (h.rd (s := s)).2
    refine w_loop (fun (_ : Int × Int) => arr s KP ps ^ emp) (fun (y : Int × Int) => ((0 ≤ y.2 ∧ y.2 ≤ ps.length) ∧ U y.1) ∧ scF y.1 (ps.drop y.2.toNat) = scF v ps) (fun (y : Int × Int) => ps.length - y.2.toNat) h ⟨⟨⟨by simp, by simp⟩, hv⟩, rfl⟩ ?_
    rintro (⟨n, i⟩ : Int × Int) w ⟨⟨⟨h0, h1⟩, hn⟩, h2⟩ h
    dsimp only at h0 h1 h2 hn h ⊢
    refine w_ite (fun c => ?_) fun c => ?_
    · have hi : i.toNat < ps.length := by simp at c; omega
      obtain ⟨p, hpp⟩ : ∃ p, ps[i.toNat]? = some p := ⟨_, at_some hi⟩
      have hU := hp p (List.mem_of_getElem? hpp)
      rw [drop_at hpp, scF] at h2
      refine w_idx h h0 hi (w_ldE h s i.toNat hpp rfl ?_)
      refine w_new h fun n5 w h => ?_
      refine w_setAll h (by rfl) fun w h => ?_
      refine w_ite (fun c2 => ?_) fun c2 => ?_
      · have c2 : n = 0 := by simpa using c2
        rw [if_pos c2] at h2
        exact Own.retP h2 h.fin
      have c2 : ¬ n = 0 := by simpa using c2
      rw [if_neg c2] at h2
      have h : Own w0 S R w (blk n5 [.int .u64 p.1, .int .u64 p.2] ^ arr s KP ps ^ emp) := h
      refine ⟨by decide, w_ld h rfl ⟨by decide, w_ld h rfl ?_⟩⟩
      refine w_call (md_tri n p.1 p.2 hn hU.1 hU.2) h fun r w h => ?_
      obtain ⟨hr, h⟩ := h.purP
      rw [hr, wi (n := i + 1) (by omega) (by omega)]
      refine ⟨⟨⟨⟨⟨by show 0 ≤ i + 1; omega, by show i + 1 ≤ _; omega⟩, U_md hn hU.1 hU.2⟩, ?_⟩, h.fin⟩, by show _ - (i + 1).toNat < _; omega⟩
      show scF (mdI n p.1 p.2) (ps.drop (i + 1).toNat) = _
      rw [show (i + 1).toNat = i.toNat + 1 by omega]
      exact h2
    · have hi : i.toNat = ps.length := by simp at c; omega
      rw [hi, List.drop_length] at h2
      exact Own.retP h2 h.fin
theorem md0 (b c : Int) : mdI 0 b c = 0 := by unfold mdI; simp
theorem rate_tri (bw g : Int) (hb : U bw) (hg : U g) : Tri Try.prog N_target_Rate [.lf (.int .u64 bw), .lf (.int .u64 g)] [.lf (.int .u64)] emp (fun r => pur (r = rateI bw g) emp) :=
  tri_0 (call_target_Rate bw g) fun w0 S R h => by
    unfold W_target_Rate
    refine w_new h fun n1 w h => ?_
    have h := h.arrOf ⟨some ⟨n1, 0⟩, 1, 1⟩ ⟨n1, 0⟩ KP [(g, (256 : Int))] rfl rfl (Nat.le_refl _) (by simp) (by simp) (fun i hi => by
      have : i < 2 := hi
      match i with | 0 => rfl | 1 => rfl)
    refine w_call (sc_tri bw ⟨some ⟨n1, 0⟩, 1, 1⟩ [(g, 256)] hb (by intro p hp; rw [List.mem_singleton] at hp; rw [hp]; exact ⟨hg, U_lit _⟩) (by simp)) h fun r w h => ?_
    obtain ⟨hr, h⟩ := h.purP
    refine Own.retP ?_ h.fin
    rw [hr]
    show (if bw = 0 then bw else mdI bw g 256) = _
    split
    · rename_i h; rw [h, rateI, md0]
    · rfl
theorem bdp_tri (bw rtt g : Int) (hb : U bw) (hq : U rtt) (hg : U g) : Tri Try.prog N_target_Bdp [.lf (.int .u64 bw), .lf (.int .u64 rtt), .lf (.int .u64 g)] [.lf (.int .u64)] emp (fun r => pur (r = bdpI bw rtt g) emp) :=
  tri_0 (call_target_Bdp bw rtt g) fun w0 S R h => by
    unfold W_target_Bdp
    refine w_new h fun n1 w h => ?_
    have h := h.arrOf ⟨some ⟨n1, 0⟩, 2, 2⟩ ⟨n1, 0⟩ KP [(rtt, (1000000000 : Int)), (g, (256 : Int))] rfl rfl (Nat.le_refl _) (by simp) (by simp) (fun i hi => by
      have : i < 4 := hi
      match i with | 0 => rfl | 1 => rfl | 2 => rfl | 3 => rfl)
    refine w_call (sc_tri bw ⟨some ⟨n1, 0⟩, 2, 2⟩ [(rtt, 1000000000), (g, 256)] hb (by
      intro p hp
      simp only [List.mem_cons, List.not_mem_nil, or_false] at hp
      rcases hp with hp | hp <;> rw [hp]
      · exact ⟨hq, U_lit _⟩
      · exact ⟨hg, U_lit _⟩) (by simp)) h fun r w h => ?_
    obtain ⟨hr, h⟩ := h.purP
    refine Own.retP ?_ h.fin
    rw [hr]
    show (if bw = 0 then bw else if mdI bw rtt 1000000000 = 0 then mdI bw rtt 1000000000 else mdI (mdI bw rtt 1000000000) g 256) = _
    unfold bdpI
    split
    · rename_i h; rw [h, md0, md0]
    · split
      · rename_i h; rw [h, md0]
      · rfl
theorem win_tri (bw rtt g tso mss : Int) (hb : U bw) (hq : U rtt) (hg : U g) (ht : U tso) (hm : U mss) : Tri Try.prog N_target_Window [.lf (.int .u64 bw), .lf (.int .u64 rtt), .lf (.int .u64 g), .lf (.int .u64 tso), .lf (.int .u64 mss)] [.lf (.int .u64)] emp (fun r => pur (r = winI bw rtt g tso mss) emp) :=
  tri_0 (call_target_Window bw rtt g tso mss) fun w0 S R h => by
    unfold W_target_Window
    refine w_ite (fun c => ?_) fun c => ?_
    · repeat' (first
        | (refine w_drw h fun w h => ?_)
        | (refine w_deref ?_)
        | (refine w_ldAll h rfl ?_)
        | (refine w_ld h rfl ?_)
        | (refine w_chkAll h ?_)
        | (refine w_chk h rfl ?_)
        | (refine w_setAll h (by rfl) fun w h => ?_)
        | (refine w_new h fun n w h => ?_)
        | (refine w_leave h fun w h => ?_)
        | (refine w_set h rfl fun w h => ?_; dsimp only [upd, over] at h)
        | (refine w_call (satmul_tri 10 mss (U_lit _) hm) h fun r w h => ?_; obtain ⟨hr, h⟩ := h.purP; (try dsimp only at hr h); try rw [hr]))
      exact Own.retP (by unfold winI; rw [if_pos (show rtt = 0 by simpa using c)]) h.fin
    · repeat' (first
        | (refine w_drw h fun w h => ?_)
        | (refine w_deref ?_)
        | (refine w_ldAll h rfl ?_)
        | (refine w_ld h rfl ?_)
        | (refine w_chkAll h ?_)
        | (refine w_chk h rfl ?_)
        | (refine w_setAll h (by rfl) fun w h => ?_)
        | (refine w_new h fun n w h => ?_)
        | (refine w_leave h fun w h => ?_)
        | (refine w_set h rfl fun w h => ?_; dsimp only [upd, over] at h)
        | (refine w_call (bdp_tri bw rtt g hb hq hg) h fun r w h => ?_; obtain ⟨hr, h⟩ := h.purP; (try dsimp only at hr h); try rw [hr])
        | (refine w_call (satmul_tri 3 tso (U_lit _) ht) h fun r w h => ?_; obtain ⟨hr, h⟩ := h.purP; (try dsimp only at hr h); try rw [hr])
        | (refine w_call (satmul_tri 4 mss (U_lit _) hm) h fun r w h => ?_; obtain ⟨hr, h⟩ := h.purP; (try dsimp only at hr h); try rw [hr])
        | (refine w_call (satadd_tri (bdpI bw rtt g) (mulI 3 tso) (U_bdp hb hq hg) (U_mul (U_lit _) ht)) h fun r w h => ?_; obtain ⟨hr, h⟩ := h.purP; (try dsimp only at hr h); try rw [hr]))
      exact Own.retP (by unfold winI; rw [if_neg (show ¬ rtt = 0 by simpa using c)]) h.fin
theorem rrate_tri (bw g : Int) (hb : U bw) (hg : U g) : Tri Try.prog N_canterref01_Rate [.lf (.int .u64 bw), .lf (.int .u64 g)] [.lf (.int .u64)] emp (fun r => pur (r = rateI bw g) emp) :=
  tri_0 (call_canterref01_Rate bw g) fun w0 S R h => by
    unfold W_canterref01_Rate
    repeat' (first
      | (refine w_drw h fun w h => ?_)
      | (refine w_deref ?_)
      | (refine w_ldAll h rfl ?_)
      | (refine w_ld h rfl ?_)
      | (refine w_chkAll h ?_)
      | (refine w_chk h rfl ?_)
      | (refine w_setAll h (by rfl) fun w h => ?_)
      | (refine w_new h fun n w h => ?_)
      | (refine w_leave h fun w h => ?_)
      | (refine w_set h rfl fun w h => ?_; dsimp only [upd, over] at h)
      | (refine w_call (rmd_tri bw g 256 hb hg (U_lit _)) h fun r w h => ?_; obtain ⟨hr, h⟩ := h.purP; (try dsimp only at hr h); try rw [hr]))
    exact Own.retP rfl h.fin
theorem rbdp_tri (bw rtt g : Int) (hb : U bw) (hq : U rtt) (hg : U g) : Tri Try.prog N_canterref01_Bdp [.lf (.int .u64 bw), .lf (.int .u64 rtt), .lf (.int .u64 g)] [.lf (.int .u64)] emp (fun r => pur (r = bdpI bw rtt g) emp) :=
  tri_0 (call_canterref01_Bdp bw rtt g) fun w0 S R h => by
    unfold W_canterref01_Bdp
    repeat' (first
      | (refine w_drw h fun w h => ?_)
      | (refine w_deref ?_)
      | (refine w_ldAll h rfl ?_)
      | (refine w_ld h rfl ?_)
      | (refine w_chkAll h ?_)
      | (refine w_chk h rfl ?_)
      | (refine w_setAll h (by rfl) fun w h => ?_)
      | (refine w_new h fun n w h => ?_)
      | (refine w_leave h fun w h => ?_)
      | (refine w_set h rfl fun w h => ?_; dsimp only [upd, over] at h)
      | (refine w_call (rmd_tri bw rtt 1000000000 hb hq (U_lit _)) h fun r w h => ?_; obtain ⟨hr, h⟩ := h.purP; (try dsimp only at hr h); try rw [hr])
      | (refine w_call (rmd_tri (mdI bw rtt 1000000000) g 256 (U_md hb hq (U_lit _)) hg (U_lit _)) h fun r w h => ?_; obtain ⟨hr, h⟩ := h.purP; (try dsimp only at hr h); try rw [hr]))
    exact Own.retP rfl h.fin
theorem rwin_tri (bw rtt g tso mss : Int) (hb : U bw) (hq : U rtt) (hg : U g) (ht : U tso) (hm : U mss) : Tri Try.prog N_canterref01_Window [.lf (.int .u64 bw), .lf (.int .u64 rtt), .lf (.int .u64 g), .lf (.int .u64 tso), .lf (.int .u64 mss)] [.lf (.int .u64)] emp (fun r => pur (r = winI bw rtt g tso mss) emp) :=
  tri_0 (call_canterref01_Window bw rtt g tso mss) fun w0 S R h => by
    unfold W_canterref01_Window
    refine w_ite (fun c => ?_) fun c => ?_
    · repeat' (first
        | (refine w_drw h fun w h => ?_)
        | (refine w_deref ?_)
        | (refine w_ldAll h rfl ?_)
        | (refine w_ld h rfl ?_)
        | (refine w_chkAll h ?_)
        | (refine w_chk h rfl ?_)
        | (refine w_setAll h (by rfl) fun w h => ?_)
        | (refine w_new h fun n w h => ?_)
        | (refine w_leave h fun w h => ?_)
        | (refine w_set h rfl fun w h => ?_; dsimp only [upd, over] at h)
        | (refine w_call (rmul_tri 10 mss (U_lit _) hm) h fun r w h => ?_; obtain ⟨hr, h⟩ := h.purP; (try dsimp only at hr h); try rw [hr]))
      exact Own.retP (by unfold winI; rw [if_pos (show rtt = 0 by simpa using c)]) h.fin
    · repeat' (first
        | (refine w_drw h fun w h => ?_)
        | (refine w_deref ?_)
        | (refine w_ldAll h rfl ?_)
        | (refine w_ld h rfl ?_)
        | (refine w_chkAll h ?_)
        | (refine w_chk h rfl ?_)
        | (refine w_setAll h (by rfl) fun w h => ?_)
        | (refine w_new h fun n w h => ?_)
        | (refine w_leave h fun w h => ?_)
        | (refine w_set h rfl fun w h => ?_; dsimp only [upd, over] at h)
        | (refine w_call (rbdp_tri bw rtt g hb hq hg) h fun r w h => ?_; obtain ⟨hr, h⟩ := h.purP; (try dsimp only at hr h); try rw [hr])
        | (refine w_call (rmul_tri 3 tso (U_lit _) ht) h fun r w h => ?_; obtain ⟨hr, h⟩ := h.purP; (try dsimp only at hr h); try rw [hr])
        | (refine w_call (rmul_tri 4 mss (U_lit _) hm) h fun r w h => ?_; obtain ⟨hr, h⟩ := h.purP; (try dsimp only at hr h); try rw [hr])
        | (refine w_call (radd_tri (bdpI bw rtt g) (mulI 3 tso) (U_bdp hb hq hg) (U_mul (U_lit _) ht)) h fun r w h => ?_; obtain ⟨hr, h⟩ := h.purP; (try dsimp only at hr h); try rw [hr]))
      exact Own.retP (by unfold winI; rw [if_neg (show ¬ rtt = 0 by simpa using c)]) h.fin
end Target

end Go.X
