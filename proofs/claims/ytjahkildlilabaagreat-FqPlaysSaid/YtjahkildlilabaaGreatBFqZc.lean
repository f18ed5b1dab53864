/- Contracts and plain facts: FqZb FqZc. -/
import Derived.Test.YtjahkildlilabaaGreatBArith
import Derived.Test.YtjahkildlilabaaGreatBInts
import Derived.Test.YtjahkildlilabaaGreatBSegs
import Derived.Test.YtjahkildlilabaaGreatBListsO
import Derived.Test.YtjahkildlilabaaGreatBTreeN
import Derived.Test.YtjahkildlilabaaGreatBTreeB
import Derived.Test.YtjahkildlilabaaGreatBTreeD
import Derived.Test.YtjahkildlilabaaGreatBTreeF
import Derived.Test.YtjahkildlilabaaGreatBFqC
import Derived.Test.YtjahkildlilabaaGreatBFqE
import Derived.Test.YtjahkildlilabaaGreatBFqH
import Derived.Test.YtjahkildlilabaaGreatBFqK
import Derived.Test.YtjahkildlilabaaGreatBFqQ
import Derived.Test.YtjahkildlilabaaGreatBFqW
import Derived.Test.YtjahkildlilabaaGreatBFqY
import Derived.Test.YtjahkildlilabaaGreatBFqZa
import Derived.Test.YtjahkildlilabaaGreatXw
import Derived.Test.YtjahkildlilabaaGreatK
import Derived.Test.YtjahkildlilabaaGreatF0
import Derived.Test.YtjahkildlilabaaGreatF1
set_option linter.unusedVariables false
set_option linter.unusedSimpArgs false
set_option linter.unusedSectionVars false
namespace Go.X
open Go.Proofs
namespace FqZb
open Arith ArithC Lists ListsO _root_.Go.X.Tree TreeC TreeD TreeE TreeF FqM FqC FqD FqE FqG FqH FqI FqK FqN FqQ FqR FqW FqX FqY FqZ FqZa
theorem rmay_tri (c : Cf) : Tri Tryz.prog N_canterref20_May [.agg (Ks.mk KC c)] [.lf .bool] emp (fun r => pur (r = may c) emp) :=
  tri_0 (call_canterref20_May c) fun w0 S R h => by
    unfold W_canterref20_May
    refine w_new h fun n1 w h => ?_
    have no : ∀ {w : World}, ¬ (may c = true) → Own w0 S R w (blk n1 (Ks.mk KC c) ^ emp) → Own w0 S R w (pur (false = may c) emp) := fun {w} hm h => Own.retP (by cases hh : may c with
      | false => rfl
      | true => exact absurd hh hm) h.emp'
    have um : may c = true ↔ ((100 ≤ cQ c ∧ cQ c ≤ 65536) ∧ (100 ≤ cF c ∧ cF c ≤ 65536) ∧ (1 ≤ cL c ∧ cL c ≤ 512) ∧ (1 ≤ cW c ∧ cW c ≤ 512) ∧ cH c ≤ 4611686018427387904 ∧ (1 ≤ cCap c ∧ cCap c ≤ 1073741824) ∧ (100 ≤ cMss c ∧ cMss c ≤ 9000)) := by
      unfold may
      simp only [Bool.and_eq_true, decide_eq_true_eq]
    refine w_ld h rfl (w_ite (fun c0 => ?_) fun c0 => ?_)
    rotate_left
    · have c0 : ¬ cQ c ≥ 100 := of_decide_eq_false c0
      exact no (fun x => by rw [um] at x; omega) h
    have c0 : cQ c ≥ 100 := of_decide_eq_true c0
    refine w_ld h rfl (w_ite (fun c1 => ?_) fun c1 => ?_)
    rotate_left
    · have c1 : ¬ cQ c ≤ 65536 := of_decide_eq_false c1
      exact no (fun x => by rw [um] at x; omega) h
    have c1 : cQ c ≤ 65536 := of_decide_eq_true c1
    refine w_ld h rfl (w_ite (fun c2 => ?_) fun c2 => ?_)
    rotate_left
    · have c2 : ¬ cF c ≥ 100 := of_decide_eq_false c2
      exact no (fun x => by rw [um] at x; omega) h
    have c2 : cF c ≥ 100 := of_decide_eq_true c2
    refine w_ld h rfl (w_ite (fun c3 => ?_) fun c3 => ?_)
    rotate_left
    · have c3 : ¬ cF c ≤ 65536 := of_decide_eq_false c3
      exact no (fun x => by rw [um] at x; omega) h
    have c3 : cF c ≤ 65536 := of_decide_eq_true c3
    refine w_ld h rfl (w_ite (fun c4 => ?_) fun c4 => ?_)
    rotate_left
    · have c4 : ¬ cL c ≥ 1 := of_decide_eq_false c4
      exact no (fun x => by rw [um] at x; omega) h
    have c4 : cL c ≥ 1 := of_decide_eq_true c4
    refine w_ld h rfl (w_ite (fun c5 => ?_) fun c5 => ?_)
    rotate_left
    · have c5 : ¬ cL c ≤ 512 := of_decide_eq_false c5
      exact no (fun x => by rw [um] at x; omega) h
    have c5 : cL c ≤ 512 := of_decide_eq_true c5
    refine w_ld h rfl (w_ite (fun c6 => ?_) fun c6 => ?_)
    rotate_left
    · have c6 : ¬ cW c ≥ 1 := of_decide_eq_false c6
      exact no (fun x => by rw [um] at x; omega) h
    have c6 : cW c ≥ 1 := of_decide_eq_true c6
    refine w_ld h rfl (w_ite (fun c7 => ?_) fun c7 => ?_)
    rotate_left
    · have c7 : ¬ cW c ≤ 512 := of_decide_eq_false c7
      exact no (fun x => by rw [um] at x; omega) h
    have c7 : cW c ≤ 512 := of_decide_eq_true c7
    refine w_ld h rfl (w_ite (fun c8 => ?_) fun c8 => ?_)
    rotate_left
    · have c8 : ¬ cH c ≤ 4611686018427387904 := of_decide_eq_false c8
      exact no (fun x => by rw [um] at x; omega) h
    have c8 : cH c ≤ 4611686018427387904 := of_decide_eq_true c8
    refine w_ld h rfl (w_ite (fun c9 => ?_) fun c9 => ?_)
    rotate_left
    · have c9 : ¬ cCap c ≥ 1 := of_decide_eq_false c9
      exact no (fun x => by rw [um] at x; omega) h
    have c9 : cCap c ≥ 1 := of_decide_eq_true c9
    refine w_ld h rfl (w_ite (fun c10 => ?_) fun c10 => ?_)
    rotate_left
    · have c10 : ¬ cCap c ≤ 1073741824 := of_decide_eq_false c10
      exact no (fun x => by rw [um] at x; omega) h
    have c10 : cCap c ≤ 1073741824 := of_decide_eq_true c10
    refine w_ld h rfl (w_ite (fun c11 => ?_) fun c11 => ?_)
    rotate_left
    · have c11 : ¬ cMss c ≥ 100 := of_decide_eq_false c11
      exact no (fun x => by rw [um] at x; omega) h
    have c11 : cMss c ≥ 100 := of_decide_eq_true c11
    refine w_ld h rfl (Own.retP ?_ h.emp')
    show decide (cMss c ≤ 9000) = may c
    rw [Bool.eq_iff_iff, um, decide_eq_true_eq]
    omega
theorem hflow_tri (x y : Ks.T KF) (xs : List Sg) (hl : xs.length ≤ 512) (h1 : (x.1 : Int) = y.1) (h2 : (x.2.1 : Int) = y.2.1) (h3 : (x.2.2.1 : Int) = y.2.2.1) (h4 : (x.2.2.2.1 : Int) = y.2.2.2.1) (h5 : (x.2.2.2.2.1 : Int) = y.2.2.2.2.1) : Tri Tryz.prog N_canterhelp_Flow [.agg (Ks.mk KF x), .agg (Ks.mk KF y)] [.lf .bool] (emp ^ rarr x.2.2.2.2.2 KS xs ^ rarr y.2.2.2.2.2 KS xs) (fun r => pur (r = true) emp) :=
  tri_0 (call_canterhelp_Flow x y) fun w0 S R h => by
    unfold W_canterhelp_Flow
    refine w_new h fun n1 w h => w_new h fun n2 w h => ?_
    refine w_ld h rfl (w_ld h rfl (w_ite (fun _ => ?_) fun c => (by rw [h1] at c; simp at c)))
    refine w_ld h rfl (w_ld h rfl (w_ite (fun _ => ?_) fun c => (by rw [h2] at c; simp at c)))
    refine w_ld h rfl (w_ld h rfl (w_ite (fun _ => ?_) fun c => (by rw [h3] at c; simp at c)))
    refine w_ld h rfl (w_ld h rfl (w_ite (fun _ => ?_) fun c => (by rw [h4] at c; simp at c)))
    refine w_ld h rfl (w_ld h rfl (w_ite (fun _ => ?_) fun c => (by rw [h5] at c; simp at c)))
    refine w_ld h rfl (w_ld h rfl ?_)
    refine w_callL (A := emp) (Q := rarr x.2.2.2.2.2 KS xs ^ rarr y.2.2.2.2.2 KS xs) (Segs.seg_plain_tri x.2.2.2.2.2 y.2.2.2.2.2 xs xs (by omega)) h fun r w h => ?_
    obtain ⟨hr, h⟩ := h.purP
    exact Own.retP (hr.2 rfl) h.emp'
theorem alike_tri (b b2 : Nat) (v : Qm) (hv : OkQ v) : Tri Tryz.prog N_canterlaw20_alike [.lf (.ptr (some ⟨b, 0⟩)), .lf (.ptr (some ⟨b2, 0⟩))] [.lf .bool] (que b v ^ rque b2 v) (fun r => pur (r = true) (que b v ^ rque b2 v)) :=
  tri_0 (call_canterlaw20_alike (some ⟨b, 0⟩) (some ⟨b2, 0⟩)) fun w0 S R h => by
    unfold W_canterlaw20_alike
    refine w_call (FqE.min_tri b v) h fun x w h => ?_
    obtain ⟨hx, h⟩ := h.purP; rw [hx]
    refine w_call (rdog_tri b2 v hv) h fun x w h => ?_
    obtain ⟨hx, h⟩ := h.purP; rw [hx]
    have h : Own w0 S R w (que b v ^ rque b2 v) := h.fin
    refine w_join h (fun _ => que b v ^ rque b2 v) (fun _ => True) (fun _ w _ h => ?_) ?_
    · refine w_loop (fun _ : Int => que b v ^ rque b2 v) (fun y : Int => -1 ≤ y ∧ y ≤ 9) (fun y : Int => (9 - y).toNat) h ⟨by decide, by decide⟩ ?_
      rintro (k : Int) w hk h
      have hwk : IntKind.i64.wrap (k + 1) = k + 1 := wi (by omega) (by omega)
      refine w_ite (fun c => ?_) fun _ => Own.retP rfl h
      have c9 : k ≤ 8 := by simpa using c
      clear c
      refine w_call (FqE.flow_tri b v hv k) h fun x w h => ?_
      obtain ⟨sa, h⟩ := h.exP
      obtain ⟨hx, h⟩ := h.purP; rw [hx]
      refine w_new h fun n10 w h => w_setAll h (by rfl) fun w h => ?_
      refine w_call (rflow_tri b2 v hv k) h fun x w h => ?_
      obtain ⟨sb, h⟩ := h.exP
      obtain ⟨hx, h⟩ := h.purP; rw [hx]
      refine w_new h fun n12 w h => w_setAll h (by rfl) fun w h => ?_
      have nxt : ∀ {w : World} {G : SP}, Own w0 S R w (que b v ^ rque b2 v) → (((-1 ≤ k + 1 ∧ k + 1 ≤ 9) ∧ Own w0 S R w (que b v ^ rque b2 v)) ∧ (9 - (k + 1)).toNat < (9 - k).toNat) := fun h => ⟨⟨by omega, h⟩, by omega⟩
      cases hh : hasF v k with
      | false =>
        have e1 : ∀ s, seenF v k s = (noF, false) := fun s => by unfold seenF; rw [if_neg (by rw [hh]; simp)]
        have e2 : sgF v k = [] := by unfold sgF; rw [if_neg (by rw [hh]; simp)]
        rw [e1, e1] at h ⊢
        refine w_ite (fun c => (by simp at c)) fun _ => ?_
        refine w_ldAll (b := n10) (x := noF) h rfl (w_ldAll (b := n12) (x := noF) h rfl ?_)
        have h := h.nil KS
        refine w_callL (A := emp) (Q := rarr ⟨none, 0, 0⟩ KS [] ^ rarr ⟨none, 0, 0⟩ KS []) (hflow_tri noF noF [] (by simp) rfl rfl rfl rfl rfl) h fun x w h => ?_
        obtain ⟨hx, h⟩ := h.purP; rw [hx]
        refine w_ite (fun c => (by simp at c)) fun _ => ?_
        rw [hwk]
        exact nxt (G := emp) h.fin
      | true =>
        have hh' := hh
        unfold hasF at hh'
        simp only [Bool.and_eq_true, decide_eq_true_eq, Option.isSome_iff_exists] at hh'
        obtain ⟨hi, f, hf⟩ := hh'
        have e1 : ∀ s, seenF v k s = ((k, f.cr, plc v k.toNat, f.nx, f.si, s), true) := fun s => by unfold seenF; rw [if_pos hh, hf]
        have e2 : sgF v k = f.sg := by unfold sgF; rw [if_pos hh, hf]
        have hlen := (hv.len hf).2
        rw [e1, e1] at h ⊢
        rw [e2] at h
        refine w_ite (fun c => (by simp at c)) fun _ => ?_
        refine w_ldAll (b := n10) (x := (k, f.cr, plc v k.toNat, f.nx, f.si, sa)) h rfl (w_ldAll (b := n12) (x := (k, f.cr, plc v k.toNat, f.nx, f.si, sb)) h rfl ?_)
        refine w_callL (A := emp) (Q := rarr sa KS f.sg ^ rarr sb KS f.sg) (hflow_tri (k, f.cr, plc v k.toNat, f.nx, f.si, sa) (k, f.cr, plc v k.toNat, f.nx, f.si, sb) f.sg hlen rfl rfl rfl rfl rfl) h fun x w h => ?_
        obtain ⟨hx, h⟩ := h.purP; rw [hx]
        refine w_ite (fun c => (by simp at c)) fun _ => ?_
        rw [hwk]
        exact nxt (G := emp) h.fin
    · refine w_ite (fun c => (by simp at c)) fun _ => ?_
      refine w_call (FqE.len_tri b v) h fun x w h => ?_
      obtain ⟨hx, h⟩ := h.purP; rw [hx]
      obtain ⟨r, t, hq, h⟩ := h.rque b2 v
      refine w_call (rlen_tri b2 v hv r t hq) h fun x w h => ?_
      obtain ⟨hx, h⟩ := h.purP; rw [hx]
      refine w_ite (fun c => (by simp at c)) fun _ => ⟨trivial, (h.mkRque b2 v r t hq).fin⟩
end FqZb

namespace FqZc
open Arith ArithC Lists ListsO _root_.Go.X.Tree TreeC TreeD TreeE TreeF FqM FqC FqD FqE FqG FqH FqI FqK FqN FqQ FqR FqW FqX FqY FqZ FqZa FqZb
def nowP (now ago : Int) : Int := if 4611686018427387904 < addI now ago then 4611686018427387904 else addI now ago
theorem nowP_r {now ago : Int} (h1 : 0 ≤ now ∧ now ≤ 4611686018427387904) (h2 : U ago) : 0 ≤ nowP now ago ∧ nowP now ago ≤ 4611686018427387904 := by
  unfold U at h2
  unfold nowP addI
  (repeat' split) <;> omega
theorem newRque {w0 w : World} {S0 R0 : Nat → Prop} {F G : SP} (h : Own w0 S0 R0 w F) (n : Nat) (c : Cf) [tk : Take (blk n (rqP c (fun _ => zF) (fun _ => false) ++ [.sl ⟨none, 0, 0⟩, .sl ⟨none, 0, 0⟩])) F G] : Own w0 S0 R0 w (rque n (newF c) ^ G) := by
  have h := h.le tk.le
  have h := (h.nil KI).nil KI
  have h := h.mkLso n (rqP c (fun _ => zF) (fun _ => false)) ⟨none, 0, 0⟩ ⟨none, 0, 0⟩ ([], [])
  have h8 : ∀ k, Own w0 S0 R0 w (bigS (sgP (fun _ => zF) (sgs (newF c))) k ^ lso n (rqP c (fun _ => zF) (fun _ => false)) ([], []) ^ G) := fun k => by
    induction k with
    | zero => exact h.le ((star_emp _).trans (star_comm _ _))
    | succ k ih => exact (ih.nil KS).le (star_assoc' _ _ _)
  exact (h8 8).mkRque n (newF c) (fun _ => zF) (fun _ => false) ⟨fun _ _ => rfl, fun _ _ => rfl⟩
theorem plays_tri (d : Cf) (o : Sl) (ps : List OpD) (hd : 0 ≤ cH d ∧ U (cR d)) (hp : ∀ p ∈ ps, OkD p) : Tri Tryz.prog N_canterlaw20_FqPlays [.agg (Ks.mk KC d), .lf (.sl o)] [.lf .bool] (opsD o ps) (fun r => pur (r = true) emp) :=
  tri_0 (call_canterlaw20_FqPlays d o) fun w0 S R h => by
    unfold W_canterlaw20_FqPlays
    have h : Own w0 S R w0 (rarr o KD (ps.map Prod.fst) ^ rl (fun p : OpD => rarr (dR p.1) KU p.2) ps) := h
    have hol := (h.rd (s := o)).2
    rw [List.length_map] at hol
    obtain ⟨cf, hce⟩ : ∃ cf, cf = configF d := ⟨_, rfl⟩
    have hc : OkC cf := by rw [hce]; exact config_ok hd.1 hd.2
    have hm : may cf = true := by rw [hce]; exact config_may d
    refine w_new h fun n1 w h => w_ldAll (b := n1) (x := d) h rfl (w_call (config_tri d) h fun r w h => ?_)
    obtain ⟨hr, h⟩ := h.purP; rw [hr, ← hce]
    refine w_setAll h (by rfl) fun w h => w_ldAll (b := n1) (x := cf) h rfl (w_call (new_tri cf) h fun r w h => ?_)
    obtain ⟨b, h⟩ := h.exP
    obtain ⟨hr, h⟩ := h.purP
    rw [if_pos hm] at hr h
    rw [hr]
    refine w_ldAll (b := n1) (x := cf) h rfl (w_new h fun n7 w h => ?_)
    have h := h.blkEq (b := n7) (L' := rqP cf (fun _ => zF) (fun _ => false) ++ [.sl ⟨none, 0, 0⟩, .sl ⟨none, 0, 0⟩]) rfl
    have h := newRque h n7 cf
    refine w_call awake_tri h fun r w h => ?_
    obtain ⟨hr, h⟩ := h.purP; rw [hr]
    refine w_ite (fun c => (by simp at c)) fun _ => ?_
    have h := h.inq (f := fun v : Qm => que b v ^ rque n7 v) (φ := OkQ) (newF cf) (OkQ.new hc)
    have h : Own w0 S R w (exq OkQ (fun v : Qm => que b v ^ rque n7 v) ^ rarr o KD (ps.map Prod.fst) ^ rl (fun p : OpD => rarr (dR p.1) KU p.2) ps) := h.fin
    refine w_loop (fun _ : Int × Int => exq OkQ (fun v : Qm => que b v ^ rque n7 v) ^ rarr o KD (ps.map Prod.fst) ^ rl (fun p : OpD => rarr (dR p.1) KU p.2) ps) (fun y : Int × Int => (0 ≤ y.1 ∧ y.1 ≤ 4611686018427387904) ∧ 0 ≤ y.2 ∧ y.2 ≤ 100) (fun y : Int × Int => (100 - y.2).toNat) h ⟨by decide, by decide⟩ ?_
    rintro (y0 : Int × Int) w ⟨hnow, hi0, hi1⟩ h
    obtain ⟨now, i⟩ := y0
    dsimp only at hnow hi0 hi1
    obtain ⟨v, hv, h⟩ := h.outq
    refine w_ite (fun c => ?_) fun c => Own.retP rfl h.emp'
    have hcc : i < ps.length ∧ i < 100 := by
      have c : (decide (i < ((o.len : Nat) : Int)) && decide (i < 100)) = true := c
      rw [Bool.and_eq_true, decide_eq_true_eq, decide_eq_true_eq] at c
      omega
    have hi : i.toNat < ps.length := by omega
    have hwi : IntKind.i64.wrap (i + 1) = i + 1 := wi (by omega) (by omega)
    obtain ⟨p, hpi⟩ : ∃ p, ps[i.toNat]? = some p := ⟨_, List.getElem?_eq_getElem hi⟩
    have hpm : (ps.map Prod.fst)[i.toNat]? = some p.1 := by rw [List.getElem?_map, hpi]; rfl
    haveI := rd_dR hpi
    have hD := hp p (List.mem_of_getElem? hpi)
    have ht := nowP_r hnow hD.g
    refine w_idx (s := o) h hi0 (by rw [List.length_map]; exact hi) (w_ldE h o i.toNat hpm rfl ?_)
    refine w_new h fun n13 w h => w_setAll h (by rfl) fun w h => w_ld h rfl (w_call (radd_tri now _ (u_big hnow) hD.g) h fun r w h => ?_)
    obtain ⟨hr, h⟩ := h.purP; rw [hr]
    have et : (if (4611686018427387904 : Int) < addI now (dG p.1) then (4611686018427387904 : Int) else addI now (dG p.1)) = nowP now (dG p.1) := rfl
    rw [et]
    obtain ⟨t, hte⟩ : ∃ t, t = nowP now (dG p.1) := ⟨_, rfl⟩
    rw [← hte] at ht ⊢
    have ut := u_big ht
    have h : Own w0 S R w (blk n13 (Ks.mk KD p.1) ^ que b v ^ rque n7 v ^ rarr o KD (ps.map Prod.fst) ^ rl (fun p : OpD => rarr (dR p.1) KU p.2) ps) := h.fin
    refine w_join h (fun _ => exq OkQ (fun v : Qm => que b v ^ rque n7 v) ^ rarr o KD (ps.map Prod.fst) ^ rl (fun p : OpD => rarr (dR p.1) KU p.2) ps) (fun y : Bool => y = true) (fun (y : Bool) w hy h => ?_) ?_
    · rw [hy]
      refine w_ite (fun c => (by cases c)) fun _ => ?_
      obtain ⟨v1, hv1, h⟩ := h.outq
      refine w_call (alike_tri b n7 v1 hv1) h fun x w h => ?_
      obtain ⟨hx, h⟩ := h.purP; rw [hx]
      refine w_ite (fun c => (by cases c)) fun _ => ?_
      rw [hwi]
      have h := h.inq (f := fun v : Qm => que b v ^ rque n7 v) (φ := OkQ) v1 hv1
      exact ⟨⟨⟨ht, by show 0 ≤ i + 1; omega, by show i + 1 ≤ 100; omega⟩, h.fin⟩, by show (100 - (i + 1)).toNat < (100 - i).toNat; omega⟩
    have fin : ∀ {w : World} {G : SP} (v1 : Qm), OkQ v1 → Own w0 S R w (que b v1 ^ rque n7 v1 ^ rarr o KD (ps.map Prod.fst) ^ rl (fun p : OpD => rarr (dR p.1) KU p.2) ps) → Own w0 S R w (exq OkQ (fun v : Qm => que b v ^ rque n7 v) ^ rarr o KD (ps.map Prod.fst) ^ rl (fun p : OpD => rarr (dR p.1) KU p.2) ps) := fun v1 hv1 h => (h.inq (f := fun v : Qm => que b v ^ rque n7 v) (φ := OkQ) v1 hv1).fin
    refine w_ld h rfl ?_
    refine w_join h (fun _ => blk n13 (Ks.mk KD p.1) ^ que b v ^ rque n7 v ^ rarr o KD (ps.map Prod.fst) ^ rl (fun p : OpD => rarr (dR p.1) KU p.2) ps) (fun _ : Bool => True) (fun (y : Bool) w _ h => ?_) ?_
    rotate_left
    · exact w_ite (fun _ => ⟨trivial, h⟩) fun _ => ⟨trivial, h⟩
    refine w_ite (fun _ => ?_) fun _ => ?_
    · have hlen := (h.rd (s := dR p.1)).2
      refine w_ld h rfl (w_ite (fun _ => Own.retP rfl h.emp') fun c => ?_)
      have c12 : p.2.length ≤ 12 := by
        have c : ¬ (((dR p.1).len : Nat) : Int) > 12 := of_decide_eq_false c
        omega
      refine w_ld h rfl (w_callL (A := emp) (Q := rarr (dR p.1) KU p.2) (U64s.u64_own_tri (dR p.1) p.2 71 (by omega)) h fun r23 w h => ?_)
      refine w_callL (deq_tri b v hv t ut r23 p.2 hD.r) h fun x w h => ?_
      obtain ⟨hx, h⟩ := h.purP; rw [hx]
      refine w_new h fun n25 w h => w_setAll h (by rfl) fun w h => w_ld h rfl ?_
      refine w_callL (rdeq_tri n7 v hv t ut (dR p.1) p.2 hD.r) h fun x w h => ?_
      obtain ⟨hx, h⟩ := h.purP; rw [hx]
      refine w_new h fun n28 w h => w_setAll h (by rfl) fun w h => ?_
      refine w_ldAll (b := n25) (x := (outS (deqF v t p.2).1).1) h rfl (w_ldAll (b := n28) (x := (outS (deqF v t p.2).1).1) h rfl ?_)
      refine w_ite (fun _ => ?_) fun c => (by simp at c)
      refine w_ld h rfl (w_callL (A := kept r23 KU p.2 71) (Q := rarr (dR p.1) KU p.2) (U64s.u64_kept_tri r23 (dR p.1) p.2 71 (by omega)) h fun x w h => ?_)
      obtain ⟨hx, h⟩ := h.purP; rw [hx]
      exact ⟨rfl, fin (G := emp) (deqF v t p.2).2 (deq_ok hv ut hD.r) h.fin⟩
    refine w_ite (fun _ => ?_) fun _ => ?_
    · refine w_ld (x := dC p.1) h rfl (w_new h fun n34 w h => w_setAll h (by rfl) fun w h => ?_)
      have h : Own w0 S R w (blk n34 (Ks.mk KC (dC p.1)) ^ blk n13 (Ks.mk KD p.1) ^ que b v ^ rque n7 v ^ rarr o KD (ps.map Prod.fst) ^ rl (fun p : OpD => rarr (dR p.1) KU p.2) ps) := h.fin
      refine w_join h (fun _ => exq (fun c : Cf => 0 ≤ cH c ∧ U (cR c)) (fun c : Cf => blk n34 (Ks.mk KC c)) ^ que b v ^ rque n7 v ^ rarr o KD (ps.map Prod.fst) ^ rl (fun p : OpD => rarr (dR p.1) KU p.2) ps) (fun _ => True) (fun _ w _ h => ?_) ?_
      rotate_left
      · refine w_ld h rfl (w_ite (fun _ => ?_) fun _ => ?_)
        · refine w_ldAll (b := n34) (x := dC p.1) h rfl (w_call (config_tri (dC p.1)) h fun x w h => ?_)
          obtain ⟨hx, h⟩ := h.purP; rw [hx]
          refine w_setAll h (by rfl) fun w h => ?_
          have hok := config_ok hD.c.1 hD.c.2
          have h := h.inq (f := fun c : Cf => blk n34 (Ks.mk KC c)) (φ := fun c : Cf => 0 ≤ cH c ∧ U (cR c)) (configF (dC p.1)) ⟨hok.h.1, hok.r⟩
          exact ⟨trivial, h.fin⟩
        · have h := h.inq (f := fun c : Cf => blk n34 (Ks.mk KC c)) (φ := fun c : Cf => 0 ≤ cH c ∧ U (cR c)) (dC p.1) hD.c
          exact ⟨trivial, h.fin⟩
      obtain ⟨c', hc', h⟩ := h.outq
      refine w_ldAll (b := n34) (x := c') h rfl (w_call (set_tri b v c') h fun x w h => ?_)
      obtain ⟨hx, h⟩ := h.purP; rw [hx]
      have hset : setF v c' = if may c' then (0, { v with c := c' }) else (13, v) := rfl
      have h : Own w0 S R w (blk n34 (Ks.mk KC c') ^ que b (setF v c').2 ^ rque n7 v ^ rarr o KD (ps.map Prod.fst) ^ rl (fun p : OpD => rarr (dR p.1) KU p.2) ps) := h.fin
      refine w_join h (fun _ => blk n34 (Ks.mk KC c') ^ que b (setF v c').2 ^ rque n7 v ^ rarr o KD (ps.map Prod.fst) ^ rl (fun p : OpD => rarr (dR p.1) KU p.2) ps) (fun y : Bool => y = true) (fun (y : Bool) w hy h => ?_) ?_
      · rw [hy]
        refine w_ldAll (b := n34) (x := c') h rfl (w_call (rmay_tri c') h fun x w h => ?_)
        obtain ⟨hx, h⟩ := h.purP; rw [hx]
        refine w_ite (fun c => ?_) fun c => ?_
        · have e : setF v c' = (0, { v with c := c' }) := by rw [hset, if_pos c]
          have hok := hv.set (c := c') hc'
          rw [e] at h hok
          obtain ⟨r, t', hq, h⟩ := h.rque n7 v
          obtain ⟨s1, s2, h⟩ := h.lso n7 (rqP v.c r t') v.lv
          refine w_ldAll (b := n34) (x := c') h rfl (w_deref (w_setTo h n7 (rqP c' r t' ++ [.sl s1, .sl s2]) rfl rfl rfl fun w h => ?_))
          have h := h.mkLso n7 (rqP c' r t') s1 s2 v.lv
          rw [show sgs v = sgs { v with c := c' } from rfl] at h
          have h := h.mkRque n7 { v with c := c' } r t' ⟨hq.t, hq.r⟩
          exact ⟨rfl, fin (G := emp) { v with c := c' } hok h.fin⟩
        · have e : setF v c' = (13, v) := by rw [hset, if_neg (by rw [c]; simp)]
          rw [e] at h
          exact ⟨rfl, fin (G := emp) v hv h.fin⟩
      · refine w_drw h fun w h => w_ldAll (b := n34) (x := c') h rfl (w_call (rmay_tri c') h fun x w h => ?_)
        obtain ⟨hx, h⟩ := h.purP; rw [hx]
        cases hmc : may c' with
        | true =>
          have e : (setF v c').1 = 0 := by rw [hset, if_pos hmc]
          rw [e]
          refine w_ite (fun _ => ?_) fun c => (by cases c)
          refine w_ite (fun _ => ?_) fun c => (by cases c)
          refine w_ldAll (b := n34) (x := c') h rfl (w_ldAll (b := n34) (x := c') h rfl (w_call (may_tri c') h fun x w h => ?_))
          obtain ⟨hx, h⟩ := h.purP; rw [hx]
          refine w_chkAll (b := n34) h (w_call (rmay_tri c') h fun x w h => ?_)
          obtain ⟨hx, h⟩ := h.purP; rw [hx]
          exact ⟨by simp, h.fin⟩
        | false =>
          have e : (setF v c').1 = 13 := by rw [hset, if_neg (by rw [hmc]; simp)]
          rw [e]
          refine w_ite (fun _ => ?_) fun c => (by cases c)
          refine w_ite (fun c => (by cases c)) fun _ => ?_
          refine w_ite (fun _ => ?_) fun c => (by cases c)
          refine w_ldAll (b := n34) (x := c') h rfl (w_ldAll (b := n34) (x := c') h rfl (w_call (may_tri c') h fun x w h => ?_))
          obtain ⟨hx, h⟩ := h.purP; rw [hx]
          refine w_chkAll (b := n34) h (w_call (rmay_tri c') h fun x w h => ?_)
          obtain ⟨hx, h⟩ := h.purP; rw [hx]
          exact ⟨by simp, h.fin⟩
    refine w_ite (fun _ => ?_) fun _ => ?_
    · refine w_drw h fun w h => w_ld (x := sK (dS p.1)) h rfl (w_ld (x := sK (dS p.1)) h rfl ?_)
      refine w_call (close_tri b v hv (sK (dS p.1))) h fun r60 w h => ?_
      refine w_chk h rfl (w_call (rclose_tri n7 v hv (sK (dS p.1))) h fun r61 w h => ?_)
      have hcl : (closeF v (sK (dS p.1))).1.length ≤ 512 := by
        unfold closeF
        split
        · simp
        · split
          · simp
          · rename_i f hf; exact (hv.len hf).2
      refine w_callL (A := emp) (Q := rarr r60 KS (closeF v (sK (dS p.1))).1 ^ rarr r61 KS (closeF v (sK (dS p.1))).1) (Segs.seg_plain_tri r60 r61 _ _ (by omega)) h fun x w h => ?_
      obtain ⟨hx, h⟩ := h.purP
      exact ⟨hx.2 rfl, fin (G := emp) (closeF v (sK (dS p.1))).2 (hv.close _) h.fin⟩
    · refine w_ld (x := dS p.1) h rfl (w_new h fun n64 w h => w_setAll h (by rfl) fun w h => ?_)
      have h : Own w0 S R w (blk n64 (Ks.mk KS (dS p.1)) ^ blk n13 (Ks.mk KD p.1) ^ que b v ^ rque n7 v ^ rarr o KD (ps.map Prod.fst) ^ rl (fun p : OpD => rarr (dR p.1) KU p.2) ps) := h.fin
      refine w_join h (fun _ => exq (fun s : Sg => U (sFr s) ∧ U (sSt s)) (fun s : Sg => blk n64 (Ks.mk KS s)) ^ que b v ^ rque n7 v ^ rarr o KD (ps.map Prod.fst) ^ rl (fun p : OpD => rarr (dR p.1) KU p.2) ps) (fun _ => True) (fun _ w _ h => ?_) ?_
      rotate_left
      · refine w_ld h rfl (w_ite (fun _ => ?_) fun _ => ?_)
        · refine w_ldAll (b := n64) (x := dS p.1) h rfl (w_call (seg_tri (dS p.1)) h fun x w h => ?_)
          obtain ⟨hx, h⟩ := h.purP; rw [hx]
          refine w_setAll h (by rfl) fun w h => ?_
          have h := h.inq (f := fun s : Sg => blk n64 (Ks.mk KS s)) (φ := fun s : Sg => U (sFr s) ∧ U (sSt s)) (segF (dS p.1)) hD.s
          exact ⟨trivial, h.fin⟩
        · have h := h.inq (f := fun s : Sg => blk n64 (Ks.mk KS s)) (φ := fun s : Sg => U (sFr s) ∧ U (sSt s)) (dS p.1) hD.s
          exact ⟨trivial, h.fin⟩
      obtain ⟨s', hs', h⟩ := h.outq
      refine w_ldAll (b := n64) (x := s') h rfl (w_call (enq_tri b v hv s' t hs' ut) h fun x w h => ?_)
      obtain ⟨hx, h⟩ := h.purP; rw [hx]
      refine w_ldAll (b := n64) (x := s') h rfl (w_call (renq_tri n7 v hv s' t hs' ut) h fun x w h => ?_)
      obtain ⟨hx, h⟩ := h.purP; rw [hx]
      exact ⟨by simp, fin (G := emp) (enqF v s' t).2 (hv.enq hs' ut) h.fin⟩
end FqZc


end Go.X
