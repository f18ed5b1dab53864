/- Contracts and plain facts: FqR. -/
import Derived.Test.YtjahkildlilabaaBPlain
import Derived.Test.YtjahkildlilabaaBArith
import Derived.Test.YtjahkildlilabaaBArithC
import Derived.Test.YtjahkildlilabaaBLists
import Derived.Test.YtjahkildlilabaaBTreeM
import Derived.Test.YtjahkildlilabaaBTreeN
import Derived.Test.YtjahkildlilabaaBTreeA
import Derived.Test.YtjahkildlilabaaBTreeB
import Derived.Test.YtjahkildlilabaaBTreeC
import Derived.Test.YtjahkildlilabaaBTreeD
import Derived.Test.YtjahkildlilabaaBTreeE
import Derived.Test.YtjahkildlilabaaBTreeF
import Derived.Test.YtjahkildlilabaaBFqM
import Derived.Test.YtjahkildlilabaaBFqC
import Derived.Test.YtjahkildlilabaaBFqD
import Derived.Test.YtjahkildlilabaaBFqE
import Derived.Test.YtjahkildlilabaaBFqG
import Derived.Test.YtjahkildlilabaaBFqH
import Derived.Test.YtjahkildlilabaaBFqI
import Derived.Test.YtjahkildlilabaaBFqK
import Derived.Test.YtjahkildlilabaaBFqN
import Derived.Test.YtjahkildlilabaaBFqQ
import Derived.Test.YtjahkildlilabaaXw
import Derived.Test.YtjahkildlilabaaK
import Derived.Test.YtjahkildlilabaaF0
import Derived.Test.YtjahkildlilabaaF1
set_option linter.unusedVariables false
set_option linter.unusedSimpArgs false
set_option linter.unusedSectionVars false
namespace Go.X
open Go.Proofs
namespace FqR
open Arith ArithC Lists _root_.Go.X.Tree TreeC TreeD TreeE TreeF FqM FqC FqD FqE FqG FqH FqI FqK FqN FqQ
/-! ### Plays -/
abbrev KD : Ks := [.int .i64, .int .u64, .int .i64, .int .u64, .int .i64, .int .u64, .bool, .sl, .int .i64, .int .i64, .int .i64, .int .i64, .int .u64, .int .u64, .bool, .int .i64, .int .i64, .bool]
abbrev DD := Ks.T KD
abbrev dG (d : DD) : Int := d.2.1
abbrev dS (d : DD) : Sg := (d.2.2.1, d.2.2.2.1, d.2.2.2.2.1, d.2.2.2.2.2.1, d.2.2.2.2.2.2.1)
abbrev dR (d : DD) : Sl := d.2.2.2.2.2.2.2.1
abbrev dC (d : DD) : Cf := (d.2.2.2.2.2.2.2.2.1, d.2.2.2.2.2.2.2.2.2.1, d.2.2.2.2.2.2.2.2.2.2.1, d.2.2.2.2.2.2.2.2.2.2.2.1, d.2.2.2.2.2.2.2.2.2.2.2.2.1, d.2.2.2.2.2.2.2.2.2.2.2.2.2.1, d.2.2.2.2.2.2.2.2.2.2.2.2.2.2.1, d.2.2.2.2.2.2.2.2.2.2.2.2.2.2.2.1, d.2.2.2.2.2.2.2.2.2.2.2.2.2.2.2.2.1)
abbrev OpD := DD × List Int
def opsD (d : Sl) (ps : List OpD) : SP := rarr d KD (ps.map Prod.fst) ^ rl (fun p : OpD => rarr (dR p.1) KU p.2) ps
structure OkD (p : OpD) : Prop where
  g : U (dG p.1)
  s : U (sFr (dS p.1)) ∧ U (sSt (dS p.1))
  c : 0 ≤ cH (dC p.1) ∧ U (cR (dC p.1))
  r : ∀ y ∈ p.2, U y
theorem okD_of {p : OpD} (h : ∀ k n, Lf.int k n ∈ Ks.mk KD p.1 → (Lit.int k n).wf = true) (hr : ∀ y ∈ p.2, ∀ k n, Lf.int k n ∈ Ks.mk KU y → (Lit.int k n).wf = true) : OkD p where
  g := wf_u (h .u64 (dG p.1) (List.mem_of_getElem? (i := 1) rfl))
  s := ⟨wf_u (h .u64 (sFr (dS p.1)) (List.mem_of_getElem? (i := 3) rfl)), wf_u (h .u64 (sSt (dS p.1)) (List.mem_of_getElem? (i := 5) rfl))⟩
  c := ⟨(wf_u (h .u64 (cH (dC p.1)) (List.mem_of_getElem? (i := 12) rfl))).1, wf_u (h .u64 (cR (dC p.1)) (List.mem_of_getElem? (i := 13) rfl))⟩
  r := fun y hy => wf_u (hr y hy .u64 y (List.mem_of_getElem? (i := 0) rfl))
theorem rd_dR {ps : List OpD} {i : Nat} {o : OpD} (h : ps[i]? = some o) : Rd (dR o.1) (rl (fun p : OpD => rarr (dR p.1) KU p.2) ps) KU o.2 := rd_rl h (rd_rarr _ _ _)
def nowF (now ago : Int) : Int := if 4611686018427387904 < addI now (ago.tmod 2000000000) then 4611686018427387904 else addI now (ago.tmod 2000000000)
theorem nowF_r {now ago : Int} (h1 : 0 ≤ now ∧ now ≤ 4611686018427387904) (h2 : U ago) : (0 ≤ nowF now ago ∧ nowF now ago ≤ 4611686018427387904) ∧ now ≤ nowF now ago ∧ U (ago.tmod 2000000000) := by
  have h3 := Int.tmod_nonneg 2000000000 h2.1
  have h4 := Int.tmod_lt_of_pos ago (show (0 : Int) < 2000000000 by decide)
  unfold nowF addI U
  refine ⟨?_, ?_, by omega⟩ <;> (repeat' split) <;> omega
theorem u_big {x : Int} (h : 0 ≤ x ∧ x ≤ 4611686018427387904) : U x := by unfold U; omega
theorem Time_tri (g : Ks.T KF) (x : Sg) (l : List Sg) : Tri Try.prog N_canterref20_Time [.agg (Ks.mk KF g)] [.lf (.int .u64)] (emp ^ rarr g.2.2.2.2.2 KS (x :: l)) (fun r => pur (r = if sSt x > g.2.2.2.1 then sSt x else g.2.2.2.1) emp) :=
  tri_0 (call_canterref20_Time g) fun w0 S R h => by
    unfold W_canterref20_Time
    refine w_new h fun n1 w h => w_drw h fun w h => w_ld h rfl (w_ld h rfl ?_)
    refine w_idx (s := g.2.2.2.2.2) h (by decide) (by simp) ?_
    refine w_ldA h g.2.2.2.2.2 0 3 x rfl rfl (by decide) rfl ?_
    exact Own.retP rfl h.emp'
theorem seen_none {v : Qm} {i : Nat} (s : Sl) (hf : v.fl i = none) : seenF v (i : Int) s = (noF, false) ∧ sgF v (i : Int) = [] := by
  have hh : hasF v (i : Int) = false := by unfold hasF; rw [Int.toNat_natCast, hf]; simp
  unfold seenF sgF
  rw [if_neg (by rw [hh]; simp), if_neg (by rw [hh]; simp)]
  exact ⟨rfl, rfl⟩
theorem seen_some {v : Qm} {i : Nat} {f : Fl} (s : Sl) (hi : i < 8) (hf : v.fl i = some f) : seenF v (i : Int) s = (((i : Int), f.cr, plc v i, f.nx, f.si, s), true) ∧ sgF v (i : Int) = f.sg := by
  have hh : hasF v (i : Int) = true := by
    unfold hasF
    rw [Int.toNat_natCast, hf, Bool.and_eq_true, decide_eq_true_eq]
    exact ⟨by omega, rfl⟩
  unfold seenF sgF
  rw [if_pos hh, if_pos hh, Int.toNat_natCast, hf]
  exact ⟨rfl, rfl⟩
theorem works_tri (d : Cf) (o : Sl) (ps : List OpD) (hd : 0 ≤ cH d ∧ U (cR d)) (hp : ∀ p ∈ ps, OkD p) : Tri Try.prog N_canterlaw20_FqWorks [.agg (Ks.mk KC d), .lf (.sl o)] [.lf .bool] (opsD o ps) (fun r => pur (r = true) emp) :=
  tri_0 (call_canterlaw20_FqWorks d o) fun w0 S R h => by
    unfold W_canterlaw20_FqWorks
    have h : Own w0 S R w0 (rarr o KD (ps.map Prod.fst) ^ rl (fun p : OpD => rarr (dR p.1) KU p.2) ps) := h
    have hol := (h.rd (s := o)).2
    rw [List.length_map] at hol
    obtain ⟨c, hce⟩ : ∃ c, c = configF d := ⟨_, rfl⟩
    have hc : OkC c := by rw [hce]; exact config_ok hd.1 hd.2
    have hm : may c = true := by rw [hce]; exact config_may d
    refine w_new h fun n1 w h => w_ldAll (b := n1) (x := d) h rfl (w_call (config_tri d) h fun r w h => ?_)
    obtain ⟨hr, h⟩ := h.purP; rw [hr, ← hce]
    refine w_setAll h (by rfl) fun w h => w_ldAll (b := n1) (x := c) h rfl (w_call (new_tri c) h fun r w h => ?_)
    obtain ⟨b, h⟩ := h.exP
    obtain ⟨hr, h⟩ := h.purP
    rw [if_pos hm] at hr h
    rw [hr]
    refine w_call awake_tri h fun r w h => ?_
    obtain ⟨hr, h⟩ := h.purP; rw [hr]
    refine w_ite (fun c => (by simp at c)) fun _ => ?_
    have h := h.inq (f := fun v : Qm => que b v) (φ := OkQ) (newF c) (OkQ.new hc)
    have h : Own w0 S R w (exq OkQ (fun v : Qm => que b v) ^ rarr o KD (ps.map Prod.fst) ^ rl (fun p : OpD => rarr (dR p.1) KU p.2) ps) := h.fin
    refine w_loop (fun _ : Int × Int => exq OkQ (fun v : Qm => que b v) ^ rarr o KD (ps.map Prod.fst) ^ rl (fun p : OpD => rarr (dR p.1) KU p.2) ps) (fun y : Int × Int => (0 ≤ y.1 ∧ y.1 ≤ 4611686018427387904) ∧ 0 ≤ y.2 ∧ y.2 ≤ 80) (fun y : Int × Int => (80 - y.2).toNat) h ⟨by decide, by decide⟩ ?_
    rintro (y0 : Int × Int) w ⟨hnow, hi0, hi1⟩ h
    obtain ⟨now, i⟩ := y0
    dsimp only at hnow hi0 hi1
    obtain ⟨v, hv, h⟩ := h.outq
    refine w_ite (fun c => ?_) fun c => Own.retP rfl h.emp'
    have hc : i < ps.length ∧ i < 80 := by
      have c : (decide (i < ((o.len : Nat) : Int)) && decide (i < 80)) = true := c
      rw [Bool.and_eq_true, decide_eq_true_eq, decide_eq_true_eq] at c
      omega
    have hi : i.toNat < ps.length := by omega
    have hwi : IntKind.i64.wrap (i + 1) = i + 1 := wi (by omega) (by omega)
    obtain ⟨p, hpi⟩ : ∃ p, ps[i.toNat]? = some p := ⟨_, List.getElem?_eq_getElem hi⟩
    have hpm : (ps.map Prod.fst)[i.toNat]? = some p.1 := by rw [List.getElem?_map, hpi]; rfl
    haveI := rd_dR hpi
    have hD := hp p (List.mem_of_getElem? hpi)
    obtain ⟨ht, htl, hgu⟩ := nowF_r hnow hD.g
    refine w_idx (s := o) h hi0 (by rw [List.length_map]; exact hi) (w_ldE h o i.toNat hpm rfl ?_)
    refine w_new h fun n11 w h => w_setAll h (by rfl) fun w h => w_ld h rfl (w_call (radd_tri now _ (u_big hnow) hgu) h fun r w h => ?_)
    obtain ⟨hr, h⟩ := h.purP; rw [hr]
    have et : (if (4611686018427387904 : Int) < addI now ((dG p.1).tmod 2000000000) then (4611686018427387904 : Int) else addI now ((dG p.1).tmod 2000000000)) = nowF now (dG p.1) := rfl
    rw [et]
    obtain ⟨t, hte⟩ : ∃ t, t = nowF now (dG p.1) := ⟨_, rfl⟩
    rw [← hte] at ht htl ⊢
    have ut := u_big ht
    have h : Own w0 S R w (blk n11 (Ks.mk KD p.1) ^ que b v ^ rarr o KD (ps.map Prod.fst) ^ rl (fun p : OpD => rarr (dR p.1) KU p.2) ps) := h.fin
    refine w_join h (fun _ => blk n11 (Ks.mk KD p.1) ^ que b v ^ rarr o KD (ps.map Prod.fst) ^ rl (fun p : OpD => rarr (dR p.1) KU p.2) ps) (fun _ : Bool => True) (fun (y : Bool) w _ h => ?_) ?_
    · refine w_ite (fun _ => ?_) fun _ => ?_
      · refine w_ld (x := dS p.1) h rfl (w_call (seg_tri (dS p.1)) h fun r w h => ?_)
        obtain ⟨hr, h⟩ := h.purP; rw [hr]
        refine w_call (enq_tri b v hv (segF (dS p.1)) t hD.s ut) h fun r w h => ?_
        obtain ⟨_, h⟩ := h.purP
        have h := h.inq (f := fun v : Qm => que b v) (φ := OkQ) (enqF v (segF (dS p.1)) t).2 (hv.enq hD.s ut)
        rw [hwi]
        refine ⟨⟨⟨ht, by show 0 ≤ i + 1; omega, by show i + 1 ≤ 80; omega⟩, h.fin⟩, by show (80 - (i + 1)).toNat < (80 - i).toNat; omega⟩
      · refine w_loop (fun _ : Int × Bool × Int => blk n11 (Ks.mk KD p.1) ^ que b v ^ rarr o KD (ps.map Prod.fst) ^ rl (fun p : OpD => rarr (dR p.1) KU p.2) ps) (fun y : Int × Bool × Int => (0 ≤ y.2.2 ∧ y.2.2 ≤ 8) ∧ (y.1, y.2.1) = leastN v y.2.2.toNat) (fun y : Int × Bool × Int => (8 - y.2.2).toNat) h ⟨by decide, rfl⟩ ?_
        rintro (y1 : Int × Bool × Int) w ⟨hk, hlk⟩ h
        obtain ⟨le, fo, k⟩ := y1
        dsimp only at hk hlk
        have hwk : IntKind.i64.wrap (k + 1) = k + 1 := wi (by omega) (by omega)
        have hk1 : (k + 1).toNat = k.toNat + 1 := by omega
        refine w_ite (fun c => ?_) fun c => ?_
        · have c : k < 8 := by simpa using c
          obtain ⟨j, hj⟩ : ∃ j : Nat, k = (j : Int) := ⟨k.toNat, by omega⟩
          have hj8 : j < 8 := by omega
          rw [hj] at hlk hwk hk1 ⊢
          rw [Int.toNat_natCast] at hlk hk1
          refine w_call (flow_tri b v hv (j : Int)) h fun r w h => ?_
          obtain ⟨s, h⟩ := h.exP
          obtain ⟨hr, h⟩ := h.purP; rw [hr]
          refine w_new h fun n24 w h => w_setAll h (by rfl) fun w h => ?_
          have nx : ∀ (le' : Int) (fo' : Bool) (w : World), (le', fo') = leastN v (j + 1) → Own w0 S R w (blk n11 (Ks.mk KD p.1) ^ que b v ^ rarr o KD (ps.map Prod.fst) ^ rl (fun p : OpD => rarr (dR p.1) KU p.2) ps) →
              (((0 ≤ (le', fo', (j : Int) + 1).2.2 ∧ (le', fo', (j : Int) + 1).2.2 ≤ 8) ∧ ((le', fo', (j : Int) + 1).1, (le', fo', (j : Int) + 1).2.1) = leastN v (le', fo', (j : Int) + 1).2.2.toNat) ∧ Own w0 S R w (blk n11 (Ks.mk KD p.1) ^ que b v ^ rarr o KD (ps.map Prod.fst) ^ rl (fun p : OpD => rarr (dR p.1) KU p.2) ps)) ∧ (8 - (le', fo', (j : Int) + 1).2.2).toNat < (8 - (le, fo, (j : Int)).2.2).toNat := fun le' fo' w he h =>
            ⟨⟨⟨⟨by show 0 ≤ (j : Int) + 1; omega, by show (j : Int) + 1 ≤ 8; omega⟩, by show (le', fo') = leastN v ((j : Int) + 1).toNat; rw [hk1]; exact he⟩, h⟩, by show (8 - ((j : Int) + 1)).toNat < (8 - (j : Int)).toNat; omega⟩
          cases hf : v.fl j with
          | none =>
            obtain ⟨q1, q2⟩ := seen_none s hf
            rw [q1] at h ⊢
            refine w_join h (fun _ => blk n11 (Ks.mk KD p.1) ^ que b v ^ rarr o KD (ps.map Prod.fst) ^ rl (fun p : OpD => rarr (dR p.1) KU p.2) ps) (fun y : Bool => y = false) (fun (y : Bool) w hy h => ?_) ?_
            · rw [hy]
              refine w_ite (fun c => (by cases c)) fun _ => ?_
              rw [hwk]
              exact nx le fo w (by rw [leastN, hf]; exact hlk) h
            · refine w_ite (fun c => (by cases c)) fun _ => ⟨rfl, h.fin⟩
          | some f =>
            obtain ⟨q1, q2⟩ := seen_some s hj8 hf
            rw [q1] at h ⊢
            rw [q2] at h
            have hsl := (h.rd (s := s)).2
            have h : Own w0 S R w (blk n24 (Ks.mk KF ((j : Int), f.cr, plc v j, f.nx, f.si, s)) ^ arr s KS f.sg ^ blk n11 (Ks.mk KD p.1) ^ que b v ^ rarr o KD (ps.map Prod.fst) ^ rl (fun p : OpD => rarr (dR p.1) KU p.2) ps) := h.fin
            refine w_join h (fun _ => blk n24 (Ks.mk KF ((j : Int), f.cr, plc v j, f.nx, f.si, s)) ^ arr s KS f.sg ^ blk n11 (Ks.mk KD p.1) ^ que b v ^ rarr o KD (ps.map Prod.fst) ^ rl (fun p : OpD => rarr (dR p.1) KU p.2) ps) (fun y : Bool => y = true ↔ f.sg ≠ [] ∧ (fo = false ∨ timeF f < le)) (fun (y : Bool) w hy h => ?_) ?_
            · refine w_ite (fun c => ?_) fun c => ?_
              · obtain ⟨hs, hc⟩ := hy.1 c
                cases hss : f.sg with
                | nil => exact absurd hss hs
                | cons x l =>
                  rw [hss] at h
                  refine w_ldAll (b := n24) (x := ((j : Int), f.cr, plc v j, f.nx, f.si, s)) h rfl (w_callL (Time_tri ((j : Int), f.cr, plc v j, f.nx, f.si, s) x l) h fun r w h => ?_)
                  obtain ⟨hr, h⟩ := h.purP; rw [hr]
                  rw [hwk]
                  have hti : timeF f = if sSt x > f.nx then sSt x else f.nx := by unfold timeF; rw [hss]
                  refine nx _ true w ?_ h.fin
                  rw [leastN, hf]
                  simp only
                  rw [← hlk, if_pos (show f.sg ≠ [] ∧ (fo = false ∨ timeF f < le) from ⟨hs, hc⟩), hti]
              · have hc : ¬ (f.sg ≠ [] ∧ (fo = false ∨ timeF f < le)) := fun x => by have := hy.2 x; rw [c] at this; cases this
                rw [hwk]
                refine nx le fo w ?_ h.fin
                rw [leastN, hf]
                simp only
                rw [← hlk, if_neg hc]
            · refine w_ite (fun _ => ?_) fun c => (by cases c)
              refine w_ld h rfl (w_ite (fun c => ?_) fun c => ?_)
              · have c : (s.len : Int) > 0 := by simpa using c
                have hs : f.sg ≠ [] := fun e => by rw [e] at hsl; have : s.len = 0 := hsl; omega
                cases hss : f.sg with
                | nil => exact absurd hss hs
                | cons x l =>
                refine w_ite (fun c2 => ?_) fun c2 => ?_
                · have c2 : fo = false := by simpa using c2
                  rw [hss] at h
                  exact ⟨⟨fun _ => ⟨by simp, .inl c2⟩, fun _ => rfl⟩, h⟩
                · have c2 : fo = true := by simpa using c2
                  rw [hss] at h
                  have hti : timeF f = if sSt x > f.nx then sSt x else f.nx := by unfold timeF; rw [hss]
                  refine w_ldAll (b := n24) (x := ((j : Int), f.cr, plc v j, f.nx, f.si, s)) h rfl (w_callL (Time_tri ((j : Int), f.cr, plc v j, f.nx, f.si, s) x l) h fun r w h => ?_)
                  obtain ⟨hr, h⟩ := h.purP; rw [hr]
                  refine ⟨?_, h.fin⟩
                  rw [← hti]
                  show decide (timeF f < le) = true ↔ _
                  rw [decide_eq_true_eq]
                  exact ⟨fun x => ⟨by simp, .inr x⟩, fun x => x.2.elim (fun y => by rw [c2] at y; cases y) id⟩
              · have c : ¬ (s.len : Int) > 0 := by simpa using c
                refine ⟨⟨fun x => (by cases x), fun x => absurd (List.eq_nil_of_length_eq_zero (by omega)) x.1⟩, h⟩
        · have c : ¬ k < 8 := by simpa using c
          have e : k = 8 := by omega
          subst e
          obtain ⟨g1, g2, g3⟩ := works hv ut (rates := p.2) hD.r
          rw [show ((8 : Int)).toNat = 8 from rfl] at hlk
          rw [← hlk] at g1 g3
          have hvn := hv.n0
          have hvl := hv.le
          refine w_call (len_tri b v) h fun r w h => ?_
          obtain ⟨hr, h⟩ := h.purP; rw [hr]
          refine w_ld h rfl (w_callL (deq_tri b v hv t ut (dR p.1) p.2 hD.r) h fun r w h => ?_)
          obtain ⟨hr, h⟩ := h.purP; rw [hr]
          have ho : (outS (deqF v t p.2).1).2 = (deqF v t p.2).1.isSome := by cases (deqF v t p.2).1 <;> rfl
          have hvd := deq_ok hv ut hD.r
          have hwn : IntKind.i64.wrap (v.n - 1) = v.n - 1 := wi (by omega) (by omega)
          refine w_new h fun n35 w h => w_setAll h (by rfl) fun w h => ?_
          have h : Own w0 S R w (que b (deqF v t p.2).2 ^ rarr o KD (ps.map Prod.fst) ^ rl (fun p : OpD => rarr (dR p.1) KU p.2) ps) := h.fin
          refine w_join h (fun _ => que b (deqF v t p.2).2 ^ rarr o KD (ps.map Prod.fst) ^ rl (fun p : OpD => rarr (dR p.1) KU p.2) ps) (fun y : Bool => y = false) (fun (y : Bool) w hy h => ?_) ?_
          · rw [hy]
            refine w_ite (fun c => (by cases c)) fun _ => ?_
            refine w_call (min_tri b (deqF v t p.2).2) h fun r w h => ?_
            obtain ⟨hr, h⟩ := h.purP; rw [hr]
            refine w_ite (fun c => ?_) fun _ => ?_
            · exfalso
              rw [ho] at c
              cases hd : (deqF v t p.2).1 with
              | some s => rw [hd] at c; simp at c
              | none =>
                obtain ⟨k1, k2⟩ := g3 hd
                dsimp only at k1 k2 c
                cases hq : (minF (deqF v t p.2).2.ks).2 with
                | false => rw [hq] at k1 c; rw [← k1] at c; simp at c
                | true => rw [k2 hq, ← k1, hq] at c; simp at c
            · rw [hwi]
              have h := h.inq (f := fun v : Qm => que b v) (φ := OkQ) (deqF v t p.2).2 hvd
              exact ⟨⟨⟨ht, by show 0 ≤ i + 1; omega, by show i + 1 ≤ 80; omega⟩, h.fin⟩, by show (80 - (i + 1)).toNat < (80 - i).toNat; omega⟩
          · rw [ho]
            refine w_ite (fun c => ?_) fun _ => ?_
            · exfalso
              rw [g1] at c
              simp at c
            refine w_ite (fun c => ?_) fun c => ?_
            · refine w_call (len_tri b (deqF v t p.2).2) h fun r w h => ?_
              obtain ⟨hr, h⟩ := h.purP; rw [hr]
              rw [c] at g2
              refine w_ite (fun c2 => ?_) fun _ => ?_
              · exfalso
                rw [g2, hwn] at c2
                simp at c2
              refine w_ite (fun c2 => ?_) fun _ => ⟨rfl, h.fin⟩
              · rw [c] at c2; cases c2
            · rw [c] at g2
              refine w_ite (fun c2 => ?_) fun _ => ⟨rfl, h⟩
              refine w_call (len_tri b (deqF v t p.2).2) h fun r w h => ?_
              obtain ⟨hr, h⟩ := h.purP; rw [hr]
              refine ⟨?_, h.fin⟩
              rw [g2]
              simp
    · refine w_ld h rfl (w_ite (fun _ => w_ld h rfl ⟨trivial, h⟩) fun _ => ⟨trivial, h⟩)
end FqR

end Go.X
