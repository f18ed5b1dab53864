/- Contracts and plain facts: FqS. -/
import Derived.Test.YtjahkildlilabaaBPlain
import Derived.Test.YtjahkildlilabaaBArith
import Derived.Test.YtjahkildlilabaaBArithC
import Derived.Test.YtjahkildlilabaaBLists
import Derived.Test.YtjahkildlilabaaBTreeM
import Derived.Test.YtjahkildlilabaaBTreeN
import Derived.Test.YtjahkildlilabaaBTreeA
import Derived.Test.YtjahkildlilabaaBTreeB
import Derived.Test.YtjahkildlilabaaBTreeC
import Derived.Test.YtjahkildlilabaaBTreeD
import Derived.Test.YtjahkildlilabaaBTreeE
import Derived.Test.YtjahkildlilabaaBTreeF
import Derived.Test.YtjahkildlilabaaBFqM
import Derived.Test.YtjahkildlilabaaBFqC
import Derived.Test.YtjahkildlilabaaBFqD
import Derived.Test.YtjahkildlilabaaBFqE
import Derived.Test.YtjahkildlilabaaBFqG
import Derived.Test.YtjahkildlilabaaBFqH
import Derived.Test.YtjahkildlilabaaBFqI
import Derived.Test.YtjahkildlilabaaBFqK
import Derived.Test.YtjahkildlilabaaBFqO
import Derived.Test.YtjahkildlilabaaBFqQ
import Derived.Test.YtjahkildlilabaaBFqR
import Derived.Test.YtjahkildlilabaaXw
import Derived.Test.YtjahkildlilabaaK
import Derived.Test.YtjahkildlilabaaF0
import Derived.Test.YtjahkildlilabaaF1
set_option linter.unusedVariables false
set_option linter.unusedSimpArgs false
set_option linter.unusedSectionVars false
namespace Go.X
open Go.Proofs
namespace FqS
open Arith ArithC Lists _root_.Go.X.Tree TreeC TreeD TreeE TreeF FqM FqC FqD FqE FqG FqH FqI FqK FqO FqQ FqR
/-- No flow that is nowhere has a time long behind it. -/
def Near (t : Int) (v : Qm) : Prop := ∀ j f, v.fl j = some f → f.nx ≤ t + 1000000000 ∧ (¬ inL v.lv j → f.sg = [] → f.nx ≤ f.si + 1000000000)
theorem Near.later {t t' : Int} {v : Qm} (h : Near t v) (ht : t ≤ t') : Near t' v := fun j f hf => ⟨by have := (h j f hf).1; omega, (h j f hf).2⟩
theorem near_kept (t : Int) : Kept (Near t) t where
  credit {u i f} hA hc h j g hg := by
    have hg : upF u.fl i (some { f with cr := f.cr + cQ u.c }) j = some g := hg
    have hin : inL (backF u.lv).2 j ↔ inL u.lv j := in_back hA.ok.lv hA.is j
    by_cases e : j = i
    · subst e
      rw [upF_same] at hg
      cases hg
      exact ⟨(h j f hA.fl).1, fun hn => (h j f hA.fl).2 fun x => hn (hin.2 x)⟩
    · rw [upF_ne _ _ e] at hg
      exact ⟨(h j g hg).1, fun hn => (h j g hg).2 fun x => hn (hin.2 x)⟩
  back {u i f} hA hc hs h2 h j g hg := by
    have hin : inL (backF u.lv).2 j ↔ inL u.lv j := in_back hA.ok.lv hA.is j
    exact ⟨(h j g hg).1, fun hn => (h j g hg).2 fun x => hn (hin.2 x)⟩
  drop {u i f} hA hc hs h2 h j g hg := by
    have hg : upF u.fl i (some { f with si := t }) j = some g := hg
    have hin : inL (dropF u.lv).2 j ↔ inL u.lv j ∧ (j : Int) ≠ (headF u.lv).1 := in_drop hA.is j
    by_cases e : j = i
    · subst e
      rw [upF_same] at hg
      cases hg
      exact ⟨(h j f hA.fl).1, fun _ _ => (h j f hA.fl).1⟩
    · rw [upF_ne _ _ e] at hg
      refine ⟨(h j g hg).1, fun hn => (h j g hg).2 fun x => hn (hin.2 ⟨x, fun e2 => e ?_⟩)⟩
      rw [hA.hd] at e2; omega
  wait {u i f} hA hc hs h2 h j g hg := by
    have hin : inL (dropF u.lv).2 j ↔ inL u.lv j ∧ (j : Int) ≠ (headF u.lv).1 := in_drop hA.is j
    by_cases e : j = i
    · subst e
      refine ⟨(h j g hg).1, fun _ hsg => ?_⟩
      have := hA.fl
      have hg : u.fl j = some g := hg
      rw [hg] at this
      cases this
      exact absurd hsg hs
    · refine ⟨(h j g hg).1, fun hn => (h j g hg).2 fun x => hn (hin.2 ⟨x, fun e2 => e ?_⟩)⟩
      rw [hA.hd] at e2; omega
theorem near_due {v : Qm} {t : Int} (h : Near t v) : Near t (dueF v t) := fun j f hf => ⟨(h j f hf).1, fun hn => (h j f hf).2 fun x => hn (by
  unfold inL at x ⊢
  show (j : Int) ∈ v.lv.1 ++ (v.lv.2 ++ _)
  rw [← List.append_assoc]
  exact List.mem_append_left _ x)⟩
theorem near_collect {v : Qm} {t : Int} (h : Near t v) : Near t (collectF v t) := fun j f hf => by
  have hf : (if idle v j 3000000000 t = true then none else v.fl j) = some f := hf
  split at hf
  · cases hf
  · exact h j f hf
theorem near_add {v : Qm} {t : Int} (h : Near t v) (ht : 0 ≤ t) {i : Nat} (hi : i < 8) (s : Sg) : Near t (addS (wakeF v i t) i s) := by
  rw [FqM.add_eq]
  intro j f hf
  have hf : upF v.fl i _ j = some f := hf
  by_cases e : j = i
  · subst e
    rw [upF_same] at hf
    cases hf
    refine ⟨?_, fun _ hs => absurd hs (by simp)⟩
    show (woken v j t).nx ≤ _
    unfold woken
    cases hv : v.fl j with
    | none => simp only; omega
    | some g =>
      have := (h j g hv).1
      simp only
      split <;> exact this
  · rw [upF_ne _ _ e] at hf
    refine ⟨(h j f hf).1, fun hn => (h j f hf).2 fun x => hn ((in_wake hi).2 (.inl x))⟩
/-- What was told of the flows: when each may go on. -/
structure Pc (now : Int) (c : Cf) (v : Qm) (g : Nat → Int) : Prop where
  ok : OkQ v
  c : v.c = c
  near : Near now v
  u : ∀ j, 0 ≤ g j
  to : ∀ j, g j ≤ now ∨ ∃ f, v.fl j = some f ∧ g j ≤ f.nx
theorem Pc.collect {now t : Int} {c : Cf} {v : Qm} {g : Nat → Int} (h : Pc now c v g) (ht : now ≤ t) (hb : t ≤ 4611686018427387904) : Pc t c (collectF v t) g where
  ok := h.ok.collect t
  c := h.c
  near := near_collect (h.near.later ht)
  u := h.u
  to j := by
    rcases h.to j with hj | ⟨f, hf, hj⟩
    · left; omega
    · by_cases e : idle v j 3000000000 t = true
      · left
        obtain ⟨f', hf', hs, hn⟩ := idle_some e
        rw [hf] at hf'
        cases hf'
        have hx := (h.near j f hf).2 hn hs
        unfold idle at e
        rw [hf, Bool.and_eq_true, decide_eq_true_eq, decide_eq_true_eq] at e
        have e := e.2
        unfold addI at e
        split at e <;> omega
      · right
        exact ⟨f, by show (if _ then _ else _) = _; rw [if_neg e]; exact hf, hj⟩
theorem Pc.enq {now t : Int} {c : Cf} {v : Qm} {g : Nat → Int} (h : Pc now c v g) (h0 : 0 ≤ now) (ht : now ≤ t) (hb : t ≤ 4611686018427387904) {s : Sg} (hs : U (sFr s) ∧ U (sSt s)) : Pc t c (enqF v s t).2 g := by
  have hok := h.ok.enq hs (now := t) (by unfold U; omega)
  have hkeep : Pc t c v g := ⟨h.ok, h.c, h.near.later ht, h.u, fun j => (h.to j).imp (fun x => by omega) id⟩
  revert hok
  unfold enqF
  split
  · exact fun _ => hkeep
  · split
    · exact fun _ => hkeep
    · rename_i hk _
      have hk : 0 ≤ sK s ∧ sK s ≤ 7 := Decidable.not_not.1 hk
      have hc := h.collect ht hb
      split
      · intro hok
        refine ⟨hok, ?_, near_add hc.near (by omega) (by omega) _, h.u, fun j => ?_⟩
        · dsimp only
          rw [FqM.add_eq]
          exact h.c
        · rcases hc.to j with hj | ⟨f, hf, hj⟩
          · exact .inl hj
          · right
            dsimp only
            rw [FqM.add_eq]
            by_cases e : j = (sK s).toNat
            · subst e
              refine ⟨_, upF_same _ _ _, ?_⟩
              show g _ ≤ (woken (collectF v t) (sK s).toNat t).nx
              unfold woken
              rw [hf]
              simp only
              split <;> exact hj
            · exact ⟨f, (upF_ne _ _ e).trans hf, hj⟩
      · exact fun _ => hc
def upG (g : Nat → Int) (i : Nat) (x : Int) : Nat → Int := fun j => if j = i then x else g j
theorem upG_same (g : Nat → Int) (i : Nat) (x : Int) : upG g i x i = x := by simp [upG]
theorem upG_ne (g : Nat → Int) {i j : Nat} (x : Int) (h : j ≠ i) : upG g i x j = g j := by simp [upG, h]
theorem Pc.zero {now : Int} {c : Cf} {v : Qm} {g : Nat → Int} (h : Pc now c v g) (h0 : 0 ≤ now) (i : Nat) : Pc now c v (upG g i 0) := ⟨h.ok, h.c, h.near, fun j => by
  unfold upG; split
  · decide
  · exact h.u j, fun j => by
  by_cases e : j = i
  · rw [e, upG_same]; exact .inl h0
  · rw [upG_ne _ _ e]; exact h.to j⟩
/-- A pull: what departs may. -/
theorem Pc.deq {now t : Int} {c : Cf} {v : Qm} {g : Nat → Int} (h : Pc now c v g) (h0 : 0 ≤ now) (ht : now ≤ t) (hb : t ≤ 4611686018427387904) {rates : List Int} (hr : ∀ x ∈ rates, U x) :
    ((deqF v t rates).1 = none ∧ Pc t c (deqF v t rates).2 g) ∨ ∃ (i : Nat) (s : Sg), (deqF v t rates).1 = some s ∧ (sK s = (i : Int) ∧ i < 8) ∧ (1 ≤ sLn s ∧ sLn s ≤ 65536) ∧ g i ≤ t ∧ sSt s ≤ t ∧ Pc t c (deqF v t rates).2 (upG g i (addI t (delayI (sLn s) (lessI (rateA rates i) (cR c))))) := by
  have ut : U t := by unfold U; omega
  obtain ⟨u, ⟨hu, hn⟩, hc⟩ := ranP (Near t) h.ok (near_kept t) ut hr (near_due (h.near.later ht))
  have hto : ∀ j, g j ≤ t ∨ ∃ f, u.fl j = some f ∧ g j ≤ f.nx := fun j => by
    rcases h.to j with hj | ⟨f, hf, hj⟩
    · left; omega
    · obtain ⟨f', hf', hx, _⟩ := hu.same.to hf
      exact .inr ⟨f', hf', by rw [hx]; exact hj⟩
  rcases hc with ⟨_, he⟩ | ⟨i, f, s, l, hA, hcr, hs, htf, he⟩
  · left
    rw [he]
    exact ⟨rfl, hu.ok, hu.c.trans h.c, hn, h.u, hto⟩
  · right
    have hF := (hu.ok.fl i f hA.fl).2
    obtain ⟨hsk, hso⟩ := hF.sg s (by rw [hs]; simp)
    have hL := U_less (U_rateA hr i) hu.ok.cf.r
    have hln := hso.ln
    have hD := delay_r (n := sLn s) (by omega) hL
    have htf2 : f.nx ≤ timeF f ∧ sSt s ≤ timeF f := by
      unfold timeF
      rw [hs]
      simp only
      split <;> omega
    have hsent := hA.sent hs hcr ut (U_delay (by omega) hL)
    have ea : addI t (delayI (sLn s) (lessI (rateA rates i) (cR u.c))) = t + delayI (sLn s) (lessI (rateA rates i) (cR u.c)) := by unfold addI; rw [if_pos (by omega)]
    have huc : u.c = c := hu.c.trans h.c
    rw [he]
    refine ⟨i, s, rfl, ⟨hsk, hA.lt⟩, hln, ?_, by omega, hsent, huc, fun j f' hf' => ?_, fun j => ?_, fun j => ?_⟩
    · rcases hto i with x | ⟨f', hf', x⟩
      · exact x
      · rw [hA.fl] at hf'
        cases hf'
        omega
    · have hf' : upF u.fl i _ j = some f' := hf'
      by_cases e : j = i
      · subst e
        rw [upF_same] at hf'
        cases hf'
        refine ⟨?_, fun x => absurd hA.inl x⟩
        show addI t (delayI (sLn s) (lessI (rateA rates j) (cR u.c))) ≤ _
        omega
      · rw [upF_ne _ _ e] at hf'
        exact hn j f' hf'
    · unfold upG; split
      · rw [← huc]; omega
      · exact h.u j
    · by_cases e : j = i
      · subst e
        rw [upG_same, ← huc]
        exact .inr ⟨_, upF_same _ _ _, Int.le_refl _⟩
      · rw [upG_ne _ _ e]
        exact (hto j).imp id fun ⟨f', hf', x⟩ => ⟨f', (upF_ne _ _ e).trans hf', x⟩
/-! ### Eight numbers -/
abbrev nL (g : Nat → Int) : List Lf := [.int .u64 (g 0), .int .u64 (g 1), .int .u64 (g 2), .int .u64 (g 3), .int .u64 (g 4), .int .u64 (g 5), .int .u64 (g 6), .int .u64 (g 7)]
theorem nL_at (g : Nat → Int) {i : Nat} (hi : i < 8) : Ks.un [.int .u64] (((nL g).drop (0 + i * 1)).take 1) = some (g i) := by
  have : i = 0 ∨ i = 1 ∨ i = 2 ∨ i = 3 ∨ i = 4 ∨ i = 5 ∨ i = 6 ∨ i = 7 := by omega
  rcases this with rfl | rfl | rfl | rfl | rfl | rfl | rfl | rfl <;> rfl
theorem nL_up (g : Nat → Int) {i : Nat} (hi : i < 8) (x : Int) : upd (nL g) (0 + i * 1) [.int .u64 x] = nL (upG g i x) := by
  have : i = 0 ∨ i = 1 ∨ i = 2 ∨ i = 3 ∨ i = 4 ∨ i = 5 ∨ i = 6 ∨ i = 7 := by omega
  rcases this with rfl | rfl | rfl | rfl | rfl | rfl | rfl | rfl <;> rfl
theorem nL_ble {i : Nat} (hi : i < 8) : Nat.ble (0 + i * 1 + 1) 8 = true := Nat.ble_eq_true_of_le (by omega)
theorem paces_tri (d : Cf) (o : Sl) (ps : List OpD) (hd : 0 ≤ cH d ∧ U (cR d)) (hp : ∀ p ∈ ps, OkD p) : Tri Try.prog N_canterlaw20_FqPaces [.agg (Ks.mk KC d), .lf (.sl o)] [.lf .bool] (opsD o ps) (fun r => pur (r = true) emp) :=
  tri_0 (call_canterlaw20_FqPaces d o) fun w0 S R h => by
    unfold W_canterlaw20_FqPaces
    have h : Own w0 S R w0 (rarr o KD (ps.map Prod.fst) ^ rl (fun p : OpD => rarr (dR p.1) KU p.2) ps) := h
    have hol := (h.rd (s := o)).2
    rw [List.length_map] at hol
    obtain ⟨cf, hce⟩ : ∃ cf, cf = configF d := ⟨_, rfl⟩
    have hc : OkC cf := by rw [hce]; exact config_ok hd.1 hd.2
    have hm : may cf = true := by rw [hce]; exact config_may d
    refine w_new h fun n1 w h => w_ldAll (b := n1) (x := d) h rfl (w_call (config_tri d) h fun r w h => ?_)
    obtain ⟨hr, h⟩ := h.purP; rw [hr, ← hce]
    refine w_setAll h (by rfl) fun w h => w_ldAll (b := n1) (x := cf) h rfl (w_call (new_tri cf) h fun r w h => ?_)
    obtain ⟨b, h⟩ := h.exP
    obtain ⟨hr, h⟩ := h.purP
    rw [if_pos hm] at hr h
    rw [hr]
    refine w_call awake_tri h fun r w h => ?_
    obtain ⟨hr, h⟩ := h.purP; rw [hr]
    refine w_ite (fun c => (by simp at c)) fun _ => ?_
    refine w_new h fun n7 w h => ?_
    have hP0 : Pc 0 cf (newF cf) (fun _ => 0) := ⟨OkQ.new hc, rfl, fun j f hf => (by cases hf), fun _ => Int.le_refl _, fun _ => .inl (Int.le_refl _)⟩
    have h := h.blkEq (b := n7) (L' := nL (fun _ => 0)) rfl
    have h := h.inq (f := fun x : Qm × (Nat → Int) => que b x.1 ^ blk n7 (nL x.2)) (φ := fun x => Pc 0 cf x.1 x.2) (newF cf, fun _ => 0) hP0
    have h : Own w0 S R w (exq (fun x : Qm × (Nat → Int) => Pc ((0 : Int), (0 : Int)).1 cf x.1 x.2) (fun x : Qm × (Nat → Int) => que b x.1 ^ blk n7 (nL x.2)) ^ blk n1 (Ks.mk KC cf) ^ rarr o KD (ps.map Prod.fst) ^ rl (fun p : OpD => rarr (dR p.1) KU p.2) ps) := h.fin
    refine w_loop (fun y : Int × Int => exq (fun x : Qm × (Nat → Int) => Pc y.1 cf x.1 x.2) (fun x : Qm × (Nat → Int) => que b x.1 ^ blk n7 (nL x.2)) ^ blk n1 (Ks.mk KC cf) ^ rarr o KD (ps.map Prod.fst) ^ rl (fun p : OpD => rarr (dR p.1) KU p.2) ps) (fun y : Int × Int => (0 ≤ y.1 ∧ y.1 ≤ 4611686018427387904) ∧ 0 ≤ y.2 ∧ y.2 ≤ 100) (fun y : Int × Int => (100 - y.2).toNat) h ⟨by decide, by decide⟩ ?_
    rintro (y0 : Int × Int) w ⟨hnow, hi0, hi1⟩ h
    obtain ⟨now, i⟩ := y0
    dsimp only at hnow hi0 hi1
    obtain ⟨⟨v, g⟩, hPc, h⟩ := h.outq
    dsimp only at hPc h
    refine w_ite (fun c => ?_) fun c => Own.retP rfl h.emp'
    have hcc : i < ps.length ∧ i < 100 := by
      have c : (decide (i < ((o.len : Nat) : Int)) && decide (i < 100)) = true := c
      rw [Bool.and_eq_true, decide_eq_true_eq, decide_eq_true_eq] at c
      omega
    have hi : i.toNat < ps.length := by omega
    have hwi : IntKind.i64.wrap (i + 1) = i + 1 := wi (by omega) (by omega)
    obtain ⟨p, hpi⟩ : ∃ p, ps[i.toNat]? = some p := ⟨_, List.getElem?_eq_getElem hi⟩
    have hpm : (ps.map Prod.fst)[i.toNat]? = some p.1 := by rw [List.getElem?_map, hpi]; rfl
    haveI := rd_dR hpi
    have hD := hp p (List.mem_of_getElem? hpi)
    obtain ⟨ht, htl, hgu⟩ := nowF_r hnow hD.g
    refine w_idx (s := o) h hi0 (by rw [List.length_map]; exact hi) (w_ldE h o i.toNat hpm rfl ?_)
    refine w_new h fun n11 w h => w_setAll h (by rfl) fun w h => w_ld h rfl (w_call (radd_tri now _ (u_big hnow) hgu) h fun r w h => ?_)
    obtain ⟨hr, h⟩ := h.purP; rw [hr]
    have et : (if (4611686018427387904 : Int) < addI now ((dG p.1).tmod 2000000000) then (4611686018427387904 : Int) else addI now ((dG p.1).tmod 2000000000)) = nowF now (dG p.1) := rfl
    rw [et]
    obtain ⟨t, hte⟩ : ∃ t, t = nowF now (dG p.1) := ⟨_, rfl⟩
    rw [← hte] at ht htl ⊢
    have ut := u_big ht
    have nxt : ∀ (v' : Qm) (g' : Nat → Int) (w : World), Pc t cf v' g' → Own w0 S R w (que b v' ^ blk n7 (nL g') ^ blk n1 (Ks.mk KC cf) ^ rarr o KD (ps.map Prod.fst) ^ rl (fun p : OpD => rarr (dR p.1) KU p.2) ps) →
        ((((0 ≤ (t, i + 1).1 ∧ (t, i + 1).1 ≤ 4611686018427387904) ∧ 0 ≤ (t, i + 1).2 ∧ (t, i + 1).2 ≤ 100) ∧ Own w0 S R w (exq (fun x : Qm × (Nat → Int) => Pc (t, i + 1).1 cf x.1 x.2) (fun x : Qm × (Nat → Int) => que b x.1 ^ blk n7 (nL x.2)) ^ blk n1 (Ks.mk KC cf) ^ rarr o KD (ps.map Prod.fst) ^ rl (fun p : OpD => rarr (dR p.1) KU p.2) ps)) ∧ (100 - (t, i + 1).2).toNat < (100 - (now, i).2).toNat) := fun v' g' w hP h => by
      have h := h.inq (f := fun x : Qm × (Nat → Int) => que b x.1 ^ blk n7 (nL x.2)) (φ := fun x => Pc t cf x.1 x.2) (v', g') hP
      exact ⟨⟨⟨ht, by show 0 ≤ i + 1; omega, by show i + 1 ≤ 100; omega⟩, h.fin⟩, by show (100 - (i + 1)).toNat < (100 - i).toNat; omega⟩
    have h : Own w0 S R w (blk n11 (Ks.mk KD p.1) ^ que b v ^ blk n7 (nL g) ^ blk n1 (Ks.mk KC cf) ^ rarr o KD (ps.map Prod.fst) ^ rl (fun p : OpD => rarr (dR p.1) KU p.2) ps) := h.fin
    refine w_join h (fun _ => blk n11 (Ks.mk KD p.1) ^ que b v ^ blk n7 (nL g) ^ blk n1 (Ks.mk KC cf) ^ rarr o KD (ps.map Prod.fst) ^ rl (fun p : OpD => rarr (dR p.1) KU p.2) ps) (fun _ : Bool => True) (fun (y : Bool) w _ h => ?_) ?_
    · refine w_ite (fun _ => ?_) fun _ => ?_
      · refine w_ld (x := dS p.1) h rfl (w_call (seg_tri (dS p.1)) h fun r w h => ?_)
        obtain ⟨hr, h⟩ := h.purP; rw [hr]
        refine w_call (enq_tri b v hPc.ok (segF (dS p.1)) t hD.s ut) h fun r w h => ?_
        obtain ⟨_, h⟩ := h.purP
        have hP1 := hPc.enq hnow.1 htl ht.2 (s := segF (dS p.1)) hD.s
        obtain ⟨v1, hv1⟩ : ∃ v1, v1 = (enqF v (segF (dS p.1)) t).2 := ⟨_, rfl⟩
        rw [← hv1] at h hP1
        have h := h.inq (f := fun x : Nat → Int => blk n7 (nL x)) (φ := fun x => Pc t cf v1 x) g hP1
        have h : Own w0 S R w (exq (fun x : Nat → Int => Pc t cf v1 x) (fun x : Nat → Int => blk n7 (nL x)) ^ que b v1 ^ blk n1 (Ks.mk KC cf) ^ rarr o KD (ps.map Prod.fst) ^ rl (fun p : OpD => rarr (dR p.1) KU p.2) ps) := h.fin
        refine w_loop (fun _ : Int => exq (fun x : Nat → Int => Pc t cf v1 x) (fun x : Nat → Int => blk n7 (nL x)) ^ que b v1 ^ blk n1 (Ks.mk KC cf) ^ rarr o KD (ps.map Prod.fst) ^ rl (fun p : OpD => rarr (dR p.1) KU p.2) ps) (fun y : Int => 0 ≤ y ∧ y ≤ 8) (fun y : Int => (8 - y).toNat) h ⟨by decide, by decide⟩ ?_
        rintro (k : Int) w hk h
        obtain ⟨g1, hg1, h⟩ := h.outq
        have hwk : IntKind.i64.wrap (k + 1) = k + 1 := wi (by omega) (by omega)
        refine w_ite (fun ck => ?_) fun ck => ?_
        · have c8 : k < 8 := by simpa using ck
          refine w_call (flow_tri b v1 hg1.ok k) h fun r w h => ?_
          obtain ⟨s, h⟩ := h.exP
          obtain ⟨hr, h⟩ := h.purP; rw [hr]
          refine w_new h fun n25 w h => w_setAll h (by rfl) fun w h => ?_
          rw [hwk]
          refine w_ite (fun c2 => ?_) fun c2 => ?_
          · refine ⟨⟨hk.1, c8⟩, ?_⟩
            refine w_setTo h n7 (nL (upG g1 k.toNat 0)) rfl (nL_ble (by omega)) (nL_up g1 (by omega) 0) fun w h => ?_
            have h := h.inq (f := fun x : Nat → Int => blk n7 (nL x)) (φ := fun x => Pc t cf v1 x) (upG g1 k.toNat 0) (hg1.zero ht.1 k.toNat)
            exact ⟨⟨by omega, h.fin⟩, by omega⟩
          · have h := h.inq (f := fun x : Nat → Int => blk n7 (nL x)) (φ := fun x => Pc t cf v1 x) g1 hg1
            exact ⟨⟨by omega, h.fin⟩, by omega⟩
        · rw [hwi]
          exact nxt v1 g1 w hg1 h.fin
      · have hdq := hPc.deq hnow.1 htl ht.2 (rates := p.2) hD.r
        refine w_ld h rfl (w_callL (deq_tri b v hPc.ok t ut (dR p.1) p.2 hD.r) h fun r w h => ?_)
        obtain ⟨hr, h⟩ := h.purP; rw [hr]
        refine w_new h fun n28 w h => w_setAll h (by rfl) fun w h => ?_
        rcases hdq with ⟨hn, hP1⟩ | ⟨j, s, hsm, ⟨hsk, hj8⟩, hln, hg, hst, hP1⟩
        · rw [hn]
          refine w_ite (fun _ => ?_) fun c => (by simp [outS] at c)
          rw [hwi]
          exact nxt _ g w hP1 h.fin
        · rw [hsm] at h ⊢
          refine w_ite (fun c => (by simp [outS] at c)) fun _ => ?_
          rw [show (outS (some s)).1 = s from rfl] at h
          have h : Own w0 S R w (blk n28 (Ks.mk KS s) ^ blk n11 (Ks.mk KD p.1) ^ que b (deqF v t p.2).2 ^ blk n7 (nL g) ^ blk n1 (Ks.mk KC cf) ^ rarr o KD (ps.map Prod.fst) ^ rl (fun p : OpD => rarr (dR p.1) KU p.2) ps) := h.fin
          refine w_join h (fun _ => blk n28 (Ks.mk KS s) ^ blk n11 (Ks.mk KD p.1) ^ que b (deqF v t p.2).2 ^ blk n7 (nL g) ^ blk n1 (Ks.mk KC cf) ^ rarr o KD (ps.map Prod.fst) ^ rl (fun p : OpD => rarr (dR p.1) KU p.2) ps) (fun y : Bool => y = false) (fun (y : Bool) w hy h => ?_) ?_
          · rw [hy]
            refine w_ite (fun c => (by cases c)) fun _ => ?_
            refine w_join h (fun _ => blk n28 (Ks.mk KS s) ^ blk n11 (Ks.mk KD p.1) ^ que b (deqF v t p.2).2 ^ blk n7 (nL g) ^ blk n1 (Ks.mk KC cf) ^ rarr o KD (ps.map Prod.fst) ^ rl (fun p : OpD => rarr (dR p.1) KU p.2) ps) (fun y : Int => y = rateA p.2 j) (fun (y : Int) w hy h => ?_) ?_
            · have hUr := U_rateA hD.r j
              have hL := U_less hUr hc.r
              have hDl := U_delay (n := sLn s) (by omega) hL
              rw [hy]
              refine w_drw h fun w h => w_ld h rfl (w_ld h rfl (w_ld h rfl (w_call (rless_tri _ (cR cf) hUr hc.r) h fun r w h => ?_)))
              obtain ⟨hr, h⟩ := h.purP; rw [hr]
              refine w_chk h rfl (w_chk h rfl (w_call (rdelay_tri (sLn s) _ (by omega) hL) h fun r w h => ?_))
              obtain ⟨hr, h⟩ := h.purP; rw [hr]
              refine w_chk h rfl (w_call (radd_tri t _ ut hDl) h fun r w h => ?_)
              obtain ⟨hr, h⟩ := h.purP; rw [hr]
              refine w_chk h rfl ?_
              have hsk2 : s.1 = (j : Int) := hsk
              rw [hsk2]
              refine ⟨by omega, ?_⟩
              rw [Int.toNat_natCast]
              refine w_setTo h n7 (nL (upG g j (addI t (delayI (sLn s) (lessI (rateA p.2 j) (cR cf)))))) rfl (by exact nL_ble hj8) (nL_up g hj8 _) fun w h => ?_
              rw [hwi]
              exact nxt _ _ w hP1 h.fin
            · refine w_ld h rfl (w_ld h rfl ?_)
              have hlen := (h.rd (s := dR p.1)).2
              have hsk2 : s.1 = (j : Int) := hsk
              rw [hsk2]
              refine w_ite (fun c => ?_) fun c => ?_
              · have c : (j : Int) < ((dR p.1).len : Int) := by simpa using c
                obtain ⟨x, hx⟩ : ∃ x, p.2[j]? = some x := ⟨_, List.getElem?_eq_getElem (by omega)⟩
                refine w_ld h rfl (w_ld h rfl ?_)
                rw [hsk2]
                refine w_idx (s := dR p.1) h (by omega) (by omega) (w_ldE h (dR p.1) j hx (by rw [Int.toNat_natCast]; rfl) ?_)
                refine ⟨?_, h⟩
                show x = rateA p.2 j
                unfold rateA; rw [hx]
              · have c : ¬ (j : Int) < ((dR p.1).len : Int) := by simpa using c
                refine ⟨?_, h⟩
                show (18446744073709551615 : Int) = rateA p.2 j
                unfold rateA; rw [List.getElem?_eq_none (by omega)]
          · have hsk2 : s.1 = (j : Int) := hsk
            refine w_ld h rfl ?_
            rw [hsk2]
            refine w_ite (fun c => ?_) fun _ => ?_
            · exfalso
              have c : (j : Int) < 0 := by simpa using c
              omega
            refine w_ld h rfl ?_
            rw [hsk2]
            refine w_ite (fun c => ?_) fun _ => ?_
            · exfalso
              have c : (j : Int) ≥ 8 := by simpa using c
              omega
            refine w_ld h rfl ?_
            rw [hsk2]
            refine ⟨by omega, ?_⟩
            rw [Int.toNat_natCast]
            refine w_ld h (nL_at g hj8) (w_ite (fun c => ?_) fun _ => ?_)
            · exfalso
              have c : t < g j := by simpa using c
              omega
            refine w_ld h rfl ⟨?_, h⟩
            show decide (t < sSt s) = false
            rw [decide_eq_false_iff_not]; omega
    · refine w_ld h rfl (w_ite (fun _ => w_ld h rfl ⟨trivial, h⟩) fun _ => ⟨trivial, h⟩)
end FqS

end Go.X
