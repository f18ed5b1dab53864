/- Contracts and plain facts: FqQ. -/
import Derived.Test.YtjahkildlilabaaBPlain
import Derived.Test.YtjahkildlilabaaBArith
import Derived.Test.YtjahkildlilabaaBArithC
import Derived.Test.YtjahkildlilabaaBLists
import Derived.Test.YtjahkildlilabaaBTreeM
import Derived.Test.YtjahkildlilabaaBTreeN
import Derived.Test.YtjahkildlilabaaBTreeA
import Derived.Test.YtjahkildlilabaaBTreeB
import Derived.Test.YtjahkildlilabaaBTreeC
import Derived.Test.YtjahkildlilabaaBTreeD
import Derived.Test.YtjahkildlilabaaBTreeE
import Derived.Test.YtjahkildlilabaaBTreeF
import Derived.Test.YtjahkildlilabaaBFqM
import Derived.Test.YtjahkildlilabaaBFqC
import Derived.Test.YtjahkildlilabaaBFqD
import Derived.Test.YtjahkildlilabaaBFqE
import Derived.Test.YtjahkildlilabaaBFqG
import Derived.Test.YtjahkildlilabaaBFqH
import Derived.Test.YtjahkildlilabaaBFqI
import Derived.Test.YtjahkildlilabaaBFqK
import Derived.Test.YtjahkildlilabaaBFqN
import Derived.Test.YtjahkildlilabaaXw
import Derived.Test.YtjahkildlilabaaK
import Derived.Test.YtjahkildlilabaaF0
import Derived.Test.YtjahkildlilabaaF1
set_option linter.unusedVariables false
set_option linter.unusedSimpArgs false
set_option linter.unusedSectionVars false
namespace Go.X
open Go.Proofs
namespace FqQ
open Arith ArithC Lists _root_.Go.X.Tree TreeC TreeD TreeE TreeF FqM FqC FqD FqE FqG FqH FqI FqK FqN
/-! ### How a pull goes -/
/-- Flows have what they had: their times and their segments. -/
def Same (u v : Qm) : Prop := ∀ i, (v.fl i).map (fun f => (f.nx, f.sg)) = (u.fl i).map fun f => (f.nx, f.sg)
theorem Same.rfl' (u : Qm) : Same u u := fun _ => rfl
theorem Same.trans {a b c : Qm} (h : Same a b) (g : Same b c) : Same a c := fun i => (g i).trans (h i)
theorem Same.to {u v : Qm} (h : Same u v) {i : Nat} {f : Fl} (hf : u.fl i = some f) : ∃ g, v.fl i = some g ∧ g.nx = f.nx ∧ g.sg = f.sg ∧ timeF g = timeF f := by
  have := h i
  rw [hf] at this
  cases hg : v.fl i with
  | none => rw [hg] at this; cases this
  | some g =>
    rw [hg] at this
    simp only [Option.map_some, Option.some.injEq, Prod.mk.injEq] at this
    refine ⟨g, rfl, this.1, this.2, ?_⟩
    unfold timeF
    rw [this.1, this.2]
theorem Same.sym {u v : Qm} (h : Same u v) : Same v u := fun i => (h i).symm
theorem same_up {u : Qm} {i : Nat} {f g : Fl} (hf : u.fl i = some f) (h1 : g.nx = f.nx) (h2 : g.sg = f.sg) (lv : LV) (ks : List Key) : Same u { u with fl := upF u.fl i (some g), lv := lv, ks := ks } := fun j => by
  show (upF u.fl i (some g) j).map _ = _
  by_cases e : j = i
  · rw [e, upF_same, hf]
    simp [h1, h2]
  · rw [upF_ne _ _ e]
/-- Where a pull comes to an end. -/
structure Ran (now : Int) (u v : Qm) : Prop where
  ok : OkQ v
  same : Same u v
  late : ∀ k ∈ v.ks, k.1 > now
  c : v.c = u.c
  n : v.n = u.n
structure Kept (P : Qm → Prop) (now : Int) : Prop where
  credit : ∀ {u i f}, AtH u i f → f.cr ≤ 0 → P u → P { u with fl := upF u.fl i (some { f with cr := f.cr + cQ u.c }), lv := (backF u.lv).2 }
  back : ∀ {u i f}, AtH u i f → f.cr > 0 → f.sg = [] → (headF u.lv).2.1 = true ∧ u.lv.2 ≠ [] → P u → P { u with lv := (backF u.lv).2 }
  drop : ∀ {u i f}, AtH u i f → f.cr > 0 → f.sg = [] → ¬ ((headF u.lv).2.1 = true ∧ u.lv.2 ≠ []) → P u → P { u with lv := (dropF u.lv).2, fl := upF u.fl i (some { f with si := now }) }
  wait : ∀ {u i f}, AtH u i f → f.cr > 0 → f.sg ≠ [] → timeF f > now → P u → P { u with lv := (dropF u.lv).2, ks := putK u.ks (timeF f, (i : Int)) }
theorem runP {now : Int} {rates : List Int} (P : Qm → Prop) (hP : Kept P now) (hn : U now) (hr : ∀ x ∈ rates, U x) : ∀ (k : Nat) (u : Qm), mu u < k → OkQ u → (∀ x ∈ u.ks, x.1 > now) → P u →
    ∃ v, (Ran now u v ∧ P v) ∧ (((headF v.lv).2.2 = false ∧ heads now rates k u = (none, v)) ∨ ∃ i f s l, AtH v i f ∧ f.cr > 0 ∧ f.sg = s :: l ∧ timeF f ≤ now ∧ heads now rates k u = (some s, sentF v i f s now (rateA rates i))) := by
  intro k
  induction k with
  | zero => intro u h; omega
  | succ k ih =>
    intro u hk hu hl hp
    cases hh : (headF u.lv).2.2 with
    | false => exact ⟨u, ⟨⟨hu, Same.rfl' u, hl, rfl, rfl⟩, hp⟩, .inl ⟨hh, heads_no hh _ _ _⟩⟩
    | true =>
      have hmm := headF_mem hh
      have hx := hu.lv.2 _ hmm
      obtain ⟨i, hi⟩ : ∃ i : Nat, (headF u.lv).1 = (i : Int) := ⟨(headF u.lv).1.toNat, by omega⟩
      obtain ⟨f, hf⟩ := hu.th i (by rw [hi] at hmm; exact hmm)
      have hA : AtH u i f := ⟨hu, hi, hh, hf⟩
      rw [heads_at hA]
      have go : ∀ u' : Qm, OkQ u' → mu u' < mu u → Same u u' → (∀ x ∈ u'.ks, x.1 > now) → u'.c = u.c → u'.n = u.n → P u' →
          ∃ v, (Ran now u v ∧ P v) ∧ (((headF v.lv).2.2 = false ∧ heads now rates k u' = (none, v)) ∨ ∃ i f s l, AtH v i f ∧ f.cr > 0 ∧ f.sg = s :: l ∧ timeF f ≤ now ∧ heads now rates k u' = (some s, sentF v i f s now (rateA rates i))) := fun u' h1 h2 h3 h4 h5 h6 h7 => by
        obtain ⟨v, ⟨hv, hv2⟩, h⟩ := ih u' (by omega) h1 h4 h7
        exact ⟨v, ⟨⟨hv.ok, h3.trans hv.same, hv.late, hv.c.trans h5, hv.n.trans h6⟩, hv2⟩, h⟩
      by_cases c : f.cr ≤ 0
      · rw [if_pos c]
        exact go _ (hA.credit c) (at_mu_credit hA c) (same_up (g := { f with cr := f.cr + cQ u.c }) hf rfl rfl _ _) hl rfl rfl (hP.credit hA c hp)
      · rw [if_neg c]
        cases hs : f.sg with
        | nil =>
          simp only
          split
          · rename_i c2
            exact go _ hA.back (at_mu_back hA c2.1) (fun _ => rfl) hl rfl rfl (hP.back hA (by omega) hs c2 hp)
          · rename_i c2
            rw [← hs]
            exact go _ (hA.nowhere hs hn) (at_mu_drop hA _ _) (same_up (g := { f with si := now }) hf rfl rfl _ _) hl rfl rfl (hP.drop hA (by omega) hs c2 hp)
        | cons s l =>
          simp only
          split
          · rename_i c2
            have hmu := at_mu_drop hA (some f) (putK u.ks (timeF f, (i : Int)))
            rw [upF_id hA.fl] at hmu
            refine go _ (hA.wait (by rw [hs]; simp)).1 hmu (fun _ => rfl) (fun x hx => ?_) rfl rfl (hP.wait hA (by omega) (by rw [hs]; simp) c2 hp)
            rcases (putK_mem _ _ _).1 hx with rfl | hx
            · exact c2
            · exact hl x hx
          · rename_i c2
            exact ⟨u, ⟨⟨hu, Same.rfl' u, hl, rfl, rfl⟩, hp⟩, .inr ⟨i, f, s, l, hA, by omega, hs, by omega, rfl⟩⟩
theorem due_late {v : Qm} (hv : OkQ v) (now : Int) : ∀ k ∈ (dueF v now).ks, k.1 > now := by
  have : ∀ {ks : List Key}, Srt ks → ∀ k ∈ ks.dropWhile (fun k => decide (k.1 ≤ now)), k.1 > now := fun {ks} => by
    induction ks with
    | nil => intro _ k hk; cases hk
    | cons a l ih =>
      intro hs k hk
      rw [List.dropWhile_cons] at hk
      split at hk
      · exact ih (List.pairwise_cons.1 hs).2 k hk
      · rename_i c
        have c : a.1 > now := by simpa using c
        rcases List.mem_cons.1 hk with rfl | hk
        · exact c
        · have := (List.pairwise_cons.1 hs).1 k hk
          rw [klt_iff] at this
          omega
  exact this hv.srt
/-- A pull, from what is due on. -/
theorem ranP {v : Qm} (P : Qm → Prop) (hv : OkQ v) {now : Int} (hP : Kept P now) (hn : U now) {rates : List Int} (hr : ∀ x ∈ rates, U x) (hp : P (dueF v now)) :
    ∃ u, (Ran now v u ∧ P u) ∧ (((headF u.lv).2.2 = false ∧ deqF v now rates = (none, u)) ∨ ∃ i f s l, AtH u i f ∧ f.cr > 0 ∧ f.sg = s :: l ∧ timeF f ≤ now ∧ deqF v now rates = (some s, sentF u i f s now (rateA rates i))) := by
  obtain ⟨u, ⟨h1, h3⟩, h2⟩ := runP P hP hn hr (mu (dueF v now) + 1) (dueF v now) (Nat.lt_succ_self _) (hv.due now) (due_late hv now) hp
  exact ⟨u, ⟨⟨h1.ok, (show Same v (dueF v now) from fun _ => rfl).trans h1.same, h1.late, h1.c, h1.n⟩, h3⟩, h2⟩
theorem ran {v : Qm} (hv : OkQ v) {now : Int} (hn : U now) {rates : List Int} (hr : ∀ x ∈ rates, U x) :
    ∃ u, Ran now v u ∧ (((headF u.lv).2.2 = false ∧ deqF v now rates = (none, u)) ∨ ∃ i f s l, AtH u i f ∧ f.cr > 0 ∧ f.sg = s :: l ∧ timeF f ≤ now ∧ deqF v now rates = (some s, sentF u i f s now (rateA rates i))) := by
  obtain ⟨u, ⟨h1, _⟩, h2⟩ := ranP (fun _ => True) hv ⟨fun _ _ _ => trivial, fun _ _ _ _ _ => trivial, fun _ _ _ _ _ => trivial, fun _ _ _ _ _ => trivial⟩ hn hr trivial
  exact ⟨u, h1, h2⟩
/-- What is none is late, and waits. -/
theorem ran_none {u : Qm} {now : Int} (hu : OkQ u) (hl : ∀ k ∈ u.ks, k.1 > now) (hh : (headF u.lv).2.2 = false) {i : Nat} {f : Fl} (hf : u.fl i = some f) (hs : f.sg ≠ []) : (timeF f, (i : Int)) ∈ u.ks ∧ timeF f > now := by
  have : (timeF f, (i : Int)) ∈ u.ks := (hu.ks _).2 ⟨i, f, hf, hs, fun h => (by
    unfold inL at h
    rw [head_no hh] at h
    cases h), rfl⟩
  exact ⟨this, hl _ this⟩
/-! ### The least time -/
/-- The least time of the first so many flows, and whether there is one. -/
def leastN (v : Qm) : Nat → Int × Bool
  | 0 => (0, false)
  | k + 1 => match v.fl k with
    | none => leastN v k
    | some f => if f.sg ≠ [] ∧ ((leastN v k).2 = false ∨ timeF f < (leastN v k).1) then (timeF f, true) else leastN v k
theorem least_spec (v : Qm) : ∀ k, ((leastN v k).2 = false → (leastN v k).1 = 0 ∧ ∀ i f, i < k → v.fl i = some f → f.sg = []) ∧
    ((leastN v k).2 = true → (∃ i f, i < k ∧ v.fl i = some f ∧ f.sg ≠ [] ∧ timeF f = (leastN v k).1) ∧ ∀ i f, i < k → v.fl i = some f → f.sg ≠ [] → (leastN v k).1 ≤ timeF f)
  | 0 => ⟨fun _ => ⟨rfl, fun i f h => by omega⟩, fun h => by cases h⟩
  | k + 1 => by
    obtain ⟨h1, h2⟩ := least_spec v k
    have old : ∀ {i : Nat}, i < k + 1 → i ≠ k → i < k := fun h1 h2 => by omega
    rw [leastN]
    cases hf : v.fl k with
    | none =>
      refine ⟨fun hb => ⟨(h1 hb).1, fun i f hi hg => ?_⟩, fun hb => ⟨?_, fun i f hi hg hs => ?_⟩⟩
      · by_cases e : i = k
        · rw [e, hf] at hg; cases hg
        · exact (h1 hb).2 i f (old hi e) hg
      · obtain ⟨i, f, a, b⟩ := (h2 hb).1
        exact ⟨i, f, by omega, b⟩
      · by_cases e : i = k
        · rw [e, hf] at hg; cases hg
        · exact (h2 hb).2 i f (old hi e) hg hs
    | some f0 =>
      simp only
      by_cases c : f0.sg ≠ [] ∧ ((leastN v k).2 = false ∨ timeF f0 < (leastN v k).1)
      · rw [if_pos c]
        refine ⟨fun hb => (by cases hb), fun _ => ⟨⟨k, f0, by omega, hf, c.1, rfl⟩, fun i f hi hg hs => ?_⟩⟩
        by_cases e : i = k
        · rw [e, hf] at hg; cases hg; exact Int.le_refl _
        · show timeF f0 ≤ _
          cases hb : (leastN v k).2 with
          | false => exact absurd ((h1 hb).2 i f (old hi e) hg) hs
          | true =>
            have := (h2 hb).2 i f (old hi e) hg hs
            rcases c.2 with c2 | c2
            · rw [hb] at c2; cases c2
            · omega
      · rw [if_neg c]
        refine ⟨fun hb => ⟨(h1 hb).1, fun i f hi hg => ?_⟩, fun hb => ⟨?_, fun i f hi hg hs => ?_⟩⟩
        · by_cases e : i = k
          · rw [e, hf] at hg; cases hg
            exact Classical.byContradiction fun hs => c ⟨hs, .inl hb⟩
          · exact (h1 hb).2 i f (old hi e) hg
        · obtain ⟨i, f, a, b⟩ := (h2 hb).1
          exact ⟨i, f, by omega, b⟩
        · by_cases e : i = k
          · rw [e, hf] at hg; cases hg
            have : ¬ timeF f0 < (leastN v k).1 := fun x => c ⟨hs, .inr x⟩
            omega
          · exact (h2 hb).2 i f (old hi e) hg hs
/-- A pull has a segment just if the least time has come; else the watchdog tells it. -/
theorem works {v : Qm} (hv : OkQ v) {now : Int} (hn : U now) {rates : List Int} (hr : ∀ x ∈ rates, U x) :
    ((deqF v now rates).1.isSome = ((leastN v 8).2 && decide ((leastN v 8).1 ≤ now))) ∧ ((deqF v now rates).2.n = v.n - if (deqF v now rates).1.isSome then 1 else 0) ∧
    ((deqF v now rates).1 = none → ((minF (deqF v now rates).2.ks).2 = (leastN v 8).2 ∧ ((minF (deqF v now rates).2.ks).2 = true → (minF (deqF v now rates).2.ks).1.1 = (leastN v 8).1))) := by
  obtain ⟨h1, h2⟩ := least_spec v 8
  obtain ⟨u, hu, h⟩ := ran hv hn hr
  rcases h with ⟨hh, he⟩ | ⟨i, f, s, l, hA, hc, hs, ht, he⟩
  · rw [he]
    refine ⟨?_, by simp [hu.n], fun _ => ?_⟩
    · cases hb : (leastN v 8).2 with
      | false => rfl
      | true =>
        obtain ⟨⟨i, f, hi0, hf, hs, e⟩, hle0⟩ := h2 hb
        obtain ⟨g, hg, _, hgs, hgt⟩ := hu.same.to hf
        have := (ran_none hu.ok hu.late hh hg (by rw [hgs]; exact hs)).2
        rw [hgt, e] at this
        show false = _
        rw [Bool.true_and, eq_comm, decide_eq_false_iff_not]
        omega
    · show (minF u.ks).2 = _ ∧ ((minF u.ks).2 = true → (minF u.ks).1.1 = _)
      cases hb : (leastN v 8).2 with
      | false =>
        have : u.ks = [] := by
          cases hk : u.ks with
          | nil => rfl
          | cons k l =>
            obtain ⟨i, f, hf, hs, _⟩ := (hu.ok.ks k).1 (by rw [hk]; simp)
            have hi := (hu.ok.fl i f hf).1
            obtain ⟨g, hg, _, hgs, _⟩ := hu.same.sym.to hf
            exact absurd ((h1 hb).2 i g hi hg) (by rw [hgs]; exact hs)
        rw [this]
        exact ⟨rfl, fun x => by cases x⟩
      | true =>
        obtain ⟨⟨i, f, _, hf, hs, e⟩, hle⟩ := h2 hb
        obtain ⟨g, hg, _, hgs, hgt⟩ := hu.same.to hf
        have hm := (ran_none hu.ok hu.late hh hg (by rw [hgs]; exact hs)).1
        rw [hgt, e] at hm
        cases hk : u.ks with
        | nil => rw [hk] at hm; cases hm
        | cons k l =>
          refine ⟨rfl, fun _ => ?_⟩
          show k.1 = _
          obtain ⟨i2, f2, hf2, hs2, _, e2⟩ := (hu.ok.ks k).1 (by rw [hk]; simp)
          obtain ⟨g2, hg2, _, hgs2, hgt2⟩ := hu.same.sym.to hf2
          have a1 := hle i2 g2 (hu.ok.fl i2 f2 hf2).1 hg2 (by rw [hgs2]; exact hs2)
          have a2 : k.1 = timeF f2 := by rw [e2]
          have a3 : k.1 ≤ (leastN v 8).1 := by
            rw [hk] at hm
            rcases List.mem_cons.1 hm with e3 | hm
            · rw [← e3]; exact Int.le_refl _
            · have hsr := hu.ok.srt
              rw [hk] at hsr
              have := (List.pairwise_cons.1 hsr).1 _ hm
              rw [klt_iff] at this
              have h4 : ((leastN v 8).1, (i : Int)).1 = (leastN v 8).1 := rfl
              omega
          omega
  · rw [he]
    obtain ⟨g, hg, _, hgs, hgt⟩ := hu.same.sym.to hA.fl
    have hne : g.sg ≠ [] := by rw [hgs, hs]; simp
    refine ⟨?_, ?_, fun x => by cases x⟩
    · have hb : (leastN v 8).2 = true := by
        cases hb : (leastN v 8).2 with
        | true => rfl
        | false => exact absurd ((h1 hb).2 i g hA.lt hg) hne
      have := (h2 hb).2 i g hA.lt hg hne
      rw [hb]
      show true = _
      rw [Bool.true_and, eq_comm, decide_eq_true_eq]
      omega
    · show u.n - 1 = v.n - 1
      rw [hu.n]
end FqQ

end Go.X
