/- Contracts and plain facts: FqQ. -/
import Derived.Test.YtjahkildlilabaaBPlain
import Derived.Test.YtjahkildlilabaaBArith
import Derived.Test.YtjahkildlilabaaBArithC
import Derived.Test.YtjahkildlilabaaBLists
import Derived.Test.YtjahkildlilabaaBTreeM
import Derived.Test.YtjahkildlilabaaBTreeN
import Derived.Test.YtjahkildlilabaaBTreeA
import Derived.Test.YtjahkildlilabaaBTreeB
import Derived.Test.YtjahkildlilabaaBTreeC
import Derived.Test.YtjahkildlilabaaBTreeD
import Derived.Test.YtjahkildlilabaaBTreeE
import Derived.Test.YtjahkildlilabaaBTreeF
import Derived.Test.YtjahkildlilabaaBFqM
import Derived.Test.YtjahkildlilabaaBFqC
import Derived.Test.YtjahkildlilabaaBFqD
import Derived.Test.YtjahkildlilabaaBFqE
import Derived.Test.YtjahkildlilabaaBFqG
import Derived.Test.YtjahkildlilabaaBFqH
import Derived.Test.YtjahkildlilabaaBFqI
import Derived.Test.YtjahkildlilabaaBFqJ
import Derived.Test.YtjahkildlilabaaBFqK
import Derived.Test.YtjahkildlilabaaBFqN
import Derived.Test.YtjahkildlilabaaXw
import Derived.Test.YtjahkildlilabaaK
import Derived.Test.YtjahkildlilabaaF0
import Derived.Test.YtjahkildlilabaaF1
set_option linter.unusedVariables false
set_option linter.unusedSimpArgs false
set_option linter.unusedSectionVars false
namespace Go.X
open Go.Proofs
namespace FqQ
open Arith ArithC Lists _root_.Go.X.Tree TreeC TreeD TreeE TreeF FqM FqC FqD FqE FqG FqH FqI FqJ FqK FqN
/-! ### How a pull goes -/
/-- Flows have what they had: their times and their segments. -/
def Same (u v : Qm) : Prop := ∀ i, (v.fl i).map (fun f => (f.nx, f.sg)) = (u.fl i).map fun f => (f.nx, f.sg)
theorem Same.rfl' (u : Qm) : Same u u := fun _ => rfl
theorem Same.trans {a b c : Qm} (h : Same a b) (g : Same b c) : Same a c := fun i => (g i).trans (h i)
theorem Same.to {u v : Qm} (h : Same u v) {i : Nat} {f : Fl} (hf : u.fl i = some f) : ∃ g, v.fl i = some g ∧ g.nx = f.nx ∧ g.sg = f.sg ∧ timeF g = timeF f := by
  have := h i
  rw [hf] at this
  cases hg : v.fl i with
  | none => rw [hg] at this; cases this
  | some g =>
    rw [hg] at this
    simp only [Option.map_some, Option.some.injEq, Prod.mk.injEq] at this
    refine ⟨g, rfl, this.1, this.2, ?_⟩
    unfold timeF
    rw [this.1, this.2]
theorem same_up {u : Qm} {i : Nat} {f g : Fl} (hf : u.fl i = some f) (h1 : g.nx = f.nx) (h2 : g.sg = f.sg) (lv : LV) (ks : List Key) : Same u { u with fl := upF u.fl i (some g), lv := lv, ks := ks } := fun j => by
  show (upF u.fl i (some g) j).map _ = _
  by_cases e : j = i
  · rw [e, upF_same, hf]
    simp [h1, h2]
  · rw [upF_ne _ _ e]
/-- Where a pull comes to an end. -/
structure Ran (now : Int) (u v : Qm) : Prop where
  ok : OkQ v
  same : Same u v
  late : ∀ k ∈ v.ks, k.1 > now
  c : v.c = u.c
  n : v.n = u.n
structure Kept (P : Qm → Prop) (now : Int) : Prop where
  credit : ∀ {u i f}, AtH u i f → f.cr ≤ 0 → P u → P { u with fl := upF u.fl i (some { f with cr := f.cr + cQ u.c }), lv := (backF u.lv).2 }
  back : ∀ {u i f}, AtH u i f → f.cr > 0 → f.sg = [] → (headF u.lv).2.1 = true ∧ u.lv.2 ≠ [] → P u → P { u with lv := (backF u.lv).2 }
  drop : ∀ {u i f}, AtH u i f → f.cr > 0 → f.sg = [] → ¬ ((headF u.lv).2.1 = true ∧ u.lv.2 ≠ []) → P u → P { u with lv := (dropF u.lv).2, fl := upF u.fl i (some { f with si := now }) }
  wait : ∀ {u i f}, AtH u i f → f.cr > 0 → f.sg ≠ [] → timeF f > now → P u → P { u with lv := (dropF u.lv).2, ks := putK u.ks (timeF f, (i : Int)) }
theorem runP {now : Int} {rates : List Int} (P : Qm → Prop) (hP : Kept P now) (hn : U now) (hr : ∀ x ∈ rates, U x) : ∀ (k : Nat) (u : Qm), mu u < k → OkQ u → (∀ x ∈ u.ks, x.1 > now) → P u →
    ∃ v, (Ran now u v ∧ P v) ∧ (((headF v.lv).2.2 = false ∧ heads now rates k u = (none, v)) ∨ ∃ i f s l, AtH v i f ∧ f.cr > 0 ∧ f.sg = s :: l ∧ timeF f ≤ now ∧ heads now rates k u = (some s, sentF v i f s now (rateA rates i))) := by
  intro k
  induction k with
  | zero => intro u h; omega
  | succ k ih =>
    intro u hk hu hl hp
    cases hh : (headF u.lv).2.2 with
    | false => exact ⟨u, ⟨⟨hu, Same.rfl' u, hl, rfl, rfl⟩, hp⟩, .inl ⟨hh, heads_no hh _ _ _⟩⟩
    | true =>
      have hmm := headF_mem hh
      have hx := hu.lv.2 _ hmm
      obtain ⟨i, hi⟩ : ∃ i : Nat, (headF u.lv).1 = (i : Int) := ⟨(headF u.lv).1.toNat, by omega⟩
      obtain ⟨f, hf⟩ := hu.th i (by rw [hi] at hmm; exact hmm)
      have hA : AtH u i f := ⟨hu, hi, hh, hf⟩
      rw [heads_at hA]
      have go : ∀ u' : Qm, OkQ u' → mu u' < mu u → Same u u' → (∀ x ∈ u'.ks, x.1 > now) → u'.c = u.c → u'.n = u.n → P u' →
          ∃ v, (Ran now u v ∧ P v) ∧ (((headF v.lv).2.2 = false ∧ heads now rates k u' = (none, v)) ∨ ∃ i f s l, AtH v i f ∧ f.cr > 0 ∧ f.sg = s :: l ∧ timeF f ≤ now ∧ heads now rates k u' = (some s, sentF v i f s now (rateA rates i))) := fun u' h1 h2 h3 h4 h5 h6 h7 => by
        obtain ⟨v, ⟨hv, hv2⟩, h⟩ := ih u' (by omega) h1 h4 h7
        exact ⟨v, ⟨⟨hv.ok, h3.trans hv.same, hv.late, hv.c.trans h5, hv.n.trans h6⟩, hv2⟩, h⟩
      by_cases c : f.cr ≤ 0
      · rw [if_pos c]
        exact go _ (hA.credit c) (at_mu_credit hA c) (same_up (g := { f with cr := f.cr + cQ u.c }) hf rfl rfl _ _) hl rfl rfl (hP.credit hA c hp)
      · rw [if_neg c]
        cases hs : f.sg with
        | nil =>
          simp only
          split
          · rename_i c2
            exact go _ hA.back (at_mu_back hA c2.1) (fun _ => rfl) hl rfl rfl (hP.back hA (by omega) hs c2 hp)
          · rename_i c2
            rw [← hs]
            exact go _ (hA.nowhere hs hn) (at_mu_drop hA _ _) (same_up (g := { f with si := now }) hf rfl rfl _ _) hl rfl rfl (hP.drop hA (by omega) hs c2 hp)
        | cons s l =>
          simp only
          split
          · rename_i c2
            have hmu := at_mu_drop hA (some f) (putK u.ks (timeF f, (i : Int)))
            rw [upF_id hA.fl] at hmu
            refine go _ (hA.wait (by rw [hs]; simp)).1 hmu (fun _ => rfl) (fun x hx => ?_) rfl rfl (hP.wait hA (by omega) (by rw [hs]; simp) c2 hp)
            rcases (putK_mem _ _ _).1 hx with rfl | hx
            · exact c2
            · exact hl x hx
          · rename_i c2
            exact ⟨u, ⟨⟨hu, Same.rfl' u, hl, rfl, rfl⟩, hp⟩, .inr ⟨i, f, s, l, hA, by omega, hs, by omega, rfl⟩⟩
theorem due_late {v : Qm} (hv : OkQ v) (now : Int) : ∀ k ∈ (dueF v now).ks, k.1 > now := by
  have : ∀ {ks : List Key}, Srt ks → ∀ k ∈ ks.dropWhile (fun k => decide (k.1 ≤ now)), k.1 > now := fun {ks} => by
    induction ks with
    | nil => intro _ k hk; cases hk
    | cons a l ih =>
      intro hs k hk
      rw [List.dropWhile_cons] at hk
      split at hk
      · exact ih (List.pairwise_cons.1 hs).2 k hk
      · rename_i c
        have c : a.1 > now := by simpa using c
        rcases List.mem_cons.1 hk with rfl | hk
        · exact c
        · have := (List.pairwise_cons.1 hs).1 k hk
          rw [klt_iff] at this
          omega
  exact this hv.srt
/-- A pull, from what is due on. -/
theorem ranP {v : Qm} (P : Qm → Prop) (hv : OkQ v) {now : Int} (hP : Kept P now) (hn : U now) {rates : List Int} (hr : ∀ x ∈ rates, U x) (hp : P (dueF v now)) :
    ∃ u, (Ran now v u ∧ P u) ∧ (((headF u.lv).2.2 = false ∧ deqF v now rates = (none, u)) ∨ ∃ i f s l, AtH u i f ∧ f.cr > 0 ∧ f.sg = s :: l ∧ timeF f ≤ now ∧ deqF v now rates = (some s, sentF u i f s now (rateA rates i))) := by
  obtain ⟨u, ⟨h1, h3⟩, h2⟩ := runP P hP hn hr (mu (dueF v now) + 1) (dueF v now) (Nat.lt_succ_self _) (hv.due now) (due_late hv now) hp
  exact ⟨u, ⟨⟨h1.ok, (show Same v (dueF v now) from fun _ => rfl).trans h1.same, h1.late, h1.c, h1.n⟩, h3⟩, h2⟩
/-! ### The least time -/
end FqQ

end Go.X
