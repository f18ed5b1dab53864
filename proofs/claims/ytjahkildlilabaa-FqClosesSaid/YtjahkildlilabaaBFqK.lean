/- Contracts and plain facts: FqK. -/
import Derived.Test.YtjahkildlilabaaBPlain
import Derived.Test.YtjahkildlilabaaBArith
import Derived.Test.YtjahkildlilabaaBArithC
import Derived.Test.YtjahkildlilabaaBLists
import Derived.Test.YtjahkildlilabaaBTreeM
import Derived.Test.YtjahkildlilabaaBTreeN
import Derived.Test.YtjahkildlilabaaBTreeA
import Derived.Test.YtjahkildlilabaaBTreeB
import Derived.Test.YtjahkildlilabaaBTreeC
import Derived.Test.YtjahkildlilabaaBTreeD
import Derived.Test.YtjahkildlilabaaBTreeE
import Derived.Test.YtjahkildlilabaaBTreeF
import Derived.Test.YtjahkildlilabaaBFqM
import Derived.Test.YtjahkildlilabaaBFqC
import Derived.Test.YtjahkildlilabaaBFqD
import Derived.Test.YtjahkildlilabaaBFqE
import Derived.Test.YtjahkildlilabaaBFqG
import Derived.Test.YtjahkildlilabaaBFqH
import Derived.Test.YtjahkildlilabaaBFqJ
import Derived.Test.YtjahkildlilabaaXw
import Derived.Test.YtjahkildlilabaaK
import Derived.Test.YtjahkildlilabaaF0
import Derived.Test.YtjahkildlilabaaF1
set_option linter.unusedVariables false
set_option linter.unusedSimpArgs false
set_option linter.unusedSectionVars false
namespace Go.X
open Go.Proofs
namespace FqK
open Arith ArithC Lists _root_.Go.X.Tree TreeC TreeD TreeE TreeF FqM FqC FqD FqE FqG FqH FqJ
/-! ### One flow alone -/
def one (c : Cf) (i : Nat) (f : Fl) (lv : LV) (ks : List Key) : Qm := ⟨c, upF (fun _ => none) i (some f), lv, ks, f.sg.length⟩
theorem one_fl (c : Cf) (i : Nat) (f : Fl) (lv : LV) (ks : List Key) : (one c i f lv ks).fl i = some f := by show upF (fun _ => none) i (some f) i = _; exact upF_same _ _ _
theorem upF_up (fl : Nat → Option Fl) (i : Nat) (x y : Option Fl) : upF (upF fl i x) i y = upF fl i y := by
  funext j
  by_cases e : j = i
  · rw [e, upF_same, upF_same]
  · rw [upF_ne _ _ e, upF_ne _ _ e, upF_ne _ _ e]
theorem one_eq (c : Cf) (i : Nat) (f g : Fl) (lv lv' : LV) (ks ks' : List Key) (n : Int) (hn : n = g.sg.length) : ({ one c i f lv ks with fl := upF (one c i f lv ks).fl i (some g), lv := lv', ks := ks', n := n } : Qm) = one c i g lv' ks' := by
  unfold one
  simp only [upF_up, hn]
theorem plc_one (c : Cf) (i : Nat) (f : Fl) (lv : LV) (ks : List Key) : plc (one c i f lv ks) i = if placeF lv i ≠ 0 then placeF lv i else if f.sg = [] then 0 else 3 := by
  unfold plc
  rw [one_fl]; rfl
theorem enq_new {c : Cf} (hc : OkC c) {s : Sg} {now : Int} (hk : 0 ≤ sK s ∧ sK s ≤ 7) (hl : 1 ≤ sLn s ∧ sLn s ≤ 65536) (hn : now < 3000000000) (hf : ¬ (sSt s > addI now (cH c) ∧ cD c = true)) :
    enqF (newF c) s now = ((0, 0), one c (sK s).toNat ⟨cF c, 0, 0, [drawn (newF c) s now]⟩ ([sK s], []) []) := by
  have hv := OkQ.new hc
  have h0 : fate4 (newF c) s now = 0 := by
    unfold fate4
    have h1 := hc.l
    have h2 := hc.w
    rw [if_neg (by show ¬ (0 : Int) ≥ cL c; omega), if_neg (by show ¬ (0 : Int) ≥ cW c; omega), if_neg hf]
  unfold enqF
  rw [if_neg (fun h => h hk), if_neg (fun h => h hl), coll_same hv hn, fate_eq hv, if_pos h0, FqM.add_eq]
  have hw : wakeL (newF c) (sK s).toNat = ([sK s], []) := by
    unfold wakeL
    rw [if_neg (by
      have : plc (newF c) (sK s).toNat = 0 := plc_0.2 ⟨by simp [inL], fun f h => by cases h⟩
      rw [this]; simp), pushed (by omega) (by simp [inL])]
    show ([] ++ [((sK s).toNat : Int)], []) = _
    rw [show (((sK s).toNat : Nat) : Int) = sK s by omega]; rfl
  rw [hw]
  rfl
/-- One more, when it is not Nowhere. -/
theorem enq_more {c : Cf} {i : Nat} {f : Fl} {lv : LV} {ks : List Key} (hv : OkQ (one c i f lv ks)) {s : Sg} {now : Int} (hi : sK s = (i : Int)) (hi8 : i < 8) (hl : 1 ≤ sLn s ∧ sLn s ≤ 65536) (hn : now < 3000000000) (hf : ¬ (sSt s > addI now (cH c) ∧ cD c = true))
    (h1 : (f.sg.length : Int) < cL c) (h2 : (f.sg.length : Int) < cW c) (hp : plc (one c i f lv ks) i ≠ 0) :
    enqF (one c i f lv ks) s now = ((0, 0), one c i { f with sg := f.sg ++ [drawn (newF c) s now] } lv ks) := by
  have h0 : fate4 (one c i f lv ks) s now = 0 := by
    unfold fate4
    have e : (sK s).toNat = i := by rw [hi]; exact Int.toNat_natCast i
    rw [e, one_fl]
    rw [if_neg (by show ¬ (f.sg.length : Int) ≥ cL c; omega), if_neg (by show ¬ (f.sg.length : Int) ≥ cW c; omega)]
    exact if_neg hf
  unfold enqF
  have e : (sK s).toNat = i := by rw [hi]; exact Int.toNat_natCast i
  rw [if_neg (by omega), if_neg (fun h => h hl), coll_same hv hn, fate_eq hv, if_pos h0, e, FqM.add_eq]
  have hw : woken (one c i f lv ks) i now = f := by unfold woken; rw [one_fl]; simp [hp]
  have hl : wakeL (one c i f lv ks) i = lv := by unfold wakeL; rw [if_pos hp]; rfl
  rw [hw, hl, one_eq _ _ _ _ _ _ _ _ _ (by show (f.sg.length : Int) + 1 = _; simp)]
  rfl
/-! ### What departs -/
theorem due_none {v : Qm} {now : Int} (h : ∀ k ∈ v.ks, ¬ k.1 ≤ now) : dueF v now = v := by
  have h1 : v.ks.takeWhile (fun k => decide (k.1 ≤ now)) = [] := by
    cases e : v.ks with
    | nil => rfl
    | cons k l => rw [List.takeWhile_cons, if_neg (by have := h k (by rw [e]; simp); simpa using this)]
  have h2 : v.ks.dropWhile (fun k => decide (k.1 ≤ now)) = v.ks := by
    cases e : v.ks with
    | nil => rfl
    | cons k l => rw [List.dropWhile_cons, if_neg (by have := h k (by rw [e]; simp); simpa using this)]
  show (⟨v.c, v.fl, (v.lv.1, v.lv.2 ++ (dueK v now).map Prod.snd), v.ks.dropWhile _, v.n⟩ : Qm) = v
  unfold dueK
  rw [h1, h2]
  simp
/-- The fuel does not count, if there is enough. -/
theorem heads_fuel {now : Int} {rates : List Int} (hn : U now) (hr : ∀ x ∈ rates, U x) : ∀ (k m : Nat) (u : Qm), OkQ u → mu u < k → mu u < m → heads now rates k u = heads now rates m u := by
  intro k
  induction k with
  | zero => intro m u _ h; omega
  | succ k ih =>
    intro m u hu hk hm
    cases m with
    | zero => omega
    | succ m =>
    cases hh : (headF u.lv).2.2 with
    | false => rw [heads_no hh, heads_no hh]
    | true =>
      have hmm := headF_mem hh
      have hx := hu.lv.2 _ hmm
      obtain ⟨i, hi⟩ : ∃ i : Nat, (headF u.lv).1 = (i : Int) := ⟨(headF u.lv).1.toNat, by omega⟩
      obtain ⟨f, hf⟩ := hu.th i (by rw [hi] at hmm; exact hmm)
      have hA : AtH u i f := ⟨hu, hi, hh, hf⟩
      rw [heads_at hA, heads_at hA]
      by_cases c : f.cr ≤ 0
      · rw [if_pos c, if_pos c]
        have := at_mu_credit hA c
        exact ih m _ (hA.credit c) (by omega) (by omega)
      · rw [if_neg c, if_neg c]
        cases hs : f.sg with
        | nil =>
          simp only
          split
          · rename_i c2
            have := at_mu_back hA c2.1
            exact ih m _ hA.back (by omega) (by omega)
          · have := at_mu_drop hA (some { f with si := now }) u.ks
            rw [← hs]
            exact ih m _ (hA.nowhere hs hn) (by omega) (by omega)
        | cons s l =>
          simp only
          split
          · have := at_mu_drop hA (some f) (putK u.ks (timeF f, (i : Int)))
            rw [upF_id hA.fl] at this
            exact ih m _ (hA.wait (by rw [hs]; simp)).1 (by omega) (by omega)
          · rfl
/-- What stands at the head decides. -/
def deqH (now : Int) (rates : List Int) (u : Qm) : Option Sg × Qm := heads now rates (mu u + 1) u
theorem deqH_credit {u : Qm} {i : Nat} {f : Fl} (h : AtH u i f) {now : Int} {rates : List Int} (hn : U now) (hr : ∀ x ∈ rates, U x) (c : f.cr ≤ 0) : deqH now rates u = deqH now rates { u with fl := upF u.fl i (some { f with cr := f.cr + cQ u.c }), lv := (backF u.lv).2 } := by
  unfold deqH
  have := at_mu_credit h c
  rw [heads_at h, if_pos c]
  exact heads_fuel hn hr _ _ _ (h.credit c) (by omega) (by omega)
theorem deqH_drop {u : Qm} {i : Nat} {f : Fl} (h : AtH u i f) {now : Int} {rates : List Int} (hn : U now) (hr : ∀ x ∈ rates, U x) (c : ¬ f.cr ≤ 0) (hs : f.sg = []) (c2 : ¬ ((headF u.lv).2.1 = true ∧ u.lv.2 ≠ [])) : deqH now rates u = deqH now rates { u with lv := (dropF u.lv).2, fl := upF u.fl i (some { f with si := now }) } := by
  unfold deqH
  have := at_mu_drop h (some { f with si := now }) u.ks
  rw [heads_at h, if_neg c, hs]
  simp only
  rw [if_neg c2, ← hs]
  exact heads_fuel hn hr _ _ _ (h.nowhere hs hn) (by omega) (by omega)
theorem deqH_wait {u : Qm} {i : Nat} {f : Fl} (h : AtH u i f) {now : Int} {rates : List Int} (hn : U now) (hr : ∀ x ∈ rates, U x) (c : ¬ f.cr ≤ 0) (hs : f.sg ≠ []) (c2 : timeF f > now) : deqH now rates u = deqH now rates { u with lv := (dropF u.lv).2, ks := putK u.ks (timeF f, (i : Int)) } := by
  unfold deqH
  have := at_mu_drop h (some f) (putK u.ks (timeF f, (i : Int)))
  rw [upF_id h.fl] at this
  rw [heads_at h, if_neg c]
  cases e : f.sg with
  | nil => exact absurd e hs
  | cons s l =>
    simp only
    rw [if_pos c2]
    exact heads_fuel hn hr _ _ _ (h.wait hs).1 (by omega) (by omega)
theorem deqH_send {u : Qm} {i : Nat} {f : Fl} (h : AtH u i f) {now : Int} {rates : List Int} (c : ¬ f.cr ≤ 0) {s : Sg} {l : List Sg} (hs : f.sg = s :: l) (c2 : ¬ timeF f > now) : deqH now rates u = (some s, sentF u i f s now (rateA rates i)) := by
  unfold deqH
  rw [heads_at h, if_neg c, hs]
  simp only
  rw [if_neg c2]
theorem deqH_no {u : Qm} (h : (headF u.lv).2.2 = false) (now : Int) (rates : List Int) : deqH now rates u = (none, u) := heads_no h _ _ _
theorem deq_eq (v : Qm) (now : Int) (rates : List Int) : deqF v now rates = deqH now rates (dueF v now) := rfl
/-! ### One flow departs -/
theorem one_at {c : Cf} {i : Nat} {f : Fl} {lv : LV} {ks : List Key} (hv : OkQ (one c i f lv ks)) (h : lv = ([(i : Int)], []) ∨ lv = ([], [(i : Int)])) : AtH (one c i f lv ks) i f := by
  rcases h with rfl | rfl
  · exact ⟨hv, rfl, rfl, one_fl _ _ _ _ _⟩
  · exact ⟨hv, rfl, rfl, one_fl _ _ _ _ _⟩
theorem one_send {c : Cf} {i : Nat} {f : Fl} {lv : LV} {ks : List Key} (hv : OkQ (one c i f lv ks)) (h : lv = ([(i : Int)], []) ∨ lv = ([], [(i : Int)])) {now : Int} {rates : List Int} (hc : f.cr > 0) {s : Sg} {l : List Sg} (hs : f.sg = s :: l) (ht : timeF f ≤ now) :
    deqH now rates (one c i f lv ks) = (some s, one c i { f with cr := f.cr - sLn s, nx := addI now (delayI (sLn s) (lessI (rateA rates i) (cR c))), sg := l } lv ks) := by
  rw [deqH_send (one_at hv h) (by omega) hs (by omega)]
  refine Prod.ext rfl ?_
  show sentF (one c i f lv ks) i f s now (rateA rates i) = _
  have := one_eq c i f { f with cr := f.cr - sLn s, nx := addI now (delayI (sLn s) (lessI (rateA rates i) (cR c))), sg := f.sg.tail } lv lv ks ks ((one c i f lv ks).n - 1) (by show (f.sg.length : Int) - 1 = (f.sg.tail.length : Int); rw [hs]; simp)
  rw [show sentF (one c i f lv ks) i f s now (rateA rates i) = _ from this, hs]
  rfl
theorem back_one (i : Nat) {lv : LV} (h : lv = ([(i : Int)], []) ∨ lv = ([], [(i : Int)])) : (backF lv).2 = ([], [(i : Int)]) ∧ (dropF lv).2 = ([], []) := by
  rcases h with rfl | rfl <;> simp [backF, dropF, outF, headF]
theorem one_wait {c : Cf} {i : Nat} {f : Fl} {lv : LV} (hv : OkQ (one c i f lv [])) (h : lv = ([(i : Int)], []) ∨ lv = ([], [(i : Int)])) {now : Int} {rates : List Int} (hn : U now) (hr : ∀ x ∈ rates, U x) (hc : f.cr > 0) (hs : f.sg ≠ []) (ht : timeF f > now) :
    deqH now rates (one c i f lv []) = (none, one c i f ([], []) [(timeF f, (i : Int))]) := by
  rw [deqH_wait (one_at hv h) hn hr (by omega) hs ht, deqH_no]
  · refine Prod.ext rfl ?_
    show (⟨c, _, (dropF lv).2, _, _⟩ : Qm) = _
    rw [(back_one i h).2]
    rfl
  · show (headF (dropF lv).2).2.2 = false
    rw [(back_one i h).2]; rfl
/-- Up to more than nothing, by quanta. -/
def top (q c : Int) : Int := if c > 0 then c else c + q * ((-c) / q + 1)
theorem top_pos {q c : Int} (h : c > 0) : top q c = c := if_pos h
theorem top_step {q c : Int} (hq : 0 < q) (h : ¬ c > 0) : top q c = top q (c + q) := by
  unfold top
  rw [if_neg h]
  split
  · rename_i h2
    have : (-c) / q = 0 := Int.ediv_eq_zero_of_lt (by omega) (by omega)
    rw [this]; omega
  · rename_i h2
    have : (-(c + q)) / q = (-c) / q - 1 := by
      rw [show -(c + q) = -c + -1 * q by omega, Int.add_mul_ediv_right _ _ (by omega)]; omega
    rw [this]
    have e : q * ((-c) / q + 1) = q * ((-c) / q - 1 + 1) + q := by rw [Int.mul_add, Int.mul_add, Int.mul_sub]; omega
    omega
theorem one_empty {c : Cf} {i : Nat} {now : Int} {rates : List Int} (hn : U now) (hr : ∀ x ∈ rates, U x) : ∀ (k : Nat) (f : Fl) (lv : LV), OkQ (one c i f lv []) → (lv = ([(i : Int)], []) ∨ lv = ([], [(i : Int)])) → f.sg = [] → (1 - f.cr).toNat ≤ k →
    deqH now rates (one c i f lv []) = (none, one c i { f with cr := top (cQ c) f.cr, si := now } ([], []) []) := by
  intro k
  induction k with
  | zero =>
    intro f lv hv h hs hk
    have hc : f.cr > 0 := by omega
    rw [deqH_drop (one_at hv h) hn hr (by omega) hs (by rcases h with rfl | rfl <;> simp [one, headF]), deqH_no]
    · refine Prod.ext rfl ?_
      rw [top_pos hc]
      have := one_eq c i f { f with si := now } lv (dropF lv).2 [] [] (one c i f lv []).n rfl
      rw [(back_one i h).2] at this
      show (⟨c, _, (dropF lv).2, _, _⟩ : Qm) = _
      rw [(back_one i h).2]
      exact this
    · show (headF (dropF lv).2).2.2 = false
      rw [(back_one i h).2]; rfl
  | succ k ih =>
    intro f lv hv h hs hk
    have hq := hv.cf.q
    have hq : 100 ≤ cQ c ∧ cQ c ≤ 65536 := hq
    by_cases hc : f.cr ≤ 0
    · rw [deqH_credit (one_at hv h) hn hr hc]
      have hok := (one_at hv h).credit hc
      have e := one_eq c i f { f with cr := f.cr + cQ c } lv (backF lv).2 [] [] (one c i f lv []).n rfl
      have e : ({ one c i f lv [] with fl := upF (one c i f lv []).fl i (some { f with cr := f.cr + cQ (one c i f lv []).c }), lv := (backF (one c i f lv []).lv).2 } : Qm) = one c i { f with cr := f.cr + cQ c } (backF lv).2 [] := e
      rw [e] at hok ⊢
      rw [(back_one i h).1] at hok ⊢
      rw [ih { f with cr := f.cr + cQ c } ([], [(i : Int)]) hok (.inr rfl) hs (by show (1 - (f.cr + cQ c)).toNat ≤ k; omega)]
      rw [top_step (q := cQ c) (c := f.cr) (by omega) (by omega)]
    · rw [deqH_drop (one_at hv h) hn hr (by omega) hs (by rcases h with rfl | rfl <;> simp [one, headF]), deqH_no]
      · refine Prod.ext rfl ?_
        rw [top_pos (by omega)]
        have := one_eq c i f { f with si := now } lv (dropF lv).2 [] [] (one c i f lv []).n rfl
        rw [(back_one i h).2] at this
        show (⟨c, _, (dropF lv).2, _, _⟩ : Qm) = _
        rw [(back_one i h).2]
        exact this
      · show (headF (dropF lv).2).2.2 = false
        rw [(back_one i h).2]; rfl
theorem due_nil (c : Cf) (i : Nat) (f : Fl) (lv : LV) (now : Int) : dueF (one c i f lv []) now = one c i f lv [] := due_none fun k hk => by cases hk
end FqK

end Go.X
