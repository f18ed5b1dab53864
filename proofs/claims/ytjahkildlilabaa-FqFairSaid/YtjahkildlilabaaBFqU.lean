/- Contracts and plain facts: FqU. -/
import Derived.Test.YtjahkildlilabaaBPlain
import Derived.Test.YtjahkildlilabaaBArith
import Derived.Test.YtjahkildlilabaaBArithC
import Derived.Test.YtjahkildlilabaaBLists
import Derived.Test.YtjahkildlilabaaBTreeM
import Derived.Test.YtjahkildlilabaaBTreeN
import Derived.Test.YtjahkildlilabaaBTreeA
import Derived.Test.YtjahkildlilabaaBTreeB
import Derived.Test.YtjahkildlilabaaBTreeC
import Derived.Test.YtjahkildlilabaaBTreeD
import Derived.Test.YtjahkildlilabaaBTreeE
import Derived.Test.YtjahkildlilabaaBTreeF
import Derived.Test.YtjahkildlilabaaBFqM
import Derived.Test.YtjahkildlilabaaBFqC
import Derived.Test.YtjahkildlilabaaBFqD
import Derived.Test.YtjahkildlilabaaBFqE
import Derived.Test.YtjahkildlilabaaBFqG
import Derived.Test.YtjahkildlilabaaBFqH
import Derived.Test.YtjahkildlilabaaBFqI
import Derived.Test.YtjahkildlilabaaBFqJ
import Derived.Test.YtjahkildlilabaaBFqK
import Derived.Test.YtjahkildlilabaaBFqN
import Derived.Test.YtjahkildlilabaaBFqQ
import Derived.Test.YtjahkildlilabaaBFqR
import Derived.Test.YtjahkildlilabaaXw
import Derived.Test.YtjahkildlilabaaK
import Derived.Test.YtjahkildlilabaaF0
import Derived.Test.YtjahkildlilabaaF1
set_option linter.unusedVariables false
set_option linter.unusedSimpArgs false
set_option linter.unusedSectionVars false
namespace Go.X
open Go.Proofs
namespace FqU
open Arith ArithC Lists _root_.Go.X.Tree TreeC TreeD TreeE TreeF FqM FqC FqD FqE FqG FqH FqI FqJ FqK FqN FqQ FqR
/-! ### Fair -/
/-- One of two comes ahead of the other, in a list. -/
abbrev Fst (a b : Int) (l : List Int) : Prop := [a, b].Sublist l
theorem fst_mem {a b : Int} {l : List Int} (h : Fst a b l) : a ∈ l ∧ b ∈ l := ⟨h.subset (by simp), h.subset (by simp)⟩
theorem fst_tail {a b x : Int} {l : List Int} (h : Fst a b (x :: l)) (hx : x ≠ a) : Fst a b l := by
  cases h with
  | cons _ h => exact h
  | cons_cons _ h => exact absurd rfl hx
theorem fst_back {a b x : Int} {l : List Int} (h : Fst a b (x :: l)) (hx : x ≠ a) : Fst a b (l ++ [x]) := (fst_tail h hx).trans (List.sublist_append_left _ _)
theorem fst_turn {a b : Int} {l : List Int} (h : Fst a b (a :: l)) (hab : a ≠ b) : Fst b a (l ++ [a]) := by
  have hb : b ∈ l := by
    have := (fst_mem h).2
    rcases List.mem_cons.1 this with e | h
    · exact absurd e.symm hab
    · exact h
  exact List.Sublist.append (List.singleton_sublist.2 hb) (List.Sublist.refl [a])
theorem fst_no {a b : Int} {l : List Int} (h : Fst a b (b :: l)) (hab : a ≠ b) (hn : (b :: l).Nodup) : False := by
  have := fst_tail h (fun e => hab e.symm)
  exact (List.nodup_cons.1 hn).1 (fst_mem this).2
theorem fst_ins {a b x : Int} {l m : List Int} (h : Fst a b (l ++ m)) : Fst a b ((l ++ [x]) ++ m) := by
  rw [List.append_assoc]
  exact h.trans (List.Sublist.append (List.Sublist.refl l) (List.sublist_append_right [x] m))
/-- What each of the two flows has had: bytes served, quanta, and segments there. -/
structure Two where
  s : Nat → Int
  r : Nat → Int
  m : Nat → Nat
structure Has (c : Cf) (lg : Int) (w : Two) (v : Qm) (i : Nat) (f : Fl) : Prop where
  fl : v.fl i = some f
  inn : inL v.lv i
  len : f.sg.length = w.m i
  pos : 0 < w.m i
  cr : f.cr = cF c + cQ c * w.r i - w.s i
  lo : -lg ≤ f.cr
  hi : f.cr ≤ cF c ∨ f.cr ≤ cQ c
  lg : ∀ s ∈ f.sg, sLn s ≤ lg
structure Fair (c : Cf) (lg : Int) (w : Two) (v : Qm) : Prop where
  ok : OkQ v
  cc : v.c = c
  cw : cW c = 40 ∧ cR c = 0 ∧ cL c = 512
  lg0 : 0 ≤ lg
  cnt : ∀ j, cnt (v.fl j) ≤ 40
  zero : ∀ j f, v.fl j = some f → f.nx = 0 ∧ ∀ s ∈ f.sg, sSt s = 0
  ks : v.ks = []
  two : ∀ i, i < 2 → (w.m i = 0 ∧ v.fl i = none ∧ w.s i = 0 ∧ w.r i = 0) ∨ ∃ f, Has c lg w v i f
  ord : (w.r 0 = w.r 1 ∧ (inL v.lv 0 → inL v.lv 1 → Fst 0 1 (v.lv.1 ++ v.lv.2))) ∨ (w.r 0 = w.r 1 + 1 ∧ Fst 1 0 (v.lv.1 ++ v.lv.2))
  old : v.fl 1 = none → v.lv.2 = []
  zo : v.fl 0 = none → v.fl 1 = none
theorem Fair.time {c : Cf} {lg : Int} {w : Two} {v : Qm} (h : Fair c lg w v) {j : Nat} {f : Fl} (hf : v.fl j = some f) : timeF f = 0 := by
  obtain ⟨h1, h2⟩ := h.zero j f hf
  unfold timeF
  cases hs : f.sg with
  | nil => exact h1
  | cons s l =>
    have := h2 s (by rw [hs]; simp)
    simp only
    rw [this, h1]; rfl
theorem Fair.has {c : Cf} {lg : Int} {w : Two} {v : Qm} (h : Fair c lg w v) {i : Nat} (hi : i < 2) (hm : 0 < w.m i) : ∃ f, Has c lg w v i f := by
  rcases h.two i hi with ⟨h0, _⟩ | h2
  · omega
  · exact h2
theorem Fair.bound {c : Cf} {lg : Int} {w : Two} {v : Qm} (h : Fair c lg w v) (h0 : 0 < w.m 0) (h1 : 0 < w.m 1) : (if w.s 1 > w.s 0 then w.s 1 else w.s 0) - (if w.s 1 < w.s 0 then w.s 1 else w.s 0) ≤ cQ c + 2 * (if cF c > cQ c then cF c else cQ c) + 2 * lg := by
  obtain ⟨f, hf⟩ := h.has (i := 0) (by decide) h0
  obtain ⟨g, hg⟩ := h.has (i := 1) (by decide) h1
  have a1 := hf.cr
  have a2 := hf.lo
  have a3 := hf.hi
  have b1 := hg.cr
  have b2 := hg.lo
  have b3 := hg.hi
  have hc := h.ok.cf
  rw [h.cc] at hc
  have q := hc.q
  have l0 := h.lg0
  rcases h.ord with ⟨e, _⟩ | ⟨e, _⟩
  · rw [e] at a1
    generalize cQ c * w.r 1 = x at a1 b1
    (repeat' split) <;> omega
  · rw [e, Int.mul_add] at a1
    generalize cQ c * w.r 1 = x at a1 b1
    (repeat' split) <;> omega
/-- A pull keeps it, but for what departs. -/
def FairR (c : Cf) (lg : Int) (s : Nat → Int) (m : Nat → Nat) (v : Qm) : Prop := (0 < m 0 ∧ 0 < m 1) ∧ ∃ r, Fair c lg ⟨s, r, m⟩ v
theorem not_none {c : Cf} {lg : Int} {w : Two} {v : Qm} (h : Fair c lg w v) (h1 : 0 < w.m 1) : v.fl 1 ≠ none := fun e => by
  obtain ⟨f, hf⟩ := h.has (i := 1) (by decide) h1
  rw [hf.fl] at e; cases e
theorem lv_head {v : Qm} {i : Nat} {f : Fl} (hA : AtH v i f) : ∃ l, v.lv.1 ++ v.lv.2 = (i : Int) :: l ∧ ((backF v.lv).2.1 ++ (backF v.lv).2.2 = l ++ [(i : Int)]) ∧ (dropF v.lv).2.1 ++ (dropF v.lv).2.2 = l := by
  rcases at_parts hA with ⟨a, h1, _, h3, h4, _⟩ | ⟨c, h1, h2, _, h3, h4, _⟩
  · exact ⟨a ++ v.lv.2, by rw [h1]; rfl, by rw [h3, List.append_assoc], by rw [h4]⟩
  · exact ⟨c, by rw [h1, h2]; rfl, by rw [h3]; rfl, by rw [h4]; rfl⟩
theorem not_none0 {c : Cf} {lg : Int} {w : Two} {v : Qm} (h : Fair c lg w v) (h1 : 0 < w.m 0) : v.fl 0 ≠ none := fun e => by
  obtain ⟨f, hf⟩ := h.has (i := 0) (by decide) h1
  rw [hf.fl] at e; cases e
theorem fair_kept (c : Cf) (lg : Int) (s : Nat → Int) (m : Nat → Nat) : Kept (FairR c lg s m) 0 where
  credit {u i f} hA hc h := by
    obtain ⟨hm, r, h⟩ := h
    have hok := hA.credit hc
    obtain ⟨l, e1, e2, _⟩ := lv_head hA
    have hin : ∀ j : Nat, inL (backF u.lv).2 j ↔ inL u.lv j := in_back hA.ok.lv hA.is
    have hnd := hA.ok.lv.1
    rw [e1] at hnd
    have hq := hA.ok.cf.q
    rw [h.cc] at hq
    refine ⟨hm, fun j => if j = i then r j + 1 else r j, hok, h.cc, h.cw, h.lg0, fun j => ?_, fun j g hg => ?_, h.ks, fun j hj => ?_, ?_, fun e => ?_, fun e => ?_⟩
    · show FqM.cnt (upF u.fl i _ j) ≤ 40
      by_cases e : j = i
      · rw [e, upF_same]
        have := h.cnt i
        rw [hA.fl] at this
        exact this
      · rw [upF_ne _ _ e]; exact h.cnt j
    · have hg : upF u.fl i _ j = some g := hg
      by_cases e : j = i
      · rw [e, upF_same] at hg
        cases hg
        exact h.zero i f hA.fl
      · rw [upF_ne _ _ e] at hg
        exact h.zero j g hg
    · right
      obtain ⟨g, hg⟩ := h.has hj (by have : j = 0 ∨ j = 1 := by omega
                                     rcases this with rfl | rfl
                                     · exact hm.1
                                     · exact hm.2)
      by_cases e : j = i
      · subst e
        have := hg.fl
        rw [hA.fl] at this
        cases this
        refine ⟨{ f with cr := f.cr + cQ u.c }, upF_same _ _ _, (hin j).2 hg.inn, hg.len, hg.pos, ?_, ?_, ?_, hg.lg⟩
        · show f.cr + cQ u.c = cF c + cQ c * (if j = j then r j + 1 else r j) - s j
          have := hg.cr
          rw [if_pos rfl, Int.mul_add, h.cc]
          dsimp only at this
          omega
        · show -lg ≤ f.cr + cQ u.c
          rw [h.cc]
          have := hg.lo
          omega
        · right
          show f.cr + cQ u.c ≤ cQ c
          rw [h.cc]
          omega
      · refine ⟨g, (upF_ne _ _ e).trans hg.fl, (hin j).2 hg.inn, hg.len, hg.pos, ?_, hg.lo, hg.hi, hg.lg⟩
        show g.cr = cF c + cQ c * (if j = i then r j + 1 else r j) - s j
        rw [if_neg e]
        exact hg.cr
    · show ((if 0 = i then r 0 + 1 else r 0) = (if 1 = i then r 1 + 1 else r 1) ∧ (inL (backF u.lv).2 0 → inL (backF u.lv).2 1 → Fst 0 1 ((backF u.lv).2.1 ++ (backF u.lv).2.2))) ∨ ((if 0 = i then r 0 + 1 else r 0) = (if 1 = i then r 1 + 1 else r 1) + 1 ∧ Fst 1 0 ((backF u.lv).2.1 ++ (backF u.lv).2.2))
      rw [e2]
      have ho := h.ord
      rw [e1] at ho
      dsimp only at ho
      have hall : inL u.lv 0 ∧ inL u.lv 1 := by
        obtain ⟨f0, hf0⟩ := h.has (i := 0) (by decide) hm.1
        obtain ⟨f1, hf1⟩ := h.has (i := 1) (by decide) hm.2
        exact ⟨hf0.inn, hf1.inn⟩
      by_cases i0 : i = 0
      · subst i0
        rw [if_pos rfl, if_neg (by decide)]
        rcases ho with ⟨e, hx⟩ | ⟨e, hx⟩
        · exact .inr ⟨by omega, fst_turn (hx hall.1 hall.2) (by decide)⟩
        · exact (fst_no hx (by decide) hnd).elim
      · by_cases i1 : i = 1
        · subst i1
          rw [if_neg (by decide), if_pos rfl]
          rcases ho with ⟨e, hx⟩ | ⟨e, hx⟩
          · exact (fst_no (hx hall.1 hall.2) (by decide) hnd).elim
          · exact .inl ⟨by omega, fun _ _ => fst_turn hx (by decide)⟩
        · rw [if_neg (fun e => i0 e.symm), if_neg (fun e => i1 e.symm)]
          rcases ho with ⟨e, hx⟩ | ⟨e, hx⟩
          · exact .inl ⟨e, fun _ _ => fst_back (hx hall.1 hall.2) (by omega)⟩
          · exact .inr ⟨e, fst_back hx (by omega)⟩
    · exfalso
      have e : upF u.fl i _ 1 = none := e
      by_cases e1 : 1 = i
      · rw [← e1, upF_same] at e; cases e
      · rw [upF_ne _ _ e1] at e
        exact not_none h hm.2 e
    · exfalso
      have e : upF u.fl i _ 0 = none := e
      by_cases e1 : 0 = i
      · rw [← e1, upF_same] at e; cases e
      · rw [upF_ne _ _ e1] at e
        exact not_none0 h hm.1 e
  back {u i f} hA hc hs h2 h := by
    obtain ⟨hm, r, h⟩ := h
    obtain ⟨l, e1, e2, _⟩ := lv_head hA
    have hin : ∀ j : Nat, inL (backF u.lv).2 j ↔ inL u.lv j := in_back hA.ok.lv hA.is
    have hni : ∀ j, j < 2 → j ≠ i := fun j hj e => by
      subst e
      obtain ⟨g, hg⟩ := h.has hj (by have : j = 0 ∨ j = 1 := by omega
                                     rcases this with rfl | rfl
                                     · exact hm.1
                                     · exact hm.2)
      have := hg.fl
      rw [hA.fl] at this
      cases this
      have h1 : f.sg.length = m j := hg.len
      have h2 : 0 < m j := hg.pos
      rw [hs, List.length_nil] at h1
      omega
    refine ⟨hm, r, hA.back, h.cc, h.cw, h.lg0, h.cnt, h.zero, h.ks, fun j hj => (h.two j hj).imp id fun ⟨g, hg⟩ => ⟨g, hg.fl, (hin j).2 hg.inn, hg.len, hg.pos, hg.cr, hg.lo, hg.hi, hg.lg⟩, ?_, fun e => (not_none h hm.2 e).elim, fun e => (not_none0 h hm.1 e).elim⟩
    have ho := h.ord
    have n0 := hni 0 (by decide)
    have n1 := hni 1 (by decide)
    rw [e1] at ho
    dsimp only at ho ⊢
    rw [e2]
    rcases ho with ⟨e, hx⟩ | ⟨e, hx⟩
    · exact .inl ⟨e, fun x y => fst_back (hx ((hin 0).1 x) ((hin 1).1 y)) (by omega)⟩
    · exact .inr ⟨e, fst_back hx (by omega)⟩
  drop {u i f} hA hc hs h2 h := by
    obtain ⟨hm, r, h⟩ := h
    have hok := hA.nowhere hs (now := 0) u0
    obtain ⟨l, e1, _, e2⟩ := lv_head hA
    have hin : ∀ j : Nat, inL (dropF u.lv).2 j ↔ inL u.lv j ∧ (j : Int) ≠ (headF u.lv).1 := in_drop hA.is
    have hni : ∀ j, j < 2 → j ≠ i := fun j hj e => by
      subst e
      obtain ⟨g, hg⟩ := h.has hj (by have : j = 0 ∨ j = 1 := by omega
                                     rcases this with rfl | rfl
                                     · exact hm.1
                                     · exact hm.2)
      have := hg.fl
      rw [hA.fl] at this
      cases this
      have h1 : f.sg.length = m j := hg.len
      have h2 : 0 < m j := hg.pos
      rw [hs, List.length_nil] at h1
      omega
    refine ⟨hm, r, hok, h.cc, h.cw, h.lg0, fun j => ?_, fun j g hg => ?_, h.ks, fun j hj => ?_, ?_, fun e => ?_, fun e => ?_⟩
    · show FqM.cnt (upF u.fl i _ j) ≤ 40
      by_cases e : j = i
      · rw [e, upF_same]
        have := h.cnt i
        rw [hA.fl] at this
        exact this
      · rw [upF_ne _ _ e]; exact h.cnt j
    · have hg : upF u.fl i _ j = some g := hg
      by_cases e : j = i
      · rw [e, upF_same] at hg
        cases hg
        exact h.zero i f hA.fl
      · rw [upF_ne _ _ e] at hg
        exact h.zero j g hg
    · have e := hni j hj
      rcases h.two j hj with ⟨z1, z2, z3, z4⟩ | ⟨g, hg⟩
      · exact .inl ⟨z1, (upF_ne _ _ e).trans z2, z3, z4⟩
      · exact .inr ⟨g, (upF_ne _ _ e).trans hg.fl, (hin j).2 ⟨hg.inn, by rw [hA.hd]; omega⟩, hg.len, hg.pos, hg.cr, hg.lo, hg.hi, hg.lg⟩
    · have ho := h.ord
      have n0 := hni 0 (by decide)
      have n1 := hni 1 (by decide)
      rw [e1] at ho
      dsimp only at ho ⊢
      rw [e2]
      rcases ho with ⟨e, hx⟩ | ⟨e, hx⟩
      · exact .inl ⟨e, fun x y => fst_tail (hx ((hin 0).1 x).1 ((hin 1).1 y).1) (by omega)⟩
      · exact .inr ⟨e, fst_tail hx (by omega)⟩
    · exfalso
      have e : upF u.fl i _ 1 = none := e
      have e1 := hni 1 (by decide)
      rw [upF_ne _ _ e1] at e
      exact not_none h hm.2 e
    · exfalso
      have e : upF u.fl i _ 0 = none := e
      have e1 := hni 0 (by decide)
      rw [upF_ne _ _ e1] at e
      exact not_none0 h hm.1 e
  wait {u i f} hA hc hs h2 h := by
    obtain ⟨hm, r, h⟩ := h
    rw [h.time hA.fl] at h2
    omega
theorem due_ks {v : Qm} (h : v.ks = []) (now : Int) : dueF v now = v := due_none fun k hk => by rw [h] at hk; cases hk
/-- What departs. -/
theorem fair_deq {c : Cf} {lg : Int} {w : Two} {v : Qm} (h : Fair c lg w v) (h0 : 2 ≤ w.m 0) (h1 : 2 ≤ w.m 1) :
    ∃ (i : Nat) (s : Sg), (deqF v 0 []).1 = some s ∧ (sK s = (i : Int) ∧ i < 8) ∧ 1 ≤ sLn s ∧ (i < 2 → sLn s ≤ lg) ∧ ∃ r, Fair c lg ⟨fun j => if j = i then w.s j + sLn s else w.s j, r, fun j => if j = i then w.m j - 1 else w.m j⟩ (deqF v 0 []).2 := by
  obtain ⟨u, ⟨hu, ⟨hm, r, hF⟩⟩, hc⟩ := ranP (FairR c lg w.s w.m) h.ok (fair_kept c lg w.s w.m) u0 (rates := []) nor (by rw [due_ks h.ks]; exact ⟨⟨by omega, by omega⟩, w.r, h⟩)
  rcases hc with ⟨hh, _⟩ | ⟨i, f, s, l, hA, hcr, hs, ht, he⟩
  · exfalso
    obtain ⟨f, hf⟩ := hF.has (i := 0) (by decide) hm.1
    have := hf.inn
    unfold inL at this
    rw [head_no hh] at this
    cases this
  · have hFl := (hu.ok.fl i f hA.fl).2
    obtain ⟨hsk, hso⟩ := hFl.sg s (by rw [hs]; simp)
    have hln := hso.ln
    have hrate : delayI (sLn s) (lessI (rateA [] i) (cR u.c)) = 0 := by
      rw [rate_none, hF.cc, hF.cw.2.1, less_0, delay_max]
    have hsent := hA.sent hs hcr (now := 0) (rate := rateA [] i) u0 (by rw [hrate]; exact u0)
    have hlg : i < 2 → sLn s ≤ lg := fun hi => by
      obtain ⟨g, hg⟩ := hF.has hi (by have : i = 0 ∨ i = 1 := by omega
                                      rcases this with rfl | rfl
                                      · exact hm.1
                                      · exact hm.2)
      have := hg.fl
      rw [hA.fl] at this
      cases this
      exact hg.lg s (by rw [hs]; simp)
    refine ⟨i, s, by rw [he], ⟨hsk, hA.lt⟩, hln.1, hlg, r, ?_⟩
    rw [he]
    refine ⟨hsent, hF.cc, hF.cw, hF.lg0, fun j => ?_, fun j g hg => ?_, hF.ks, fun j hj => ?_, hF.ord, fun e => ?_, fun e => ?_⟩
    · show FqM.cnt (upF u.fl i _ j) ≤ 40
      by_cases e : j = i
      · rw [e, upF_same]
        have := hF.cnt i
        rw [hA.fl] at this
        show ((f.sg.tail.length : Nat) : Int) ≤ 40
        have e2 : ((f.sg.length : Nat) : Int) ≤ 40 := this
        rw [List.length_tail]; omega
      · rw [upF_ne _ _ e]; exact hF.cnt j
    · have hg : upF u.fl i _ j = some g := hg
      by_cases e : j = i
      · rw [e, upF_same] at hg
        cases hg
        refine ⟨?_, fun x hx => (hF.zero i f hA.fl).2 x (List.mem_of_mem_tail hx)⟩
        show addI 0 (delayI (sLn s) (lessI (rateA [] i) (cR u.c))) = 0
        rw [hrate]; rfl
      · rw [upF_ne _ _ e] at hg
        exact hF.zero j g hg
    · right
      have hmj : 2 ≤ w.m j := by
        have : j = 0 ∨ j = 1 := by omega
        rcases this with rfl | rfl
        · exact h0
        · exact h1
      obtain ⟨g, hg⟩ := hF.has hj (by show 0 < w.m j; omega)
      by_cases e : j = i
      · subst e
        have := hg.fl
        rw [hA.fl] at this
        cases this
        have hcr2 : f.cr = cF c + cQ c * r j - w.s j := hg.cr
        have hlen : f.sg.length = w.m j := hg.len
        refine ⟨_, upF_same _ _ _, hg.inn, ?_, ?_, ?_, ?_, ?_, fun x hx => hg.lg x (List.mem_of_mem_tail hx)⟩
        · show f.sg.tail.length = if j = j then w.m j - 1 else w.m j
          rw [if_pos rfl, List.length_tail, hlen]
        · show 0 < if j = j then w.m j - 1 else w.m j
          rw [if_pos rfl]; omega
        · show f.cr - sLn s = cF c + cQ c * r j - (if j = j then w.s j + sLn s else w.s j)
          rw [if_pos rfl]; omega
        · show -lg ≤ f.cr - sLn s
          have := hlg hj
          omega
        · show f.cr - sLn s ≤ cF c ∨ f.cr - sLn s ≤ cQ c
          have := hg.hi
          omega
      · refine ⟨g, (upF_ne _ _ e).trans hg.fl, hg.inn, ?_, ?_, ?_, hg.lo, hg.hi, hg.lg⟩
        · show g.sg.length = if j = i then w.m j - 1 else w.m j
          rw [if_neg e]; exact hg.len
        · show 0 < if j = i then w.m j - 1 else w.m j
          rw [if_neg e]; omega
        · show g.cr = cF c + cQ c * r j - (if j = i then w.s j + sLn s else w.s j)
          rw [if_neg e]; exact hg.cr
    · exfalso
      have e : upF u.fl i _ 1 = none := e
      by_cases e1 : 1 = i
      · rw [← e1, upF_same] at e; cases e
      · rw [upF_ne _ _ e1] at e
        exact not_none hF hm.2 e
    · exfalso
      have e : upF u.fl i _ 0 = none := e
      by_cases e1 : 0 = i
      · rw [← e1, upF_same] at e; cases e
      · rw [upF_ne _ _ e1] at e
        exact not_none0 hF hm.1 e
/-- What is put in. -/
theorem fair_add {c : Cf} {lg lg' : Int} {w : Two} {v : Qm} (h : Fair c lg w v) {i : Nat} (hi : i < 8) {s : Sg} (hs : sSt s = 0) (hlg : lg ≤ lg') (hl : i < 2 → sLn s ≤ lg') (hz : i = 1 → v.fl 0 ≠ none) (hn : FqM.cnt (v.fl i) < 40) (hok : OkQ (addS (wakeF v i 0) i s)) :
    Fair c lg' ⟨w.s, w.r, fun j => if j = i then w.m j + 1 else w.m j⟩ (addS (wakeF v i 0) i s) := by
  rw [FqM.add_eq] at hok ⊢
  have hc := h.ok.cf
  rw [h.cc] at hc
  have hq := hc.q
  have hf := hc.f
  have hl0 := h.lg0
  have hwsg := woken_sg v i 0
  have hin : ∀ j : Nat, inL (wakeL v i) j ↔ inL v.lv j ∨ (j = i ∧ plc v i = 0) := fun j => in_wake hi
  have hmono : ∀ {j f}, Has c lg w v j f → Has c lg' w v j f := fun hg => ⟨hg.fl, hg.inn, hg.len, hg.pos, hg.cr, by have := hg.lo; omega, hg.hi, fun x hx => by have := hg.lg x hx; omega⟩
  refine ⟨hok, h.cc, h.cw, by omega, fun j => ?_, fun j g hg => ?_, h.ks, fun j hj => ?_, ?_, fun e => ?_, fun e => ?_⟩
  · show FqM.cnt (upF v.fl i _ j) ≤ 40
    by_cases e : j = i
    · rw [e, upF_same]
      show (((woken v i 0).sg ++ [s]).length : Int) ≤ 40
      rw [hwsg]
      cases hv : v.fl i with
      | none => simp
      | some f =>
        rw [hv] at hn
        have hn : ((f.sg.length : Nat) : Int) < 40 := hn
        simp only [List.length_append, List.length_singleton]
        omega
    · rw [upF_ne _ _ e]; exact h.cnt j
  · have hg : upF v.fl i _ j = some g := hg
    by_cases e : j = i
    · rw [e, upF_same] at hg
      cases hg
      constructor
      · show (woken v i 0).nx = 0
        unfold woken
        cases hv : v.fl i with
        | none => rfl
        | some f =>
          simp only
          split <;> exact (h.zero i f hv).1
      · intro x hx
        have hx : x ∈ (woken v i 0).sg ++ [s] := hx
        rw [hwsg, List.mem_append, List.mem_singleton] at hx
        rcases hx with hx | rfl
        · cases hv : v.fl i with
          | none => rw [hv] at hx; cases hx
          | some f => rw [hv] at hx; exact (h.zero i f hv).2 x hx
        · exact hs
    · rw [upF_ne _ _ e] at hg
      exact h.zero j g hg
  · by_cases e : j = i
    · subst e
      right
      rcases h.two j hj with ⟨z1, z2, z3, z4⟩ | ⟨g, hg⟩
      · have hp : plc v j = 0 := plc_0.2 ⟨fun x => (by
          obtain ⟨f, hf⟩ := h.ok.th j x
          rw [z2] at hf; cases hf), fun f hf => (by rw [z2] at hf; cases hf)⟩
        have hw : woken v j 0 = ⟨cF c, 0, 0, []⟩ := by unfold woken; rw [z2, h.cc]
        refine ⟨_, upF_same _ _ _, (hin j).2 (.inr ⟨rfl, hp⟩), ?_, ?_, ?_, ?_, ?_, ?_⟩
        · show ((woken v j 0).sg ++ [s]).length = if j = j then w.m j + 1 else w.m j
          rw [hw, if_pos rfl, z1]; rfl
        · show 0 < if j = j then w.m j + 1 else w.m j
          rw [if_pos rfl]; omega
        · show (woken v j 0).cr = cF c + cQ c * w.r j - w.s j
          rw [hw, z3, z4]; simp
        · show -lg' ≤ (woken v j 0).cr
          rw [hw]
          show -lg' ≤ cF c
          omega
        · show (woken v j 0).cr ≤ cF c ∨ _
          rw [hw]; exact .inl (Int.le_refl _)
        · intro x hx
          have hx : x ∈ (woken v j 0).sg ++ [s] := hx
          rw [hw, List.nil_append, List.mem_singleton] at hx
          rw [hx]; exact hl hj
      · have hg := hmono hg
        have hp : plc v j ≠ 0 := fun e => (plc_0.1 e).1 hg.inn
        have hw : woken v j 0 = g := by unfold woken; rw [hg.fl]; simp [hp]
        have hlen : g.sg.length = w.m j := hg.len
        refine ⟨_, upF_same _ _ _, (hin j).2 (.inl hg.inn), ?_, ?_, ?_, ?_, ?_, ?_⟩
        · show ((woken v j 0).sg ++ [s]).length = if j = j then w.m j + 1 else w.m j
          rw [hw, if_pos rfl, List.length_append, hlen]; rfl
        · show 0 < if j = j then w.m j + 1 else w.m j
          rw [if_pos rfl]; omega
        · show (woken v j 0).cr = _
          rw [hw]; exact hg.cr
        · show -lg' ≤ (woken v j 0).cr
          rw [hw]; exact hg.lo
        · show (woken v j 0).cr ≤ cF c ∨ (woken v j 0).cr ≤ cQ c
          rw [hw]; exact hg.hi
        · intro x hx
          have hx : x ∈ (woken v j 0).sg ++ [s] := hx
          rw [hw, List.mem_append, List.mem_singleton] at hx
          rcases hx with hx | rfl
          · exact hg.lg x hx
          · exact hl hj
    · rcases h.two j hj with ⟨z1, z2, z3, z4⟩ | ⟨g, hg⟩
      · left
        refine ⟨?_, (upF_ne _ _ e).trans z2, z3, z4⟩
        show (if j = i then w.m j + 1 else w.m j) = 0
        rw [if_neg e]; exact z1
      · have hg := hmono hg
        refine .inr ⟨g, (upF_ne _ _ e).trans hg.fl, (hin j).2 (.inl hg.inn), ?_, ?_, hg.cr, hg.lo, hg.hi, hg.lg⟩
        · show g.sg.length = if j = i then w.m j + 1 else w.m j
          rw [if_neg e]; exact hg.len
        · show 0 < if j = i then w.m j + 1 else w.m j
          rw [if_neg e]; exact hg.pos
  · show (w.r 0 = w.r 1 ∧ (inL (wakeL v i) 0 → inL (wakeL v i) 1 → Fst 0 1 ((wakeL v i).1 ++ (wakeL v i).2))) ∨ (w.r 0 = w.r 1 + 1 ∧ Fst 1 0 ((wakeL v i).1 ++ (wakeL v i).2))
    by_cases hp : plc v i = 0
    · have hni := (plc_0.1 hp).1
      have hw : wakeL v i = (v.lv.1 ++ [(i : Int)], v.lv.2) := by
        unfold wakeL
        rw [if_neg (by rw [hp]; simp), pushed hi hni]
      have h01 : ∀ j : Nat, ¬ inL v.lv j → j < 2 → v.fl j = none := fun j hj hj2 => by
        rcases h.two j hj2 with ⟨_, z, _⟩ | ⟨g, hg⟩
        · exact z
        · exact absurd hg.inn hj
      rcases h.ord with ⟨e, hx⟩ | ⟨e, hx⟩
      · refine .inl ⟨e, fun x y => ?_⟩
        rw [hin] at x y
        rw [hw]
        by_cases i1 : i = 1
        · subst i1
          have hold := h.old (h01 1 hni (by decide))
          have x0 : inL v.lv 0 := by
            rcases x with x | x
            · exact x
            · exact absurd x.1 (by decide)
          rw [hold, List.append_nil]
          unfold inL at x0
          rw [hold, List.append_nil] at x0
          exact List.Sublist.append (List.singleton_sublist.2 x0) (List.Sublist.refl [(1 : Int)])
        · by_cases i0 : i = 0
          · subst i0
            exfalso
            have n1 := h.zo (h01 0 hni (by decide))
            rcases y with y | y
            · obtain ⟨g, hg⟩ := h.ok.th 1 y
              rw [n1] at hg; cases hg
            · exact absurd y.1 (by decide)
          · have x0 : inL v.lv 0 := x.elim id fun x => absurd x.1.symm i0
            have y0 : inL v.lv 1 := y.elim id fun y => absurd y.1.symm i1
            exact fst_ins (hx x0 y0)
      · rw [hw]
        exact .inr ⟨e, fst_ins hx⟩
    · have hw : wakeL v i = v.lv := by unfold wakeL; rw [if_pos hp]
      rw [hw]
      exact h.ord
  · have e : upF v.fl i _ 1 = none := e
    have hw2 : (wakeL v i).2 = v.lv.2 := by
      unfold wakeL
      split
      · rfl
      · rename_i hp
        rw [pushed hi (plc_0.1 (by omega)).1]
    show (wakeL v i).2 = []
    rw [hw2]
    by_cases e1 : 1 = i
    · rw [← e1, upF_same] at e; cases e
    · rw [upF_ne _ _ e1] at e
      exact h.old e
  · have e : upF v.fl i _ 0 = none := e
    show upF v.fl i _ 1 = none
    by_cases e1 : 0 = i
    · rw [← e1, upF_same] at e; cases e
    · rw [upF_ne _ _ e1] at e
      have n1 := h.zo e
      by_cases e2 : 1 = i
      · exact absurd e (hz e2.symm)
      · rw [upF_ne _ _ e2]; exact n1
theorem no_far0 {c : Cf} (h : OkC c) : ¬ ((0 : Int) > addI 0 (cH c) ∧ cD c = true) := fun x => by
  have := h.h
  have x1 := x.1
  unfold addI at x1
  split at x1 <;> omega
theorem tot_le (fl : Nat → Option Fl) (h : ∀ j, FqM.cnt (fl j) ≤ 40) : ∀ k : Nat, tot fl k ≤ 40 * (k : Int)
  | 0 => by simp [tot]
  | k + 1 => by
    have := tot_le fl h k
    have := h k
    simp only [tot]
    omega
theorem fair_enq {c : Cf} {lg lg' : Int} {w : Two} {v : Qm} (h : Fair c lg w v) {i : Nat} (hi : i < 8) {s : Sg} (hk : sK s = (i : Int)) (hln : 1 ≤ sLn s ∧ sLn s ≤ 65536) (hu : U (sFr s)) (hs : sSt s = 0) (hlg : lg ≤ lg') (hl : i < 2 → sLn s ≤ lg') (hz : i = 1 → v.fl 0 ≠ none) :
    (FqM.cnt (v.fl i) < 40 → Fair c lg' ⟨w.s, w.r, fun j => if j = i then w.m j + 1 else w.m j⟩ (enqF v s 0).2) ∧ (2 ≤ i → ∃ m, (∀ j, j < 2 → m j = w.m j) ∧ Fair c lg' ⟨w.s, w.r, m⟩ (enqF v s 0).2) := by
  have hok := h.ok.enq (s := s) (now := 0) ⟨hu, by rw [hs]; exact u0⟩ u0
  have hc := h.ok.cf
  have hkt : (sK s).toNat = i := by rw [hk, Int.toNat_natCast]
  have hcc := h.cc
  have hn : v.n < 512 := by
    have := tot_le v.fl h.cnt 8
    have := h.ok.n
    omega
  have hfar : ¬ (sSt s > addI 0 (cH v.c) ∧ cD v.c = true) := by rw [hs]; exact no_far0 hc
  have hdr : drawn v s 0 = s := by
    obtain ⟨a, b, d, e, f⟩ := s
    have e0 : e = 0 := hs
    subst e0
    show (a, b, d, (if addI 0 (cH v.c) < 0 then addI 0 (cH v.c) else 0), f) = _
    rw [if_neg (by have := hc.h; unfold addI; split <;> omega)]
  have key : FqM.cnt (v.fl i) < 40 → (enqF v s 0).2 = addS (wakeF v i 0) i s := fun hcn => by
    have h0 : fate4 v s 0 = 0 := by
      unfold fate4
      rw [hkt, if_neg (by rw [hcc, h.cw.2.2]; omega), if_neg (by rw [hcc, h.cw.1]; omega), if_neg hfar]
    unfold enqF
    rw [if_neg (by omega), if_neg (fun x => x hln), coll_same h.ok (by decide), fate_eq h.ok, if_pos h0, hkt, hdr]
  constructor
  · intro hcn
    rw [key hcn] at hok ⊢
    exact fair_add h hi hs hlg hl hz hcn hok
  · intro hi2
    by_cases hcn : FqM.cnt (v.fl i) < 40
    · rw [key hcn] at hok ⊢
      exact ⟨_, fun j hj => if_neg (by omega), fair_add h hi hs hlg hl hz hcn hok⟩
    · have h0 : fate4 v s 0 = 3 := by
        unfold fate4
        rw [hkt, if_neg (by rw [hcc, h.cw.2.2]; omega), if_pos (by rw [hcc, h.cw.1]; omega)]
      have e : (enqF v s 0).2 = v := by
        unfold enqF
        rw [if_neg (by omega), if_neg (fun x => x hln), coll_same h.ok (by decide), fate_eq h.ok, if_neg (by rw [h0]; decide)]
      rw [e]
      exact ⟨w.m, fun _ _ => rfl, h.ok, h.cc, h.cw, by have := h.lg0; omega, h.cnt, h.zero, h.ks, fun j hj => (h.two j hj).imp id fun ⟨g, hg⟩ => ⟨g, hg.fl, hg.inn, hg.len, hg.pos, hg.cr, by have := hg.lo; omega, hg.hi, fun x hx => by have := hg.lg x hx; omega⟩, h.ord, h.old, h.zo⟩
end FqU

end Go.X
