/- Contracts and plain facts: TreeM. -/
import Derived.Test.YtjahkildlilabaaBPlain
import Derived.Test.YtjahkildlilabaaXw
import Derived.Test.YtjahkildlilabaaK
set_option linter.unusedVariables false
set_option linter.unusedSimpArgs false
set_option linter.unusedSectionVars false
namespace Go.X
namespace Tree
abbrev Nd := Int × Int × Int × Int × Int
abbrev Key := Int × Int
def klt (a b : Key) : Bool := decide (a.1 < b.1) || (decide (a.1 = b.1) && decide (a.2 < b.2))
theorem klt_iff {a b : Key} : klt a b = true ↔ a.1 < b.1 ∨ (a.1 = b.1 ∧ a.2 < b.2) := by simp [klt]
theorem klt_irr (a : Key) : klt a a = false := by
  cases h : klt a a with
  | false => rfl
  | true => rw [klt_iff] at h; omega
theorem klt_trans {a b c : Key} (h : klt a b = true) (k : klt b c = true) : klt a c = true := by rw [klt_iff] at *; omega
theorem klt_asym {a b : Key} (h : klt a b = true) : klt b a = false := by
  cases h2 : klt b a with
  | false => rfl
  | true => rw [klt_iff] at *; omega
theorem key_ext {a b : Key} (h : a.1 = b.1) (k : a.2 = b.2) : a = b := by cases a; cases b; simp at h k; simp [h, k]
theorem klt_tot {a b : Key} (h : klt a b = false) (hne : a ≠ b) : klt b a = true := by
  rw [klt_iff]
  have h2 : ¬ (a.1 < b.1 ∨ (a.1 = b.1 ∧ a.2 < b.2)) := by rw [← klt_iff, h]; simp
  by_cases h1 : a.1 = b.1
  · by_cases h3 : a.2 = b.2
    · exact absurd (key_ext h1 h3) hne
    · omega
  · omega
inductive Tr where
  | e
  | n (l : Tr) (i : Nat) (k : Key) (r : Tr)
namespace Tr
def rt : Tr → Int
  | e => -1
  | n _ i _ _ => i
def ht : Tr → Int
  | e => 0
  | n l _ _ r => max l.ht r.ht + 1
def ids : Tr → List Nat
  | e => []
  | n l i _ r => l.ids ++ i :: r.ids
def ino : Tr → List Key
  | e => []
  | n l _ k r => l.ino ++ k :: r.ino
def avl : Tr → Prop
  | e => True
  | n l _ _ r => l.avl ∧ r.avl ∧ l.ht ≤ r.ht + 1 ∧ r.ht ≤ l.ht + 1
theorem ht_nn : ∀ t : Tr, 0 ≤ t.ht
  | e => by simp [ht]
  | n l _ _ r => by have := ht_nn l; simp only [ht]; omega
theorem ht_pos {t : Tr} (h : 0 < t.ht) : ∃ l i k r, t = n l i k r := by
  cases t with
  | e => simp [ht] at h
  | n l i k r => exact ⟨_, _, _, _, rfl⟩
theorem rt_mem {t : Tr} {i : Nat} (h : t.rt = (i : Int)) : i ∈ t.ids := by
  cases t with
  | e => simp only [rt] at h; omega
  | n l j k r =>
    have h : (j : Int) = i := h
    have h : j = i := by omega
    simp [ids, h]
theorem len_ids : ∀ t : Tr, t.ids.length = t.ino.length
  | e => rfl
  | n l i k r => by simp [ids, ino, len_ids l, len_ids r]
end Tr
open Tr
def Rep (l : List Nd) : Tr → Prop
  | e => True
  | n L i k R => l[i]? = some (k.1, k.2, L.rt, R.rt, max L.ht R.ht + 1) ∧ Rep l L ∧ Rep l R
theorem Rep.frame {l l' : List Nd} : ∀ {t : Tr}, Rep l t → (∀ j ∈ t.ids, l'[j]? = l[j]?) → Rep l' t
  | e, _, _ => trivial
  | n L i k R, ⟨h1, h2, h3⟩, hf => ⟨by rw [hf i (by simp [ids])]; exact h1, h2.frame fun j hj => hf j (by simp [ids, hj]), h3.frame fun j hj => hf j (by simp [ids, hj])⟩
theorem Rep.lt {l : List Nd} : ∀ {t : Tr}, Rep l t → ∀ j ∈ t.ids, j < l.length
  | e, _, _, hj => by simp [ids] at hj
  | n L i k R, ⟨h1, h2, h3⟩, j, hj => by
    simp only [ids, List.mem_append, List.mem_cons] at hj
    rcases hj with hj | rfl | hj
    · exact h2.lt j hj
    · exact (List.getElem?_eq_some_iff.1 h1).1
    · exact h3.lt j hj
def nth (l : List Nd) (i : Int) : Nd := l.getD i.toNat (0, 0, 0, 0, 0)
abbrev lt (l : List Nd) (i : Int) : Int := (nth l i).2.2.1
abbrev rtt (l : List Nd) (i : Int) : Int := (nth l i).2.2.2.1
def hiL (l : List Nd) (i : Int) : Int := if i = -1 then 0 else (nth l i).2.2.2.2
def mendL (l : List Nd) (i : Int) : List Nd := l.set i.toNat ((nth l i).1, (nth l i).2.1, (nth l i).2.2.1, (nth l i).2.2.2.1, max (hiL l (lt l i)) (hiL l (rtt l i)) + 1)
def setLt (l : List Nd) (i v : Int) : List Nd := l.set i.toNat ((nth l i).1, (nth l i).2.1, v, (nth l i).2.2.2.1, (nth l i).2.2.2.2)
def setRt (l : List Nd) (i v : Int) : List Nd := l.set i.toNat ((nth l i).1, (nth l i).2.1, (nth l i).2.2.1, v, (nth l i).2.2.2.2)
def turnLL (l : List Nd) (i : Int) : List Nd × Int := (mendL (mendL (setLt (setRt l i (lt l (rtt l i))) (rtt l i) i) i) (rtt l i), rtt l i)
def turnRL (l : List Nd) (i : Int) : List Nd × Int := (mendL (mendL (setRt (setLt l i (rtt l (lt l i))) (lt l i) i) i) (lt l i), lt l i)
def leanL (l : List Nd) (i : Int) : Int := hiL l (lt l i) - hiL l (rtt l i)
def evenL (l : List Nd) (i : Int) : List Nd × Int :=
  if leanL (mendL l i) i > 1 then
    turnRL (if leanL (mendL l i) (lt (mendL l i) i) < 0 then setLt (turnLL (mendL l i) (lt (mendL l i) i)).1 i (turnLL (mendL l i) (lt (mendL l i) i)).2 else mendL l i) i
  else if leanL (mendL l i) i < -1 then
    turnLL (if leanL (mendL l i) (rtt (mendL l i) i) > 0 then setRt (turnRL (mendL l i) (rtt (mendL l i) i)).1 i (turnRL (mendL l i) (rtt (mendL l i) i)).2 else mendL l i) i
  else (mendL l i, i)
theorem nth_of {l : List Nd} {i : Nat} {x : Nd} (h : l[i]? = some x) : nth l (i : Int) = x := by
  simp [nth, List.getD_eq_getElem?_getD, h]
theorem hi_rep {l : List Nd} {t : Tr} (h : Rep l t) : hiL l t.rt = t.ht := by
  cases t with
  | e => simp [hiL, rt, ht]
  | n L i k R =>
    have e : (i : Int) ≠ -1 := by omega
    simp only [hiL, rt, if_neg e, nth_of h.1, ht]
theorem set_at {l : List Nd} {i : Nat} {x : Nd} (y : Nd) (h : l[i]? = some x) : (l.set i y)[i]? = some y := by
  rw [List.getElem?_set_self (List.getElem?_eq_some_iff.1 h).1]
theorem mend_at {l : List Nd} {i : Nat} {k : Key} {L R : Tr} {h0 : Int} (h : l[i]? = some (k.1, k.2, L.rt, R.rt, h0)) (hL : Rep l L) (hR : Rep l R) : (mendL l i)[i]? = some (k.1, k.2, L.rt, R.rt, max L.ht R.ht + 1) := by
  have e1 : lt l (i : Int) = L.rt := by rw [lt, nth_of h]
  have e2 : rtt l (i : Int) = R.rt := by rw [rtt, nth_of h]
  simp only [mendL, nth_of h, e1, e2, hi_rep hL, hi_rep hR, Int.toNat_natCast]
  exact set_at _ h
theorem mend_ne {l : List Nd} {i j : Nat} (h : j ≠ i) : (mendL l i)[j]? = l[j]? := by
  simp only [mendL, Int.toNat_natCast]
  exact List.getElem?_set_ne (Ne.symm h)
theorem setLt_at {l : List Nd} {i : Nat} {x : Nd} (v : Int) (h : l[i]? = some x) : (setLt l i v)[i]? = some (x.1, x.2.1, v, x.2.2.2.1, x.2.2.2.2) := by
  simp only [setLt, nth_of h, Int.toNat_natCast]; exact set_at _ h
theorem setLt_ne {l : List Nd} {i j : Nat} {v : Int} (h : j ≠ i) : (setLt l i v)[j]? = l[j]? := by
  simp only [setLt, Int.toNat_natCast]; exact List.getElem?_set_ne (Ne.symm h)
theorem setRt_at {l : List Nd} {i : Nat} {x : Nd} (v : Int) (h : l[i]? = some x) : (setRt l i v)[i]? = some (x.1, x.2.1, x.2.2.1, v, x.2.2.2.2) := by
  simp only [setRt, nth_of h, Int.toNat_natCast]; exact set_at _ h
theorem setRt_ne {l : List Nd} {i j : Nat} {v : Int} (h : j ≠ i) : (setRt l i v)[j]? = l[j]? := by
  simp only [setRt, Int.toNat_natCast]; exact List.getElem?_set_ne (Ne.symm h)
theorem mend_len (l : List Nd) (i : Int) : (mendL l i).length = l.length := by simp [mendL]
theorem setLt_len (l : List Nd) (i v : Int) : (setLt l i v).length = l.length := by simp [setLt]
theorem setRt_len (l : List Nd) (i v : Int) : (setRt l i v).length = l.length := by simp [setRt]
theorem turnL_len (l : List Nd) (i : Int) : (turnLL l i).1.length = l.length := by simp [turnLL, mend_len, setLt_len, setRt_len]
theorem turnR_len (l : List Nd) (i : Int) : (turnRL l i).1.length = l.length := by simp [turnRL, mend_len, setLt_len, setRt_len]
theorem even_len (l : List Nd) (i : Int) : (evenL l i).1.length = l.length := by
  unfold evenL; split
  · rw [turnR_len]; split <;> simp [setLt_len, turnL_len, mend_len]
  · split
    · rw [turnL_len]; split <;> simp [setRt_len, turnR_len, mend_len]
    · exact mend_len _ _
/-- A turn to the left. -/
theorem turnL_rep {l : List Nd} {A B C : Tr} {i j : Nat} {k m : Key} {h0 h1 : Int} (hi : l[i]? = some (k.1, k.2, A.rt, (j : Int), h0)) (hj : l[j]? = some (m.1, m.2, B.rt, C.rt, h1)) (hA : Rep l A) (hB : Rep l B) (hC : Rep l C)
    (hd : (A.ids ++ i :: (B.ids ++ j :: C.ids)).Nodup) : (turnLL l i).2 = j ∧ Rep (turnLL l i).1 (n (n A i k B) j m C) ∧ ∀ p, p ≠ i → p ≠ j → (turnLL l i).1[p]? = l[p]? := by
  simp only [List.nodup_append, List.nodup_cons, List.mem_append, List.mem_cons, not_or] at hd
  obtain ⟨dA, ⟨⟨iB, ij, iC⟩, dB, ⟨jC, dC⟩, dBC⟩, dA'⟩ := hd
  have er : rtt l (i : Int) = j := by rw [rtt, nth_of hi]
  have e1 : lt l (j : Int) = B.rt := by rw [lt, nth_of hj]
  have a1 := setRt_at B.rt hi
  have a2 : (setRt l i B.rt)[j]? = _ := (setRt_ne (Ne.symm ij)).trans hj
  have b2 := setLt_at (i : Int) a2
  have b1 : (setLt (setRt l i B.rt) j i)[i]? = _ := (setLt_ne ij).trans a1
  have fA : ∀ p ∈ A.ids, p ≠ i ∧ p ≠ j := fun p hp => ⟨fun e => dA' p hp i (.inl rfl) e, fun e => dA' p hp j (.inr (.inr (.inl rfl))) e⟩
  have fB : ∀ p ∈ B.ids, p ≠ i ∧ p ≠ j := fun p hp => ⟨fun e => iB (e ▸ hp), fun e => dBC p hp j (.inl rfl) e⟩
  have fC : ∀ p ∈ C.ids, p ≠ i ∧ p ≠ j := fun p hp => ⟨fun e => iC (e ▸ hp), fun e => jC (e ▸ hp)⟩
  have fr : ∀ p, p ≠ i → p ≠ j → (setLt (setRt l i B.rt) j i)[p]? = l[p]? := fun p h1 h2 => (setLt_ne h2).trans (setRt_ne h1)
  have gA : Rep (setLt (setRt l i B.rt) j i) A := hA.frame fun p hp => fr p (fA p hp).1 (fA p hp).2
  have gB : Rep (setLt (setRt l i B.rt) j i) B := hB.frame fun p hp => fr p (fB p hp).1 (fB p hp).2
  have gC : Rep (setLt (setRt l i B.rt) j i) C := hC.frame fun p hp => fr p (fC p hp).1 (fC p hp).2
  have c1 := mend_at b1 gA gB
  have kA : Rep (mendL (setLt (setRt l i B.rt) j i) i) A := gA.frame fun p hp => mend_ne (fA p hp).1
  have kB : Rep (mendL (setLt (setRt l i B.rt) j i) i) B := gB.frame fun p hp => mend_ne (fB p hp).1
  have kC : Rep (mendL (setLt (setRt l i B.rt) j i) i) C := gC.frame fun p hp => mend_ne (fC p hp).1
  have kI : Rep (mendL (setLt (setRt l i B.rt) j i) i) (n A i k B) := ⟨c1, kA, kB⟩
  have c2 : (mendL (setLt (setRt l i B.rt) j i) i)[j]? = some (m.1, m.2, (n A i k B).rt, C.rt, h1) := (mend_ne (Ne.symm ij)).trans b2
  have d := mend_at c2 kI kC
  have et : turnLL l i = (mendL (mendL (setLt (setRt l i B.rt) j i) i) j, (j : Int)) := by simp only [turnLL, er, e1]
  rw [et]
  have fI : ∀ p ∈ (n A i k B).ids, p ≠ j := fun p hp => by
    simp only [ids, List.mem_append, List.mem_cons] at hp
    rcases hp with hp | rfl | hp
    · exact (fA p hp).2
    · exact ij
    · exact (fB p hp).2
  exact ⟨rfl, ⟨d, kI.frame fun p hp => mend_ne (fI p hp), kC.frame fun p hp => mend_ne (fC p hp).2⟩, fun p h1 h2 => (mend_ne h2).trans ((mend_ne h1).trans (fr p h1 h2))⟩
/-- A turn to the right. -/
theorem turnR_rep {l : List Nd} {A B C : Tr} {i j : Nat} {k m : Key} {h0 h1 : Int} (hi : l[i]? = some (k.1, k.2, (j : Int), C.rt, h0)) (hj : l[j]? = some (m.1, m.2, A.rt, B.rt, h1)) (hA : Rep l A) (hB : Rep l B) (hC : Rep l C)
    (hd : ((A.ids ++ j :: B.ids) ++ i :: C.ids).Nodup) : (turnRL l i).2 = j ∧ Rep (turnRL l i).1 (n A j m (n B i k C)) ∧ ∀ p, p ≠ i → p ≠ j → (turnRL l i).1[p]? = l[p]? := by
  simp only [List.nodup_append, List.nodup_cons, List.mem_append, List.mem_cons] at hd
  obtain ⟨⟨dA, ⟨jB, dB⟩, dAB⟩, ⟨iC, dC⟩, dd⟩ := hd
  have ij : i ≠ j := fun e => dd j (.inr (.inl rfl)) i (.inl rfl) e.symm
  have er : lt l (i : Int) = j := by rw [lt, nth_of hi]
  have e1 : rtt l (j : Int) = B.rt := by rw [rtt, nth_of hj]
  have a1 := setLt_at B.rt hi
  have a2 : (setLt l i B.rt)[j]? = _ := (setLt_ne (Ne.symm ij)).trans hj
  have b2 := setRt_at (i : Int) a2
  have b1 : (setRt (setLt l i B.rt) j i)[i]? = _ := (setRt_ne ij).trans a1
  have fA : ∀ p ∈ A.ids, p ≠ i ∧ p ≠ j := fun p hp => ⟨fun e => dd p (.inl hp) i (.inl rfl) e, fun e => dAB p hp j (.inl rfl) e⟩
  have fB : ∀ p ∈ B.ids, p ≠ i ∧ p ≠ j := fun p hp => ⟨fun e => dd p (.inr (.inr hp)) i (.inl rfl) e, fun e => jB (e ▸ hp)⟩
  have fC : ∀ p ∈ C.ids, p ≠ i ∧ p ≠ j := fun p hp => ⟨fun e => iC (e ▸ hp), fun e => dd j (.inr (.inl rfl)) p (.inr hp) e.symm⟩
  have fr : ∀ p, p ≠ i → p ≠ j → (setRt (setLt l i B.rt) j i)[p]? = l[p]? := fun p h1 h2 => (setRt_ne h2).trans (setLt_ne h1)
  have gA : Rep (setRt (setLt l i B.rt) j i) A := hA.frame fun p hp => fr p (fA p hp).1 (fA p hp).2
  have gB : Rep (setRt (setLt l i B.rt) j i) B := hB.frame fun p hp => fr p (fB p hp).1 (fB p hp).2
  have gC : Rep (setRt (setLt l i B.rt) j i) C := hC.frame fun p hp => fr p (fC p hp).1 (fC p hp).2
  have c1 := mend_at b1 gB gC
  have kA : Rep (mendL (setRt (setLt l i B.rt) j i) i) A := gA.frame fun p hp => mend_ne (fA p hp).1
  have kB : Rep (mendL (setRt (setLt l i B.rt) j i) i) B := gB.frame fun p hp => mend_ne (fB p hp).1
  have kC : Rep (mendL (setRt (setLt l i B.rt) j i) i) C := gC.frame fun p hp => mend_ne (fC p hp).1
  have kI : Rep (mendL (setRt (setLt l i B.rt) j i) i) (n B i k C) := ⟨c1, kB, kC⟩
  have c2 : (mendL (setRt (setLt l i B.rt) j i) i)[j]? = some (m.1, m.2, A.rt, (n B i k C).rt, h1) := (mend_ne (Ne.symm ij)).trans b2
  have d := mend_at c2 kA kI
  have et : turnRL l i = (mendL (mendL (setRt (setLt l i B.rt) j i) i) j, (j : Int)) := by simp only [turnRL, er, e1]
  rw [et]
  have fI : ∀ p ∈ (n B i k C).ids, p ≠ j := fun p hp => by
    simp only [ids, List.mem_append, List.mem_cons] at hp
    rcases hp with hp | rfl | hp
    · exact (fB p hp).2
    · exact ij
    · exact (fC p hp).2
  exact ⟨rfl, ⟨d, kA.frame fun p hp => mend_ne (fA p hp).2, kI.frame fun p hp => mend_ne (fI p hp)⟩, fun p h1 h2 => (mend_ne h2).trans ((mend_ne h1).trans (fr p h1 h2))⟩
/-- Evened, it is even, and what it was. -/
structure Evn (l l' : List Nd) (r : Int) (L : Tr) (i : Nat) (k : Key) (R T : Tr) : Prop where
  root : r = T.rt
  rep : Rep l' T
  avl : T.avl
  ino : T.ino = L.ino ++ k :: R.ino
  ids : T.ids = L.ids ++ i :: R.ids
  fr : ∀ p, p ∉ L.ids ++ i :: R.ids → l'[p]? = l[p]?
  lo : max L.ht R.ht ≤ T.ht
  hi : T.ht ≤ max L.ht R.ht + 1
  st : L.ht ≤ R.ht + 1 → R.ht ≤ L.ht + 1 → T.ht = max L.ht R.ht + 1
theorem even_rep {l : List Nd} {L R : Tr} {i : Nat} {k : Key} {h0 : Int} (hi : l[i]? = some (k.1, k.2, L.rt, R.rt, h0)) (hL : Rep l L) (hR : Rep l R) (aL : L.avl) (aR : R.avl) (hd : (L.ids ++ i :: R.ids).Nodup)
    (h1 : L.ht ≤ R.ht + 2) (h2 : R.ht ≤ L.ht + 2) : ∃ T, Evn l (evenL l i).1 (evenL l i).2 L i k R T := by
  have hd0 := hd
  simp only [List.nodup_append, List.nodup_cons, List.mem_cons] at hd
  obtain ⟨dL, ⟨iR, dR⟩, dd⟩ := hd
  have iL : i ∉ L.ids := fun hp => dd i hp i (.inl rfl) rfl
  have m1 := mend_at hi hL hR
  have mf : ∀ p, p ≠ i → (mendL l i)[p]? = l[p]? := fun p hp => mend_ne hp
  have gL : Rep (mendL l i) L := hL.frame fun p hp => mf p fun e => iL (e ▸ hp)
  have gR : Rep (mendL l i) R := hR.frame fun p hp => mf p fun e => iR (e ▸ hp)
  have el : lt (mendL l i) (i : Int) = L.rt := by rw [lt, nth_of m1]
  have er : rtt (mendL l i) (i : Int) = R.rt := by rw [rtt, nth_of m1]
  have en : leanL (mendL l i) i = L.ht - R.ht := by rw [leanL, el, er, hi_rep gL, hi_rep gR]
  by_cases c1 : L.ht - R.ht > 1
  · have hR0 := R.ht_nn
    obtain ⟨a, j, m, b, hLn⟩ := ht_pos (t := L) (by omega)
    subst hLn
    have gj := gL.1
    have eln : leanL (mendL l i) (j : Int) = a.ht - b.ht := by rw [leanL, lt, rtt, nth_of gj]; exact congr (congrArg _ (hi_rep gL.2.1)) (hi_rep gL.2.2)
    have hj' : (n a j m b).rt = (j : Int) := rfl
    rw [hj'] at el
    obtain ⟨aa, ab, a1, a2⟩ := aL
    simp only [ht] at h1 h2 c1
    by_cases c2 : a.ht - b.ht < 0
    · have ha0 := a.ht_nn
      obtain ⟨b1, x, y, b2, hb⟩ := ht_pos (t := b) (by omega)
      subst hb
      have gb := gL.2.2
      have hn1 : (a.ids ++ j :: (b1.ids ++ x :: b2.ids)).Nodup := dL
      obtain ⟨t2, tr, tf⟩ := turnL_rep (A := a) (B := b1) (C := b2) (i := j) (j := x) (k := m) (m := y) gj gb.1 gL.2.1 gb.2.1 gb.2.2 hn1
      have xi : x ≠ i := fun e => iL (by rw [← e]; simp [ids])
      have ji : j ≠ i := fun e => iL (by rw [← e]; simp [ids])
      have u1 : (turnLL (mendL l i) j).1[i]? = _ := (tf i (Ne.symm ji) (Ne.symm xi)).trans m1
      have u2 := setLt_at ((x : Nat) : Int) u1
      have ids1 : ∀ p, p ∈ (n (n a j m b1) x y b2).ids → p ≠ i := fun p hp e => iL (by rw [← e]; simp only [ids, List.append_assoc, List.cons_append] at hp ⊢; exact hp)
      have v1 : Rep (setLt (turnLL (mendL l i) j).1 i x) (n (n a j m b1) x y b2) := tr.frame fun p hp => setLt_ne (ids1 p hp)
      have v2 : Rep (setLt (turnLL (mendL l i) j).1 i x) R := gR.frame fun p hp => (setLt_ne (show p ≠ i from fun e => iR (e ▸ hp))).trans (tf p (fun e => dd j (by simp [ids]) p (.inr hp) e.symm) (fun e => dd x (by simp [ids]) p (.inr hp) e.symm))
      have hn2 : (((n a j m b1).ids ++ x :: b2.ids) ++ i :: R.ids).Nodup := by simp only [ids, List.append_assoc, List.cons_append] at hd0 ⊢; exact hd0
      obtain ⟨w2, wr, wf⟩ := turnR_rep (A := n a j m b1) (B := b2) (C := R) (i := i) (j := x) (k := k) (m := y) u2 v1.1 v1.2.1 v1.2.2 v2 hn2
      simp only [avl, ht] at ab a1 a2 c1 c2 h1 h2
      have ee : evenL l i = turnRL (setLt (turnLL (mendL l i) j).1 i x) i := by
        rw [evenL, if_pos (by rw [en]; simp only [ht]; omega), el, if_pos (by rw [eln]; simp only [ht]; omega), t2]
      refine ⟨n (n a j m b1) x y (n b2 i k R), ?_⟩
      rw [ee]
      refine ⟨w2, wr, ?_, by simp [ino], by simp [ids], fun p hp => ?_, ?_, ?_, ?_⟩
      · simp only [avl, ht]; refine ⟨⟨aa, ab.1, ?_, ?_⟩, ⟨ab.2.1, aR, ?_, ?_⟩, ?_, ?_⟩ <;> omega
      · simp only [ids, List.mem_append, List.mem_cons, not_or] at hp
        obtain ⟨⟨p1, p2, p3, p4, p5⟩, p6, p7⟩ := hp
        rw [wf p p6 p4, setLt_ne p6, tf p p2 p4, mf p p6]
      · simp only [ht]; omega
      · simp only [ht]; omega
      · simp only [ht]; omega
    · obtain ⟨w2, wr, wf⟩ := turnR_rep (A := a) (B := b) (C := R) (i := i) (j := j) (k := k) (m := m) m1 gj gL.2.1 gL.2.2 gR hd0
      have ee : evenL l i = turnRL (mendL l i) i := by
        rw [evenL, if_pos (by rw [en]; simp only [ht]; omega), el, if_neg (by rw [eln]; exact c2)]
      refine ⟨n a j m (n b i k R), ?_⟩
      rw [ee]
      refine ⟨w2, wr, ?_, by simp [ino], by simp [ids], fun p hp => ?_, ?_, ?_, ?_⟩
      · simp only [avl, ht]; refine ⟨aa, ⟨ab, aR, ?_, ?_⟩, ?_, ?_⟩ <;> omega
      · simp only [ids, List.mem_append, List.mem_cons, not_or] at hp
        obtain ⟨⟨p1, p2, p3⟩, p6, p7⟩ := hp
        rw [wf p p6 p2, mf p p6]
      · simp only [ht]; omega
      · simp only [ht]; omega
      · simp only [ht]; omega
  · by_cases c3 : L.ht - R.ht < -1
    · have hL0 := L.ht_nn
      obtain ⟨a, j, m, b, hRn⟩ := ht_pos (t := R) (by omega)
      subst hRn
      have gj := gR.1
      have eln : leanL (mendL l i) (j : Int) = a.ht - b.ht := by rw [leanL, lt, rtt, nth_of gj]; exact congr (congrArg _ (hi_rep gR.2.1)) (hi_rep gR.2.2)
      have hj' : (n a j m b).rt = (j : Int) := rfl
      rw [hj'] at er
      obtain ⟨aa, ab, a1, a2⟩ := aR
      simp only [ht] at h1 h2 c3
      by_cases c2 : a.ht - b.ht > 0
      · have hb0 := b.ht_nn
        obtain ⟨b1, x, y, b2, hb⟩ := ht_pos (t := a) (by omega)
        subst hb
        have gb := gR.2.1
        have hn1 : ((b1.ids ++ x :: b2.ids) ++ j :: b.ids).Nodup := dR
        obtain ⟨t2, tr, tf⟩ := turnR_rep (A := b1) (B := b2) (C := b) (i := j) (j := x) (k := m) (m := y) gj gb.1 gb.2.1 gb.2.2 gR.2.2 hn1
        have xi : x ≠ i := fun e => iR (by rw [← e]; simp [ids])
        have ji : j ≠ i := fun e => iR (by rw [← e]; simp [ids])
        have u1 : (turnRL (mendL l i) j).1[i]? = _ := (tf i (Ne.symm ji) (Ne.symm xi)).trans m1
        have u2 := setRt_at ((x : Nat) : Int) u1
        have ids1 : ∀ p, p ∈ (n b1 x y (n b2 j m b)).ids → p ≠ i := fun p hp e => iR (by rw [← e]; simp only [ids, List.append_assoc, List.cons_append] at hp ⊢; exact hp)
        have v1 : Rep (setRt (turnRL (mendL l i) j).1 i x) (n b1 x y (n b2 j m b)) := tr.frame fun p hp => setRt_ne (ids1 p hp)
        have v2 : Rep (setRt (turnRL (mendL l i) j).1 i x) L := gL.frame fun p hp => (setRt_ne (show p ≠ i from fun e => iL (e ▸ hp))).trans (tf p (fun e => dd p hp j (.inr (by simp [ids])) e) (fun e => dd p hp x (.inr (by simp [ids])) e))
        have hn2 : (L.ids ++ i :: (b1.ids ++ x :: (n b2 j m b).ids)).Nodup := by simp only [ids, List.append_assoc, List.cons_append] at hd0 ⊢; exact hd0
        obtain ⟨w2, wr, wf⟩ := turnL_rep (A := L) (B := b1) (C := n b2 j m b) (i := i) (j := x) (k := k) (m := y) u2 v1.1 v2 v1.2.1 v1.2.2 hn2
        simp only [avl, ht] at aa a1 a2 c3 c2 h1 h2
        have ee : evenL l i = turnLL (setRt (turnRL (mendL l i) j).1 i x) i := by
          rw [evenL, if_neg (by rw [en]; simp only [ht]; omega), if_pos (by rw [en]; simp only [ht]; omega), er, if_pos (by rw [eln]; simp only [ht]; omega), t2]
        refine ⟨n (n L i k b1) x y (n b2 j m b), ?_⟩
        rw [ee]
        refine ⟨w2, wr, ?_, by simp [ino], by simp [ids], fun p hp => ?_, ?_, ?_, ?_⟩
        · simp only [avl, ht]; refine ⟨⟨aL, aa.1, ?_, ?_⟩, ⟨aa.2.1, ab, ?_, ?_⟩, ?_, ?_⟩ <;> omega
        · simp only [ids, List.mem_append, List.mem_cons, not_or] at hp
          obtain ⟨p1, p2, ⟨p3, p4, p5⟩, p6, p7⟩ := hp
          rw [wf p p2 p4, setRt_ne p2, tf p p6 p4, mf p p2]
        · simp only [ht]; omega
        · simp only [ht]; omega
        · simp only [ht]; omega
      · obtain ⟨w2, wr, wf⟩ := turnL_rep (A := L) (B := a) (C := b) (i := i) (j := j) (k := k) (m := m) m1 gj gL gR.2.1 gR.2.2 hd0
        have ee : evenL l i = turnLL (mendL l i) i := by
          rw [evenL, if_neg (by rw [en]; simp only [ht]; omega), if_pos (by rw [en]; simp only [ht]; omega), er, if_neg (by rw [eln]; exact c2)]
        refine ⟨n (n L i k a) j m b, ?_⟩
        rw [ee]
        refine ⟨w2, wr, ?_, by simp [ino], by simp [ids], fun p hp => ?_, ?_, ?_, ?_⟩
        · simp only [avl, ht]; refine ⟨⟨aL, aa, ?_, ?_⟩, ab, ?_, ?_⟩ <;> omega
        · simp only [ids, List.mem_append, List.mem_cons, not_or] at hp
          obtain ⟨p1, p2, p3, p4, p5⟩ := hp
          rw [wf p p2 p4, mf p p2]
        · simp only [ht]; omega
        · simp only [ht]; omega
        · simp only [ht]; omega
    · have ee : evenL l i = (mendL l i, (i : Int)) := by rw [evenL, if_neg (by rw [en]; exact c1), if_neg (by rw [en]; exact c3)]
      refine ⟨n L i k R, ?_⟩
      rw [ee]
      refine ⟨rfl, ⟨m1, gL, gR⟩, ⟨aL, aR, by omega, by omega⟩, rfl, rfl, fun p hp => mf p fun e => hp (by rw [e]; simp), ?_, ?_, ?_⟩
      · show _ ≤ max L.ht R.ht + 1; omega
      · exact Int.le_refl _
      · intro _ _; rfl
end Tree

end Go.X
