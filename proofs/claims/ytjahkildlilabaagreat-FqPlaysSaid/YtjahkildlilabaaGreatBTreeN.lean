/- Contracts and plain facts: TreeM TreeN. -/
import Derived.Test.YtjahkildlilabaaGreatBArith
import Derived.Test.YtjahkildlilabaaGreatXw
import Derived.Test.YtjahkildlilabaaGreatK
set_option linter.unusedVariables false
set_option linter.unusedSimpArgs false
set_option linter.unusedSectionVars false
namespace Go.X
namespace Tree
abbrev Nd := Int × Int × Int × Int × Int
abbrev Key := Int × Int
def klt (a b : Key) : Bool := decide (a.1 < b.1) || (decide (a.1 = b.1) && decide (a.2 < b.2))
theorem klt_iff {a b : Key} : klt a b = true ↔ a.1 < b.1 ∨ (a.1 = b.1 ∧ a.2 < b.2) := by simp [klt]
theorem klt_irr (a : Key) : klt a a = false := by
  cases h : klt a a with
  | false => rfl
  | true => rw [klt_iff] at h; omega
theorem klt_trans {a b c : Key} (h : klt a b = true) (k : klt b c = true) : klt a c = true := by rw [klt_iff] at *; omega
theorem klt_asym {a b : Key} (h : klt a b = true) : klt b a = false := by
  cases h2 : klt b a with
  | false => rfl
  | true => rw [klt_iff] at *; omega
theorem key_ext {a b : Key} (h : a.1 = b.1) (k : a.2 = b.2) : a = b := by cases a; cases b; simp at h k; simp [h, k]
theorem klt_tot {a b : Key} (h : klt a b = false) (hne : a ≠ b) : klt b a = true := by
  rw [klt_iff]
  have h2 : ¬ (a.1 < b.1 ∨ (a.1 = b.1 ∧ a.2 < b.2)) := by rw [← klt_iff, h]; simp
  by_cases h1 : a.1 = b.1
  · by_cases h3 : a.2 = b.2
    · exact absurd (key_ext h1 h3) hne
    · omega
  · omega
inductive Tr where
  | e
  | n (l : Tr) (i : Nat) (k : Key) (r : Tr)
namespace Tr
def rt : Tr → Int
  | e => -1
  | n _ i _ _ => i
def ht : Tr → Int
  | e => 0
  | n l _ _ r => max l.ht r.ht + 1
def ids : Tr → List Nat
  | e => []
  | n l i _ r => l.ids ++ i :: r.ids
def ino : Tr → List Key
  | e => []
  | n l _ k r => l.ino ++ k :: r.ino
def avl : Tr → Prop
  | e => True
  | n l _ _ r => l.avl ∧ r.avl ∧ l.ht ≤ r.ht + 1 ∧ r.ht ≤ l.ht + 1
theorem ht_nn : ∀ t : Tr, 0 ≤ t.ht
  | e => by simp [ht]
  | n l _ _ r => by have := ht_nn l; simp only [ht]; omega
theorem ht_pos {t : Tr} (h : 0 < t.ht) : ∃ l i k r, t = n l i k r := by
  cases t with
  | e => simp [ht] at h
  | n l i k r => exact ⟨_, _, _, _, rfl⟩
theorem rt_mem {t : Tr} {i : Nat} (h : t.rt = (i : Int)) : i ∈ t.ids := by
  cases t with
  | e => simp only [rt] at h; omega
  | n l j k r =>
    have h : (j : Int) = i := h
    have h : j = i := by omega
    simp [ids, h]
theorem len_ids : ∀ t : Tr, t.ids.length = t.ino.length
  | e => rfl
  | n l i k r => by simp [ids, ino, len_ids l, len_ids r]
end Tr
open Tr
def Rep (l : List Nd) : Tr → Prop
  | e => True
  | n L i k R => l[i]? = some (k.1, k.2, L.rt, R.rt, max L.ht R.ht + 1) ∧ Rep l L ∧ Rep l R
theorem Rep.frame {l l' : List Nd} : ∀ {t : Tr}, Rep l t → (∀ j ∈ t.ids, l'[j]? = l[j]?) → Rep l' t
  | e, _, _ => trivial
  | n L i k R, ⟨h1, h2, h3⟩, hf => ⟨by rw [hf i (by simp [ids])]; exact h1, h2.frame fun j hj => hf j (by simp [ids, hj]), h3.frame fun j hj => hf j (by simp [ids, hj])⟩
theorem Rep.lt {l : List Nd} : ∀ {t : Tr}, Rep l t → ∀ j ∈ t.ids, j < l.length
  | e, _, _, hj => by simp [ids] at hj
  | n L i k R, ⟨h1, h2, h3⟩, j, hj => by
    simp only [ids, List.mem_append, List.mem_cons] at hj
    rcases hj with hj | rfl | hj
    · exact h2.lt j hj
    · exact (List.getElem?_eq_some_iff.1 h1).1
    · exact h3.lt j hj
def nth (l : List Nd) (i : Int) : Nd := l.getD i.toNat (0, 0, 0, 0, 0)
abbrev lt (l : List Nd) (i : Int) : Int := (nth l i).2.2.1
abbrev rtt (l : List Nd) (i : Int) : Int := (nth l i).2.2.2.1
def hiL (l : List Nd) (i : Int) : Int := if i = -1 then 0 else (nth l i).2.2.2.2
def mendL (l : List Nd) (i : Int) : List Nd := l.set i.toNat ((nth l i).1, (nth l i).2.1, (nth l i).2.2.1, (nth l i).2.2.2.1, max (hiL l (lt l i)) (hiL l (rtt l i)) + 1)
def setLt (l : List Nd) (i v : Int) : List Nd := l.set i.toNat ((nth l i).1, (nth l i).2.1, v, (nth l i).2.2.2.1, (nth l i).2.2.2.2)
def setRt (l : List Nd) (i v : Int) : List Nd := l.set i.toNat ((nth l i).1, (nth l i).2.1, (nth l i).2.2.1, v, (nth l i).2.2.2.2)
def turnLL (l : List Nd) (i : Int) : List Nd × Int := (mendL (mendL (setLt (setRt l i (lt l (rtt l i))) (rtt l i) i) i) (rtt l i), rtt l i)
def turnRL (l : List Nd) (i : Int) : List Nd × Int := (mendL (mendL (setRt (setLt l i (rtt l (lt l i))) (lt l i) i) i) (lt l i), lt l i)
def leanL (l : List Nd) (i : Int) : Int := hiL l (lt l i) - hiL l (rtt l i)
def evenL (l : List Nd) (i : Int) : List Nd × Int :=
  if leanL (mendL l i) i > 1 then
    turnRL (if leanL (mendL l i) (lt (mendL l i) i) < 0 then setLt (turnLL (mendL l i) (lt (mendL l i) i)).1 i (turnLL (mendL l i) (lt (mendL l i) i)).2 else mendL l i) i
  else if leanL (mendL l i) i < -1 then
    turnLL (if leanL (mendL l i) (rtt (mendL l i) i) > 0 then setRt (turnRL (mendL l i) (rtt (mendL l i) i)).1 i (turnRL (mendL l i) (rtt (mendL l i) i)).2 else mendL l i) i
  else (mendL l i, i)
theorem nth_of {l : List Nd} {i : Nat} {x : Nd} (h : l[i]? = some x) : nth l (i : Int) = x := by
  simp [nth, List.getD_eq_getElem?_getD, h]
theorem hi_rep {l : List Nd} {t : Tr} (h : Rep l t) : hiL l t.rt = t.ht := by
  cases t with
  | e => simp [hiL, rt, ht]
  | n L i k R =>
    have e : (i : Int) ≠ -1 := by omega
    simp only [hiL, rt, if_neg e, nth_of h.1, ht]
theorem set_at {l : List Nd} {i : Nat} {x : Nd} (y : Nd) (h : l[i]? = some x) : (l.set i y)[i]? = some y := by
  rw [List.getElem?_set_self (List.getElem?_eq_some_iff.1 h).1]
theorem mend_at {l : List Nd} {i : Nat} {k : Key} {L R : Tr} {h0 : Int} (h : l[i]? = some (k.1, k.2, L.rt, R.rt, h0)) (hL : Rep l L) (hR : Rep l R) : (mendL l i)[i]? = some (k.1, k.2, L.rt, R.rt, max L.ht R.ht + 1) := by
  have e1 : lt l (i : Int) = L.rt := by rw [lt, nth_of h]
  have e2 : rtt l (i : Int) = R.rt := by rw [rtt, nth_of h]
  simp only [mendL, nth_of h, e1, e2, hi_rep hL, hi_rep hR, Int.toNat_natCast]
  exact set_at _ h
theorem mend_ne {l : List Nd} {i j : Nat} (h : j ≠ i) : (mendL l i)[j]? = l[j]? := by
  simp only [mendL, Int.toNat_natCast]
  exact List.getElem?_set_ne (Ne.symm h)
theorem setLt_at {l : List Nd} {i : Nat} {x : Nd} (v : Int) (h : l[i]? = some x) : (setLt l i v)[i]? = some (x.1, x.2.1, v, x.2.2.2.1, x.2.2.2.2) := by
  simp only [setLt, nth_of h, Int.toNat_natCast]; exact set_at _ h
theorem setLt_ne {l : List Nd} {i j : Nat} {v : Int} (h : j ≠ i) : (setLt l i v)[j]? = l[j]? := by
  simp only [setLt, Int.toNat_natCast]; exact List.getElem?_set_ne (Ne.symm h)
theorem setRt_at {l : List Nd} {i : Nat} {x : Nd} (v : Int) (h : l[i]? = some x) : (setRt l i v)[i]? = some (x.1, x.2.1, x.2.2.1, v, x.2.2.2.2) := by
  simp only [setRt, nth_of h, Int.toNat_natCast]; exact set_at _ h
theorem setRt_ne {l : List Nd} {i j : Nat} {v : Int} (h : j ≠ i) : (setRt l i v)[j]? = l[j]? := by
  simp only [setRt, Int.toNat_natCast]; exact List.getElem?_set_ne (Ne.symm h)
theorem mend_len (l : List Nd) (i : Int) : (mendL l i).length = l.length := by simp [mendL]
theorem setLt_len (l : List Nd) (i v : Int) : (setLt l i v).length = l.length := by simp [setLt]
theorem setRt_len (l : List Nd) (i v : Int) : (setRt l i v).length = l.length := by simp [setRt]
theorem turnL_len (l : List Nd) (i : Int) : (turnLL l i).1.length = l.length := by simp [turnLL, mend_len, setLt_len, setRt_len]
theorem turnR_len (l : List Nd) (i : Int) : (turnRL l i).1.length = l.length := by simp [turnRL, mend_len, setLt_len, setRt_len]
theorem even_len (l : List Nd) (i : Int) : (evenL l i).1.length = l.length := by
  unfold evenL; split
  · rw [turnR_len]; split <;> simp [setLt_len, turnL_len, mend_len]
  · split
    · rw [turnL_len]; split <;> simp [setRt_len, turnR_len, mend_len]
    · exact mend_len _ _
/-- A turn to the left. -/
theorem turnL_rep {l : List Nd} {A B C : Tr} {i j : Nat} {k m : Key} {h0 h1 : Int} (hi : l[i]? = some (k.1, k.2, A.rt, (j : Int), h0)) (hj : l[j]? = some (m.1, m.2, B.rt, C.rt, h1)) (hA : Rep l A) (hB : Rep l B) (hC : Rep l C)
    (hd : (A.ids ++ i :: (B.ids ++ j :: C.ids)).Nodup) : (turnLL l i).2 = j ∧ Rep (turnLL l i).1 (n (n A i k B) j m C) ∧ ∀ p, p ≠ i → p ≠ j → (turnLL l i).1[p]? = l[p]? := by
  simp only [List.nodup_append, List.nodup_cons, List.mem_append, List.mem_cons, not_or] at hd
  obtain ⟨dA, ⟨⟨iB, ij, iC⟩, dB, ⟨jC, dC⟩, dBC⟩, dA'⟩ := hd
  have er : rtt l (i : Int) = j := by rw [rtt, nth_of hi]
  have e1 : lt l (j : Int) = B.rt := by rw [lt, nth_of hj]
  have a1 := setRt_at B.rt hi
  have a2 : (setRt l i B.rt)[j]? = _ := (setRt_ne (Ne.symm ij)).trans hj
  have b2 := setLt_at (i : Int) a2
  have b1 : (setLt (setRt l i B.rt) j i)[i]? = _ := (setLt_ne ij).trans a1
  have fA : ∀ p ∈ A.ids, p ≠ i ∧ p ≠ j := fun p hp => ⟨fun e => dA' p hp i (.inl rfl) e, fun e => dA' p hp j (.inr (.inr (.inl rfl))) e⟩
  have fB : ∀ p ∈ B.ids, p ≠ i ∧ p ≠ j := fun p hp => ⟨fun e => iB (e ▸ hp), fun e => dBC p hp j (.inl rfl) e⟩
  have fC : ∀ p ∈ C.ids, p ≠ i ∧ p ≠ j := fun p hp => ⟨fun e => iC (e ▸ hp), fun e => jC (e ▸ hp)⟩
  have fr : ∀ p, p ≠ i → p ≠ j → (setLt (setRt l i B.rt) j i)[p]? = l[p]? := fun p h1 h2 => (setLt_ne h2).trans (setRt_ne h1)
  have gA : Rep (setLt (setRt l i B.rt) j i) A := hA.frame fun p hp => fr p (fA p hp).1 (fA p hp).2
  have gB : Rep (setLt (setRt l i B.rt) j i) B := hB.frame fun p hp => fr p (fB p hp).1 (fB p hp).2
  have gC : Rep (setLt (setRt l i B.rt) j i) C := hC.frame fun p hp => fr p (fC p hp).1 (fC p hp).2
  have c1 := mend_at b1 gA gB
  have kA : Rep (mendL (setLt (setRt l i B.rt) j i) i) A := gA.frame fun p hp => mend_ne (fA p hp).1
  have kB : Rep (mendL (setLt (setRt l i B.rt) j i) i) B := gB.frame fun p hp => mend_ne (fB p hp).1
  have kC : Rep (mendL (setLt (setRt l i B.rt) j i) i) C := gC.frame fun p hp => mend_ne (fC p hp).1
  have kI : Rep (mendL (setLt (setRt l i B.rt) j i) i) (n A i k B) := ⟨c1, kA, kB⟩
  have c2 : (mendL (setLt (setRt l i B.rt) j i) i)[j]? = some (m.1, m.2, (n A i k B).rt, C.rt, h1) := (mend_ne (Ne.symm ij)).trans b2
  have d := mend_at c2 kI kC
  have et : turnLL l i = (mendL (mendL (setLt (setRt l i B.rt) j i) i) j, (j : Int)) := by simp only [turnLL, er, e1]
  rw [et]
  have fI : ∀ p ∈ (n A i k B).ids, p ≠ j := fun p hp => by
    simp only [ids, List.mem_append, List.mem_cons] at hp
    rcases hp with hp | rfl | hp
    · exact (fA p hp).2
    · exact ij
    · exact (fB p hp).2
  exact ⟨rfl, ⟨d, kI.frame fun p hp => mend_ne (fI p hp), kC.frame fun p hp => mend_ne (fC p hp).2⟩, fun p h1 h2 => (mend_ne h2).trans ((mend_ne h1).trans (fr p h1 h2))⟩
/-- A turn to the right. -/
theorem turnR_rep {l : List Nd} {A B C : Tr} {i j : Nat} {k m : Key} {h0 h1 : Int} (hi : l[i]? = some (k.1, k.2, (j : Int), C.rt, h0)) (hj : l[j]? = some (m.1, m.2, A.rt, B.rt, h1)) (hA : Rep l A) (hB : Rep l B) (hC : Rep l C)
    (hd : ((A.ids ++ j :: B.ids) ++ i :: C.ids).Nodup) : (turnRL l i).2 = j ∧ Rep (turnRL l i).1 (n A j m (n B i k C)) ∧ ∀ p, p ≠ i → p ≠ j → (turnRL l i).1[p]? = l[p]? := by
  simp only [List.nodup_append, List.nodup_cons, List.mem_append, List.mem_cons] at hd
  obtain ⟨⟨dA, ⟨jB, dB⟩, dAB⟩, ⟨iC, dC⟩, dd⟩ := hd
  have ij : i ≠ j := fun e => dd j (.inr (.inl rfl)) i (.inl rfl) e.symm
  have er : lt l (i : Int) = j := by rw [lt, nth_of hi]
  have e1 : rtt l (j : Int) = B.rt := by rw [rtt, nth_of hj]
  have a1 := setLt_at B.rt hi
  have a2 : (setLt l i B.rt)[j]? = _ := (setLt_ne (Ne.symm ij)).trans hj
  have b2 := setRt_at (i : Int) a2
  have b1 : (setRt (setLt l i B.rt) j i)[i]? = _ := (setRt_ne ij).trans a1
  have fA : ∀ p ∈ A.ids, p ≠ i ∧ p ≠ j := fun p hp => ⟨fun e => dd p (.inl hp) i (.inl rfl) e, fun e => dAB p hp j (.inl rfl) e⟩
  have fB : ∀ p ∈ B.ids, p ≠ i ∧ p ≠ j := fun p hp => ⟨fun e => dd p (.inr (.inr hp)) i (.inl rfl) e, fun e => jB (e ▸ hp)⟩
  have fC : ∀ p ∈ C.ids, p ≠ i ∧ p ≠ j := fun p hp => ⟨fun e => iC (e ▸ hp), fun e => dd j (.inr (.inl rfl)) p (.inr hp) e.symm⟩
  have fr : ∀ p, p ≠ i → p ≠ j → (setRt (setLt l i B.rt) j i)[p]? = l[p]? := fun p h1 h2 => (setRt_ne h2).trans (setLt_ne h1)
  have gA : Rep (setRt (setLt l i B.rt) j i) A := hA.frame fun p hp => fr p (fA p hp).1 (fA p hp).2
  have gB : Rep (setRt (setLt l i B.rt) j i) B := hB.frame fun p hp => fr p (fB p hp).1 (fB p hp).2
  have gC : Rep (setRt (setLt l i B.rt) j i) C := hC.frame fun p hp => fr p (fC p hp).1 (fC p hp).2
  have c1 := mend_at b1 gB gC
  have kA : Rep (mendL (setRt (setLt l i B.rt) j i) i) A := gA.frame fun p hp => mend_ne (fA p hp).1
  have kB : Rep (mendL (setRt (setLt l i B.rt) j i) i) B := gB.frame fun p hp => mend_ne (fB p hp).1
  have kC : Rep (mendL (setRt (setLt l i B.rt) j i) i) C := gC.frame fun p hp => mend_ne (fC p hp).1
  have kI : Rep (mendL (setRt (setLt l i B.rt) j i) i) (n B i k C) := ⟨c1, kB, kC⟩
  have c2 : (mendL (setRt (setLt l i B.rt) j i) i)[j]? = some (m.1, m.2, A.rt, (n B i k C).rt, h1) := (mend_ne (Ne.symm ij)).trans b2
  have d := mend_at c2 kA kI
  have et : turnRL l i = (mendL (mendL (setRt (setLt l i B.rt) j i) i) j, (j : Int)) := by simp only [turnRL, er, e1]
  rw [et]
  have fI : ∀ p ∈ (n B i k C).ids, p ≠ j := fun p hp => by
    simp only [ids, List.mem_append, List.mem_cons] at hp
    rcases hp with hp | rfl | hp
    · exact (fB p hp).2
    · exact ij
    · exact (fC p hp).2
  exact ⟨rfl, ⟨d, kA.frame fun p hp => mend_ne (fA p hp).2, kI.frame fun p hp => mend_ne (fI p hp)⟩, fun p h1 h2 => (mend_ne h2).trans ((mend_ne h1).trans (fr p h1 h2))⟩
/-- Evened, it is even, and what it was. -/
structure Evn (l l' : List Nd) (r : Int) (L : Tr) (i : Nat) (k : Key) (R T : Tr) : Prop where
  root : r = T.rt
  rep : Rep l' T
  avl : T.avl
  ino : T.ino = L.ino ++ k :: R.ino
  ids : T.ids = L.ids ++ i :: R.ids
  fr : ∀ p, p ∉ L.ids ++ i :: R.ids → l'[p]? = l[p]?
  lo : max L.ht R.ht ≤ T.ht
  hi : T.ht ≤ max L.ht R.ht + 1
  st : L.ht ≤ R.ht + 1 → R.ht ≤ L.ht + 1 → T.ht = max L.ht R.ht + 1
theorem even_rep {l : List Nd} {L R : Tr} {i : Nat} {k : Key} {h0 : Int} (hi : l[i]? = some (k.1, k.2, L.rt, R.rt, h0)) (hL : Rep l L) (hR : Rep l R) (aL : L.avl) (aR : R.avl) (hd : (L.ids ++ i :: R.ids).Nodup)
    (h1 : L.ht ≤ R.ht + 2) (h2 : R.ht ≤ L.ht + 2) : ∃ T, Evn l (evenL l i).1 (evenL l i).2 L i k R T := by
  have hd0 := hd
  simp only [List.nodup_append, List.nodup_cons, List.mem_cons] at hd
  obtain ⟨dL, ⟨iR, dR⟩, dd⟩ := hd
  have iL : i ∉ L.ids := fun hp => dd i hp i (.inl rfl) rfl
  have m1 := mend_at hi hL hR
  have mf : ∀ p, p ≠ i → (mendL l i)[p]? = l[p]? := fun p hp => mend_ne hp
  have gL : Rep (mendL l i) L := hL.frame fun p hp => mf p fun e => iL (e ▸ hp)
  have gR : Rep (mendL l i) R := hR.frame fun p hp => mf p fun e => iR (e ▸ hp)
  have el : lt (mendL l i) (i : Int) = L.rt := by rw [lt, nth_of m1]
  have er : rtt (mendL l i) (i : Int) = R.rt := by rw [rtt, nth_of m1]
  have en : leanL (mendL l i) i = L.ht - R.ht := by rw [leanL, el, er, hi_rep gL, hi_rep gR]
  by_cases c1 : L.ht - R.ht > 1
  · have hR0 := R.ht_nn
    obtain ⟨a, j, m, b, hLn⟩ := ht_pos (t := L) (by omega)
    subst hLn
    have gj := gL.1
    have eln : leanL (mendL l i) (j : Int) = a.ht - b.ht := by rw [leanL, lt, rtt, nth_of gj]; exact congr (congrArg _ (hi_rep gL.2.1)) (hi_rep gL.2.2)
    have hj' : (n a j m b).rt = (j : Int) := rfl
    rw [hj'] at el
    obtain ⟨aa, ab, a1, a2⟩ := aL
    simp only [ht] at h1 h2 c1
    by_cases c2 : a.ht - b.ht < 0
    · have ha0 := a.ht_nn
      obtain ⟨b1, x, y, b2, hb⟩ := ht_pos (t := b) (by omega)
      subst hb
      have gb := gL.2.2
      have hn1 : (a.ids ++ j :: (b1.ids ++ x :: b2.ids)).Nodup := dL
      obtain ⟨t2, tr, tf⟩ := turnL_rep (A := a) (B := b1) (C := b2) (i := j) (j := x) (k := m) (m := y) gj gb.1 gL.2.1 gb.2.1 gb.2.2 hn1
      have xi : x ≠ i := fun e => iL (by rw [← e]; simp [ids])
      have ji : j ≠ i := fun e => iL (by rw [← e]; simp [ids])
      have u1 : (turnLL (mendL l i) j).1[i]? = _ := (tf i (Ne.symm ji) (Ne.symm xi)).trans m1
      have u2 := setLt_at ((x : Nat) : Int) u1
      have ids1 : ∀ p, p ∈ (n (n a j m b1) x y b2).ids → p ≠ i := fun p hp e => iL (by rw [← e]; simp only [ids, List.append_assoc, List.cons_append] at hp ⊢; exact hp)
      have v1 : Rep (setLt (turnLL (mendL l i) j).1 i x) (n (n a j m b1) x y b2) := tr.frame fun p hp => setLt_ne (ids1 p hp)
      have v2 : Rep (setLt (turnLL (mendL l i) j).1 i x) R := gR.frame fun p hp => (setLt_ne (show p ≠ i from fun e => iR (e ▸ hp))).trans (tf p (fun e => dd j (by simp [ids]) p (.inr hp) e.symm) (fun e => dd x (by simp [ids]) p (.inr hp) e.symm))
      have hn2 : (((n a j m b1).ids ++ x :: b2.ids) ++ i :: R.ids).Nodup := by simp only [ids, List.append_assoc, List.cons_append] at hd0 ⊢; exact hd0
      obtain ⟨w2, wr, wf⟩ := turnR_rep (A := n a j m b1) (B := b2) (C := R) (i := i) (j := x) (k := k) (m := y) u2 v1.1 v1.2.1 v1.2.2 v2 hn2
      simp only [avl, ht] at ab a1 a2 c1 c2 h1 h2
      have ee : evenL l i = turnRL (setLt (turnLL (mendL l i) j).1 i x) i := by
        rw [evenL, if_pos (by rw [en]; simp only [ht]; omega), el, if_pos (by rw [eln]; simp only [ht]; omega), t2]
      refine ⟨n (n a j m b1) x y (n b2 i k R), ?_⟩
      rw [ee]
      refine ⟨w2, wr, ?_, by simp [ino], by simp [ids], fun p hp => ?_, ?_, ?_, ?_⟩
      · simp only [avl, ht]; refine ⟨⟨aa, ab.1, ?_, ?_⟩, ⟨ab.2.1, aR, ?_, ?_⟩, ?_, ?_⟩ <;> omega
      · simp only [ids, List.mem_append, List.mem_cons, not_or] at hp
        obtain ⟨⟨p1, p2, p3, p4, p5⟩, p6, p7⟩ := hp
        rw [wf p p6 p4, setLt_ne p6, tf p p2 p4, mf p p6]
      · simp only [ht]; omega
      · simp only [ht]; omega
      · simp only [ht]; omega
    · obtain ⟨w2, wr, wf⟩ := turnR_rep (A := a) (B := b) (C := R) (i := i) (j := j) (k := k) (m := m) m1 gj gL.2.1 gL.2.2 gR hd0
      have ee : evenL l i = turnRL (mendL l i) i := by
        rw [evenL, if_pos (by rw [en]; simp only [ht]; omega), el, if_neg (by rw [eln]; exact c2)]
      refine ⟨n a j m (n b i k R), ?_⟩
      rw [ee]
      refine ⟨w2, wr, ?_, by simp [ino], by simp [ids], fun p hp => ?_, ?_, ?_, ?_⟩
      · simp only [avl, ht]; refine ⟨aa, ⟨ab, aR, ?_, ?_⟩, ?_, ?_⟩ <;> omega
      · simp only [ids, List.mem_append, List.mem_cons, not_or] at hp
        obtain ⟨⟨p1, p2, p3⟩, p6, p7⟩ := hp
        rw [wf p p6 p2, mf p p6]
      · simp only [ht]; omega
      · simp only [ht]; omega
      · simp only [ht]; omega
  · by_cases c3 : L.ht - R.ht < -1
    · have hL0 := L.ht_nn
      obtain ⟨a, j, m, b, hRn⟩ := ht_pos (t := R) (by omega)
      subst hRn
      have gj := gR.1
      have eln : leanL (mendL l i) (j : Int) = a.ht - b.ht := by rw [leanL, lt, rtt, nth_of gj]; exact congr (congrArg _ (hi_rep gR.2.1)) (hi_rep gR.2.2)
      have hj' : (n a j m b).rt = (j : Int) := rfl
      rw [hj'] at er
      obtain ⟨aa, ab, a1, a2⟩ := aR
      simp only [ht] at h1 h2 c3
      by_cases c2 : a.ht - b.ht > 0
      · have hb0 := b.ht_nn
        obtain ⟨b1, x, y, b2, hb⟩ := ht_pos (t := a) (by omega)
        subst hb
        have gb := gR.2.1
        have hn1 : ((b1.ids ++ x :: b2.ids) ++ j :: b.ids).Nodup := dR
        obtain ⟨t2, tr, tf⟩ := turnR_rep (A := b1) (B := b2) (C := b) (i := j) (j := x) (k := m) (m := y) gj gb.1 gb.2.1 gb.2.2 gR.2.2 hn1
        have xi : x ≠ i := fun e => iR (by rw [← e]; simp [ids])
        have ji : j ≠ i := fun e => iR (by rw [← e]; simp [ids])
        have u1 : (turnRL (mendL l i) j).1[i]? = _ := (tf i (Ne.symm ji) (Ne.symm xi)).trans m1
        have u2 := setRt_at ((x : Nat) : Int) u1
        have ids1 : ∀ p, p ∈ (n b1 x y (n b2 j m b)).ids → p ≠ i := fun p hp e => iR (by rw [← e]; simp only [ids, List.append_assoc, List.cons_append] at hp ⊢; exact hp)
        have v1 : Rep (setRt (turnRL (mendL l i) j).1 i x) (n b1 x y (n b2 j m b)) := tr.frame fun p hp => setRt_ne (ids1 p hp)
        have v2 : Rep (setRt (turnRL (mendL l i) j).1 i x) L := gL.frame fun p hp => (setRt_ne (show p ≠ i from fun e => iL (e ▸ hp))).trans (tf p (fun e => dd p hp j (.inr (by simp [ids])) e) (fun e => dd p hp x (.inr (by simp [ids])) e))
        have hn2 : (L.ids ++ i :: (b1.ids ++ x :: (n b2 j m b).ids)).Nodup := by simp only [ids, List.append_assoc, List.cons_append] at hd0 ⊢; exact hd0
        obtain ⟨w2, wr, wf⟩ := turnL_rep (A := L) (B := b1) (C := n b2 j m b) (i := i) (j := x) (k := k) (m := y) u2 v1.1 v2 v1.2.1 v1.2.2 hn2
        simp only [avl, ht] at aa a1 a2 c3 c2 h1 h2
        have ee : evenL l i = turnLL (setRt (turnRL (mendL l i) j).1 i x) i := by
          rw [evenL, if_neg (by rw [en]; simp only [ht]; omega), if_pos (by rw [en]; simp only [ht]; omega), er, if_pos (by rw [eln]; simp only [ht]; omega), t2]
        refine ⟨n (n L i k b1) x y (n b2 j m b), ?_⟩
        rw [ee]
        refine ⟨w2, wr, ?_, by simp [ino], by simp [ids], fun p hp => ?_, ?_, ?_, ?_⟩
        · simp only [avl, ht]; refine ⟨⟨aL, aa.1, ?_, ?_⟩, ⟨aa.2.1, ab, ?_, ?_⟩, ?_, ?_⟩ <;> omega
        · simp only [ids, List.mem_append, List.mem_cons, not_or] at hp
          obtain ⟨p1, p2, ⟨p3, p4, p5⟩, p6, p7⟩ := hp
          rw [wf p p2 p4, setRt_ne p2, tf p p6 p4, mf p p2]
        · simp only [ht]; omega
        · simp only [ht]; omega
        · simp only [ht]; omega
      · obtain ⟨w2, wr, wf⟩ := turnL_rep (A := L) (B := a) (C := b) (i := i) (j := j) (k := k) (m := m) m1 gj gL gR.2.1 gR.2.2 hd0
        have ee : evenL l i = turnLL (mendL l i) i := by
          rw [evenL, if_neg (by rw [en]; simp only [ht]; omega), if_pos (by rw [en]; simp only [ht]; omega), er, if_neg (by rw [eln]; exact c2)]
        refine ⟨n (n L i k a) j m b, ?_⟩
        rw [ee]
        refine ⟨w2, wr, ?_, by simp [ino], by simp [ids], fun p hp => ?_, ?_, ?_, ?_⟩
        · simp only [avl, ht]; refine ⟨⟨aL, aa, ?_, ?_⟩, ab, ?_, ?_⟩ <;> omega
        · simp only [ids, List.mem_append, List.mem_cons, not_or] at hp
          obtain ⟨p1, p2, p3, p4, p5⟩ := hp
          rw [wf p p2 p4, mf p p2]
        · simp only [ht]; omega
        · simp only [ht]; omega
        · simp only [ht]; omega
    · have ee : evenL l i = (mendL l i, (i : Int)) := by rw [evenL, if_neg (by rw [en]; exact c1), if_neg (by rw [en]; exact c3)]
      refine ⟨n L i k R, ?_⟩
      rw [ee]
      refine ⟨rfl, ⟨m1, gL, gR⟩, ⟨aL, aR, by omega, by omega⟩, rfl, rfl, fun p hp => mf p fun e => hp (by rw [e]; simp), ?_, ?_, ?_⟩
      · show _ ≤ max L.ht R.ht + 1; omega
      · exact Int.le_refl _
      · intro _ _; rfl
end Tree

namespace Tree
open Tr
/-- A step of a way down. -/
inductive Stp where
  | L (i : Nat) (k : Key) (r : Tr)
  | R (l : Tr) (i : Nat) (k : Key)
def Stp.i : Stp → Nat
  | .L i _ _ => i
  | .R _ i _ => i
def Stp.put : Stp → Tr → Tr
  | .L i k r, t => n t i k r
  | .R l i k, t => n l i k t
def fill : Tr → List Stp → Tr
  | t, [] => t
  | t, f :: c => fill (f.put t) c
def lc : List Stp → List Nat
  | [] => []
  | .L _ _ _ :: c => lc c
  | .R l i _ :: c => lc c ++ l.ids ++ [i]
def rc : List Stp → List Nat
  | [] => []
  | .L i _ r :: c => i :: (r.ids ++ rc c)
  | .R _ _ _ :: c => rc c
def lk : List Stp → List Key
  | [] => []
  | .L _ _ _ :: c => lk c
  | .R l _ k :: c => lk c ++ l.ino ++ [k]
def rk : List Stp → List Key
  | [] => []
  | .L _ k r :: c => k :: (r.ino ++ rk c)
  | .R _ _ _ :: c => rk c
theorem fill_ids : ∀ (c : List Stp) (t : Tr), (fill t c).ids = lc c ++ t.ids ++ rc c
  | [], t => by simp [fill, lc, rc]
  | .L i k r :: c, t => by rw [fill, fill_ids c]; simp [Stp.put, ids, lc, rc]
  | .R l i k :: c, t => by rw [fill, fill_ids c]; simp [Stp.put, ids, lc, rc]
theorem fill_ino : ∀ (c : List Stp) (t : Tr), (fill t c).ino = lk c ++ t.ino ++ rk c
  | [], t => by simp [fill, lk, rk]
  | .L i k r :: c, t => by rw [fill, fill_ino c]; simp [Stp.put, ino, lk, rk]
  | .R l i k :: c, t => by rw [fill, fill_ino c]; simp [Stp.put, ino, lk, rk]
theorem fill_avl : ∀ {c : List Stp} {t : Tr}, (fill t c).avl → t.avl
  | [], _, h => h
  | .L i k r :: c, t, h => (fill_avl (c := c) h).1
  | .R l i k :: c, t, h => (fill_avl (c := c) h).2.1
/-- What a list has beside a hole. -/
def RepC (l : List Nd) : Int → List Stp → Prop
  | _, [] => True
  | hole, .L i k r :: c => (∃ h, l[i]? = some (k.1, k.2, hole, r.rt, h)) ∧ Rep l r ∧ RepC l i c
  | hole, .R s i k :: c => (∃ h, l[i]? = some (k.1, k.2, s.rt, hole, h)) ∧ Rep l s ∧ RepC l i c
theorem rep_fill {l : List Nd} : ∀ {c : List Stp} {t : Tr}, Rep l (fill t c) → Rep l t ∧ RepC l t.rt c
  | [], _, h => ⟨h, trivial⟩
  | .L i k r :: c, t, h => by
    obtain ⟨⟨h1, h2, h3⟩, h4⟩ := rep_fill (c := c) h
    exact ⟨h2, ⟨_, h1⟩, h3, h4⟩
  | .R s i k :: c, t, h => by
    obtain ⟨⟨h1, h2, h3⟩, h4⟩ := rep_fill (c := c) h
    exact ⟨h3, ⟨_, h1⟩, h2, h4⟩
theorem RepC.frame {l l' : List Nd} : ∀ {c : List Stp} {hole : Int}, RepC l hole c → (∀ j, j ∈ lc c ∨ j ∈ rc c → l'[j]? = l[j]?) → RepC l' hole c
  | [], _, _, _ => trivial
  | .L i k r :: c, hole, ⟨⟨h, h1⟩, h2, h3⟩, hf => ⟨⟨h, by rw [hf i (.inr (by simp [rc]))]; exact h1⟩, h2.frame fun j hj => hf j (.inr (by simp [rc, hj])), h3.frame fun j hj => hf j (hj.imp (fun x => x) fun x => by simp [rc, x])⟩
  | .R s i k :: c, hole, ⟨⟨h, h1⟩, h2, h3⟩, hf => ⟨⟨h, by rw [hf i (.inl (by simp [lc]))]; exact h1⟩, h2.frame fun j hj => hf j (.inl (by simp [lc, hj])), h3.frame fun j hj => hf j (hj.imp (fun x => by simp [lc, x]) fun x => x)⟩
def nE : Tr → Bool
  | .e => false
  | .n _ _ _ _ => true
/-- Up along a way, evening: was stands where i is to stand. -/
def dropL (l : List Nd) (was i : Int) : List Int → List Nd × Int
  | [] => (l, i)
  | up :: c => let l1 := if lt l up = was then setLt l up i else setRt l up i
    dropL (evenL l1 up).1 up (evenL l1 up).2 c
def keyL (l : List Nd) (i : Int) : Key := ((nth l i).1, (nth l i).2.1)
def hangL (l : List Nd) (was i : Int) : List Int → List Nd × Int
  | [] => (l, i)
  | up :: c => let l1 := if lt l up = was ∧ (was ≠ -1 ∨ klt (keyL l i) (keyL l up) = true) then setLt l up i else setRt l up i
    hangL (evenL l1 up).1 up (evenL l1 up).2 c
theorem hang_drop : ∀ (c : List Int) (l : List Nd) (was i : Int), was ≠ -1 → (∀ x ∈ c, x ≠ -1) → hangL l was i c = dropL l was i c
  | [], l, was, i, _, _ => rfl
  | up :: c, l, was, i, h, hc => by
    simp only [hangL, dropL, h, ne_eq, not_false_eq_true, true_or, and_true]
    exact hang_drop c _ _ _ (hc up (by simp)) fun x hx => hc x (by simp [hx])
theorem dropL_len : ∀ (c : List Int) (l : List Nd) (was i : Int), (dropL l was i c).1.length = l.length
  | [], l, was, i => rfl
  | up :: c, l, was, i => by
    simp only [dropL]
    rw [dropL_len c, even_len]; split <;> simp [setLt_len, setRt_len]
theorem hangL_len : ∀ (c : List Int) (l : List Nd) (was i : Int), (hangL l was i c).1.length = l.length
  | [], l, was, i => rfl
  | up :: c, l, was, i => by
    simp only [hangL]
    rw [hangL_len c, even_len]; split <;> simp [setLt_len, setRt_len]
def way (c : List Stp) : List Int := c.map fun f => (f.i : Int)
structure Mov (l l' : List Nd) (r : Int) (s : Tr) (c : List Stp) (T : Tr) : Prop where
  root : r = T.rt
  rep : Rep l' T
  avl : T.avl
  ino : T.ino = lk c ++ s.ino ++ rk c
  ids : T.ids = lc c ++ s.ids ++ rc c
  fr : ∀ p, p ∉ lc c ++ s.ids ++ rc c → l'[p]? = l[p]?
/-- One tree is put where another one stood, that was as high, or one higher or lower: all above are evened. Where it is put is known: by its place, or (if it is new) by its key. -/
def Knw (t s : Tr) (c : List Stp) (was : Int) : Prop := (∃ w : Nat, was = w ∧ t.rt = w) ∨ (was = -1 ∧ t = .e ∧ ∃ i k, s = .n .e i k .e ∧ (∀ m ∈ lk c, klt m k = true) ∧ ∀ m ∈ rk c, klt k m = true)
theorem hang_rep : ∀ (c : List Stp) (l : List Nd) (t s : Tr) (was : Int), Knw t s c was → RepC l was c → Rep l s → (fill t c).avl → s.avl → s.ht ≤ t.ht + 1 → t.ht ≤ s.ht + 1 → (lc c ++ t.ids ++ rc c).Nodup → (lc c ++ s.ids ++ rc c).Nodup →
    ∃ T, Mov l (hangL l was s.rt (way c)).1 (hangL l was s.rt (way c)).2 s c T
  | [], l, t, s, was, _, _, hs, _, as, _, _, _, _ => ⟨s, rfl, hs, as, by simp [lk, rk], by simp [lc, rc], fun p hp => rfl⟩
  | .L i k r :: c, l, t, s, was, hw, ⟨⟨h0, hi⟩, hr, hc⟩, hs, ha, as, g1, g2, d1, d2 => by
    have hv := fill_avl (c := c) (t := n t i k r) ha
    have e1 : lt l (i : Int) = was ∧ (was ≠ -1 ∨ klt (keyL l s.rt) (keyL l i) = true) := by
      refine ⟨by rw [lt, nth_of hi], ?_⟩
      rcases hw with ⟨w, rfl, _⟩ | ⟨_, _, j, k', rfl, _, hk⟩
      · left; omega
      · right
        have e2 : keyL l (i : Int) = k := by rw [keyL, nth_of hi]
        have e3 : keyL l (n e j k' e).rt = k' := by
          show keyL l (j : Int) = k'
          rw [keyL, nth_of hs.1]
        rw [e2, e3]; exact hk k (by simp [rk])
    have d2' := d2
    simp only [lc, rc, List.nodup_append, List.nodup_cons, List.mem_append, List.mem_cons, not_or] at d2
    obtain ⟨⟨dl, ds, dls⟩, ⟨⟨ir, ic⟩, dr, dc, drc⟩, dd⟩ := d2
    have is : i ∉ s.ids := fun hx => dd i (.inr hx) i (.inl rfl) rfl
    have il : i ∉ lc c := fun hx => dd i (.inl hx) i (.inl rfl) rfl
    have a1 := setLt_at s.rt hi
    have fs : Rep (setLt l i s.rt) s := hs.frame fun p hp => setLt_ne (show p ≠ i from fun e => is (e ▸ hp))
    have fr : Rep (setLt l i s.rt) r := hr.frame fun p hp => setLt_ne (show p ≠ i from fun e => ir (e ▸ hp))
    have hn : (s.ids ++ i :: r.ids).Nodup := by
      rw [List.nodup_append, List.nodup_cons]
      refine ⟨ds, ⟨ir, dr⟩, fun a ha b hb => dd a (.inr ha) b ?_⟩
      rw [List.mem_cons] at hb
      exact hb.imp (fun x => x) .inl
    obtain ⟨T, ev⟩ := even_rep (k := k) a1 fs fr as hv.2.1 hn (by have := hv.2.2; omega) (by have := hv.2.2; omega)
    have fc : RepC (evenL (setLt l i s.rt) i).1 i c := hc.frame fun j hj => by
      have ne : j ∉ s.ids ++ i :: r.ids := fun hx => by
        rw [List.mem_append, List.mem_cons] at hx
        rcases hx with hx | rfl | hx
        · rcases hj with hj | hj
          · exact dls j hj j hx rfl
          · exact dd j (.inr hx) j (.inr (.inr hj)) rfl
        · exact hj.elim il ic
        · rcases hj with hj | hj
          · exact dd j (.inl hj) j (.inr (.inl hx)) rfl
          · exact drc j hx j hj rfl
      rw [ev.fr j ne]
      exact setLt_ne (show j ≠ i from fun e => ne (by rw [e]; simp))
    have r1 := ev.root
    obtain ⟨lo, hi', st⟩ := (⟨ev.lo, ev.hi, ev.st⟩ : _ ∧ _ ∧ _)
    have av := hv.2.2
    obtain ⟨T', mv⟩ := hang_rep c (evenL (setLt l i s.rt) i).1 (n t i k r) T i (.inl ⟨i, rfl, rfl⟩) fc ev.rep ha ev.avl (by simp only [ht]; omega) (by simp only [ht]; omega)
      (by simpa [lc, rc, ids] using d1) (by rw [ev.ids]; simpa [lc, rc] using d2')
    refine ⟨T', ?_⟩
    have e2 : hangL l was s.rt (way (.L i k r :: c)) = hangL (evenL (setLt l i s.rt) i).1 i T.rt (way c) := by
      simp only [way, List.map_cons, Stp.i, hangL, if_pos e1]
      rw [r1]
    rw [e2]
    refine ⟨mv.root, mv.rep, mv.avl, by rw [mv.ino, ev.ino]; simp [lk, rk], by rw [mv.ids, ev.ids]; simp [lc, rc], fun p hp => ?_⟩
    have hp2 : p ∉ lc c ++ T.ids ++ rc c := by rw [ev.ids]; simpa [lc, rc] using hp
    have hp3 : p ∉ s.ids ++ i :: r.ids := fun hx => hp (by
      simp only [List.mem_append, List.mem_cons, lc, rc] at hx ⊢
      rcases hx with hx | hx | hx
      · exact .inl (.inr hx)
      · exact .inr (.inl hx)
      · exact .inr (.inr (.inl hx)))
    rw [mv.fr p hp2, ev.fr p hp3]
    exact setLt_ne (show p ≠ i from fun e => hp3 (by rw [e]; simp))
  | .R q i k :: c, l, t, s, was, hw, ⟨⟨h0, hi⟩, hr, hc⟩, hs, ha, as, g1, g2, d1, d2 => by
    have hv := fill_avl (c := c) (t := n q i k t) ha
    have e1 : ¬ (lt l (i : Int) = was ∧ (was ≠ -1 ∨ klt (keyL l s.rt) (keyL l i) = true)) := by
      rintro ⟨e, e0⟩
      rw [lt, nth_of hi] at e
      rcases hw with ⟨w, rfl, hw⟩ | ⟨h1, _, j, k', rfl, hk, _⟩
      · have m1 := rt_mem (t := q) (i := w) e
        have m2 := rt_mem (t := t) hw
        simp only [lc, List.nodup_append] at d1
        exact d1.1.2.2 w (by simp [m1]) w m2 rfl
      · rcases e0 with e0 | e0
        · exact e0 h1
        · have e2 : keyL l (i : Int) = k := by rw [keyL, nth_of hi]
          have e3 : keyL l (n Tr.e j k' Tr.e).rt = k' := by
            show keyL l (j : Int) = k'
            rw [keyL, nth_of hs.1]
          rw [e2, e3, klt_asym (hk k (by simp [lk]))] at e0; cases e0
    have d2' := d2
    simp only [lc, rc, List.nodup_append, List.nodup_cons, List.mem_append, List.mem_cons, List.mem_singleton, not_or, List.not_mem_nil, not_false_eq_true, or_false, List.nodup_nil, and_true, true_and] at d2
    obtain ⟨⟨⟨⟨dl, dq, dlq⟩, di⟩, ds, dls⟩, dr, dd⟩ := d2
    have is : i ∉ s.ids := fun hx => dls i (.inr rfl) i hx rfl
    have iq : i ∉ q.ids := fun hx => di i (.inr hx) i rfl rfl
    have il : i ∉ lc c := fun hx => di i (.inl hx) i rfl rfl
    have ic : i ∉ rc c := fun hx => dd i (.inl (.inr rfl)) i hx rfl
    have a1 := setRt_at s.rt hi
    have fs : Rep (setRt l i s.rt) s := hs.frame fun p hp => setRt_ne (show p ≠ i from fun e => is (e ▸ hp))
    have fr : Rep (setRt l i s.rt) q := hr.frame fun p hp => setRt_ne (show p ≠ i from fun e => iq (e ▸ hp))
    have hn : (q.ids ++ i :: s.ids).Nodup := by
      rw [List.nodup_append, List.nodup_cons]
      refine ⟨dq, ⟨is, ds⟩, fun a hx b hb => ?_⟩
      rw [List.mem_cons] at hb
      rcases hb with rfl | hb
      · exact di a (.inr hx) b rfl
      · exact dls a (.inl (.inr hx)) b hb
    obtain ⟨T, ev⟩ := even_rep (k := k) a1 fr fs hv.1 as hn (by have := hv.2.2; omega) (by have := hv.2.2; omega)
    have fc : RepC (evenL (setRt l i s.rt) i).1 i c := hc.frame fun j hj => by
      have ne : j ∉ q.ids ++ i :: s.ids := fun hx => by
        rw [List.mem_append, List.mem_cons] at hx
        rcases hx with hx | rfl | hx
        · rcases hj with hj | hj
          · exact dlq j hj j hx rfl
          · exact dd j (.inl (.inl (.inr hx))) j hj rfl
        · exact hj.elim il ic
        · rcases hj with hj | hj
          · exact dls j (.inl (.inl hj)) j hx rfl
          · exact dd j (.inr hx) j hj rfl
      rw [ev.fr j ne]
      exact setRt_ne (show j ≠ i from fun e => ne (by rw [e]; simp))
    have r1 := ev.root
    obtain ⟨lo, hi', st⟩ := (⟨ev.lo, ev.hi, ev.st⟩ : _ ∧ _ ∧ _)
    have av := hv.2.2
    obtain ⟨T', mv⟩ := hang_rep c (evenL (setRt l i s.rt) i).1 (n q i k t) T i (.inl ⟨i, rfl, rfl⟩) fc ev.rep ha ev.avl (by simp only [ht]; omega) (by simp only [ht]; omega)
      (by simpa [lc, rc, ids] using d1) (by rw [ev.ids]; simpa [lc, rc] using d2')
    refine ⟨T', ?_⟩
    have e2 : hangL l was s.rt (way (.R q i k :: c)) = hangL (evenL (setRt l i s.rt) i).1 i T.rt (way c) := by
      simp only [way, List.map_cons, Stp.i, hangL, if_neg e1]
      rw [r1]
    rw [e2]
    refine ⟨mv.root, mv.rep, mv.avl, by rw [mv.ino, ev.ino]; simp [lk, rk], by rw [mv.ids, ev.ids]; simp [lc, rc], fun p hp => ?_⟩
    have hp2 : p ∉ lc c ++ T.ids ++ rc c := by rw [ev.ids]; simpa [lc, rc] using hp
    have hp3 : p ∉ q.ids ++ i :: s.ids := fun hx => hp (by
      simp only [List.mem_append, List.mem_cons, lc, rc, List.mem_singleton] at hx ⊢
      rcases hx with hx | hx | hx
      · exact .inl (.inl (.inl (.inr hx)))
      · exact .inl (.inl (.inr (.inl hx)))
      · exact .inl (.inr hx))
    rw [mv.fr p hp2, ev.fr p hp3]
    exact setRt_ne (show p ≠ i from fun e => hp3 (by rw [e]; simp))
/-- The way down to a key. -/
def find (k : Key) : Tr → List Stp → Tr × List Stp
  | .e, c => (.e, c)
  | .n l i m r, c => if klt k m then find k l (.L i m r :: c) else if k = m then (.n l i m r, c) else find k r (.R l i m :: c)
theorem way_nn (c : List Stp) : ∀ x ∈ way c, x ≠ -1 := by
  intro x hx
  obtain ⟨f, _, rfl⟩ := List.mem_map.1 hx
  omega
theorem find_fill (k : Key) : ∀ (t : Tr) (c : List Stp), fill (find k t c).1 (find k t c).2 = fill t c
  | .e, c => rfl
  | .n l i m r, c => by
    unfold find; split
    · rw [find_fill k l]; rfl
    · split
      · rfl
      · rw [find_fill k r]; rfl
def Srt (l : List Key) : Prop := l.Pairwise fun a b => klt a b = true
theorem find_lt (k : Key) : ∀ (t : Tr) (c : List Stp), Srt t.ino → (∀ m ∈ lk c, klt m k = true) → (∀ m ∈ rk c, klt k m = true) →
    (∀ m ∈ lk (find k t c).2, klt m k = true) ∧ (∀ m ∈ rk (find k t c).2, klt k m = true) ∧ ((find k t c).1 = .e ∨ ∃ l i r, (find k t c).1 = .n l i k r)
  | .e, c, _, h1, h2 => ⟨h1, h2, .inl rfl⟩
  | .n l i m r, c, hs, h1, h2 => by
    simp only [ino, Srt, List.pairwise_append, List.pairwise_cons] at hs
    obtain ⟨s1, ⟨s2, s3⟩, s4⟩ := hs
    unfold find
    by_cases c1 : klt k m = true
    · rw [if_pos c1]
      refine find_lt k l _ s1 h1 fun x hx => ?_
      simp only [rk, List.mem_cons, List.mem_append] at hx
      rcases hx with rfl | hx | hx
      · exact c1
      · exact klt_trans c1 (s2 x hx)
      · exact h2 x hx
    · rw [if_neg c1]
      by_cases c2 : k = m
      · rw [if_pos c2]
        exact ⟨h1, h2, .inr ⟨l, i, r, by rw [c2]⟩⟩
      · rw [if_neg c2]
        have c3 := klt_tot (by simpa using c1) c2
        refine find_lt k r _ s3 (fun x hx => ?_) h2
        simp only [lk, List.mem_append, List.mem_singleton] at hx
        rcases hx with (hx | hx) | rfl
        · exact h1 x hx
        · exact klt_trans (s4 x hx m (by simp)) c3
        · exact c3
/-- The way down to the least one of a tree. -/
def leastC : Tr → List Stp → Tr × List Stp
  | .e, c => (.e, c)
  | .n .e i m r, c => (.n .e i m r, c)
  | .n (.n a j x b) i m r, c => leastC (.n a j x b) (.L i m r :: c)
theorem least_fill : ∀ (t : Tr) (c : List Stp), fill (leastC t c).1 (leastC t c).2 = fill t c
  | .e, c => rfl
  | .n .e i m r, c => rfl
  | .n (.n a j x b) i m r, c => by rw [leastC, least_fill (.n a j x b)]; rfl
theorem least_n : ∀ (t : Tr) (c : List Stp), t ≠ .e → ∃ j m b, (leastC t c).1 = .n .e j m b ∧ ∃ d, (leastC t c).2 = d ++ c ∧ lk d = [] ∧ lc d = []
  | .e, c, h => absurd rfl h
  | .n .e i m r, c, _ => ⟨i, m, r, rfl, [], rfl, rfl, rfl⟩
  | .n (.n a j x b) i m r, c, _ => by
    obtain ⟨j', m', b', h1, d, h2, h3, h4⟩ := least_n (.n a j x b) (.L i m r :: c) (by simp)
    have lkd : ∀ d : List Stp, lk d = [] → lk (d ++ [.L i m r]) = [] := by
      intro d
      induction d with
      | nil => intro _; rfl
      | cons f d ih => cases f <;> simp [lk] <;> exact ih
    have lcd : ∀ d : List Stp, lc d = [] → lc (d ++ [.L i m r]) = [] := by
      intro d
      induction d with
      | nil => intro _; rfl
      | cons f d ih => cases f <;> simp [lc] <;> exact ih
    exact ⟨j', m', b', h1, d ++ [.L i m r], by rw [leastC, h2]; simp, lkd d h3, lcd d h4⟩
theorem Srt.mid {a b : List Key} {k m : Key} (h : Srt (a ++ k :: b)) : (∀ x ∈ a, klt x k = true) ∧ (∀ x ∈ b, klt k x = true) := by
  simp only [Srt, List.pairwise_append, List.pairwise_cons] at h
  exact ⟨fun x hx => h.2.2 x hx k (by simp), h.2.1.1⟩
theorem Srt.put {a b : List Key} {k : Key} (h : Srt (a ++ b)) (h1 : ∀ x ∈ a, klt x k = true) (h2 : ∀ x ∈ b, klt k x = true) : Srt (a ++ k :: b) := by
  simp only [Srt, List.pairwise_append, List.pairwise_cons, List.mem_cons] at h ⊢
  refine ⟨h.1, ⟨h2, h.2.1⟩, fun x hx y hy => ?_⟩
  rcases hy with rfl | hy
  · exact h1 x hx
  · exact h.2.2 x hx y hy
theorem Srt.nodup {a : List Key} (h : Srt a) : a.Nodup := h.imp fun {x y} hxy e => by rw [e, klt_irr] at hxy; cases hxy
/-- A key is put there. -/
theorem ins_rep {l l1 : List Nd} {T : Tr} {k : Key} {c : List Stp} {i : Nat} (hT : Rep l T) (hf : find k T [] = (.e, c)) (ha : T.avl) (hd : T.ids.Nodup) (hs : Srt T.ino) (hi : i ∉ T.ids) (h1 : l1[i]? = some (k.1, k.2, -1, -1, 1)) (hr : ∀ j ∈ T.ids, l1[j]? = l[j]?) :
    ∃ T', Mov l1 (hangL l1 (-1) i (way c)).1 (hangL l1 (-1) i (way c)).2 (.n .e i k .e) c T' ∧ T.ino = lk c ++ rk c ∧ T.ids = lc c ++ rc c ∧ (∀ m ∈ lk c, klt m k = true) ∧ ∀ m ∈ rk c, klt k m = true := by
  have e := find_fill k T []
  rw [hf] at e
  have e : fill .e c = T := e
  have hl := find_lt k T [] hs (by simp [lk]) (by simp [rk])
  rw [hf] at hl
  obtain ⟨g1, g2, _⟩ := hl
  have ei : T.ids = lc c ++ rc c := by rw [← e, fill_ids]; simp [ids]
  have eo : T.ino = lk c ++ rk c := by rw [← e, fill_ino]; simp [ino]
  have hR : Rep l1 T := hT.frame hr
  rw [← e] at hR ha
  have hd2 : (lc c ++ (n Tr.e i k Tr.e).ids ++ rc c).Nodup := by
    rw [ei] at hd hi
    simp only [ids, List.nil_append, List.append_assoc, List.singleton_append]
    rw [List.nodup_append] at hd ⊢
    rw [List.mem_append, not_or] at hi
    refine ⟨hd.1, List.nodup_cons.2 ⟨hi.2, hd.2.1⟩, fun a ha b hb => ?_⟩
    rcases List.mem_cons.1 hb with rfl | hb
    · exact fun e => hi.1 (e ▸ ha)
    · exact hd.2.2 a ha b hb
  obtain ⟨T', mv⟩ := hang_rep c l1 .e (.n .e i k .e) (-1) (.inr ⟨rfl, rfl, i, k, rfl, g1, g2⟩) (rep_fill hR).2 ⟨h1, trivial, trivial⟩ ha ⟨trivial, trivial, by simp [ht], by simp [ht]⟩ (by simp [ht]) (by simp [ht])
    (by rw [ei] at hd; simpa [ids] using hd) hd2
  exact ⟨T', mv, eo, ei, g1, g2⟩
def kid : Tr → Tr → Tr
  | .e, b => b
  | .n l i k r, _ => .n l i k r
/-- A key with one below at most is let go. -/
theorem del1_rep {l : List Nd} {T a b : Tr} {k : Key} {c : List Stp} {i : Nat} (hT : Rep l T) (hf : T = fill (.n a i k b) c) (hab : a = .e ∨ b = .e) (ha : T.avl) (hd : T.ids.Nodup) :
    ∃ T' s, s = kid a b ∧ Mov l (dropL l i s.rt (way c)).1 (dropL l i s.rt (way c)).2 s c T' ∧ s.ino = a.ino ++ b.ino ∧ s.ids = a.ids ++ b.ids := by
  subst hf
  obtain ⟨h1, h2⟩ := rep_fill hT
  have ea := fill_avl ha
  have hs : Rep l (kid a b) ∧ (kid a b).avl ∧ (kid a b).ht + 1 = (n a i k b).ht ∧ (kid a b).ino = a.ino ++ b.ino ∧ (kid a b).ids = a.ids ++ b.ids := by
    cases a with
    | e =>
      refine ⟨h1.2.2, ea.2.1, ?_, rfl, rfl⟩
      have := b.ht_nn
      simp only [ht, kid]; omega
    | n l i k r =>
      have c2 : b = .e := hab.resolve_left (by simp)
      refine ⟨h1.2.1, ea.1, ?_, by rw [c2]; simp [ino, kid], by rw [c2]; simp [ids, kid]⟩
      have := (n l i k r).ht_nn
      rw [c2]; simp only [ht, kid] at this ⊢; omega
  obtain ⟨q1, q2, q3, q4, q5⟩ := hs
  have hd1 : (lc c ++ (n a i k b).ids ++ rc c).Nodup := by rw [← fill_ids]; exact hd
  have hd2 : (lc c ++ (kid a b).ids ++ rc c).Nodup := by
    rw [q5]
    refine hd1.sublist ?_
    simp only [ids]
    exact ((List.Sublist.refl _).append ((List.Sublist.refl _).append (List.sublist_cons_self _ _))).append (List.Sublist.refl _)
  obtain ⟨T', mv⟩ := hang_rep c l (.n a i k b) (kid a b) i (.inl ⟨i, rfl, rfl⟩) h2 q1 ha q2 (by omega) (by omega) hd1 hd2
  refine ⟨T', _, rfl, ?_, q4, q5⟩
  rw [← hang_drop _ _ _ _ (by omega) (way_nn c)]
  exact mv
end Tree


end Go.X
