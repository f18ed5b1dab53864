/- The reading of Xb is sound: a region that draws its order. -/
import Derived.Test.YtkideobegadadaaGreatXj
import Derived.OrdersIn
namespace Go.X
variable {P : Program}

/-! ### Bits -/
theorem bit_set (m i j : Nat) : bit (setb m i) j = (bit m j || decide (i = j)) := by
  unfold bit setb
  rw [Nat.testBit_or, Nat.one_shiftLeft, Nat.testBit_two_pow]
theorem sub_ok {a b : Nat} : subM a b = true ↔ ∀ k, bit a k = true → bit b k = true := by
  unfold subM bit
  constructor
  · intro h k hk
    have h := Nat.eq_of_beq_eq_true h
    rw [← h, Nat.testBit_and] at hk
    simp at hk; exact hk.2
  · intro h
    have : a &&& b = a := Nat.eq_of_testBit_eq fun k => by
      rw [Nat.testBit_and]
      cases hk : Nat.testBit a k with
      | false => simp
      | true => simp [h k hk]
    rw [this]; exact Nat.beq_refl a
theorem afterL_ok {l : List Edge} {k : Nat} : bit (afterL l) k = true ↔ ∃ e ∈ l, Region.binds .any e = true ∧ e.on = k := by
  induction l with
  | nil => simp [afterL, bit]
  | cons e l ih =>
    simp only [afterL]
    cases hb : Region.binds .any e with
    | true => simp only []; rw [bit_set]; simp [ih, hb]; constructor <;> (rintro (h | h) <;> simp [h])
    | false => simp [ih, hb]
theorem memN_iff {n : Nat} {l : List Nat} : memN n l = true ↔ n ∈ l := by
  induction l with
  | nil => simp [memN]
  | cons x l ih =>
    simp only [memN, Bool.or_eq_true, ih, List.mem_cons]
    constructor
    · rintro (h | h)
      · exact .inl (Nat.eq_of_beq_eq_true h).symm
      · exact .inr h
    · rintro (h | h)
      · left; rw [h]; exact Nat.beq_refl x
      · exact .inr h
theorem keepE_get (sl : List Nat) : ∀ (e : Env) (n i : Nat), (keepE sl n e).get i = if memN (n + i) sl then e.get i else .un
  | [], n, i => by simp [keepE, Env.get]
  | x :: e, n, 0 => by cases h : memN n sl <;> simp [keepE, Env.get, h]
  | x :: e, n, i + 1 => by
    simp only [keepE, Env.get]
    rw [keepE_get sl e (n + 1) i, show n + 1 + i = n + (i + 1) by omega]
theorem keepE_len (sl : List Nat) : ∀ (e : Env) (n : Nat), (keepE sl n e).length = e.length
  | [], _ => rfl
  | _ :: e, n => by simp [keepE, keepE_len sl e]
theorem agr_keep {sl : List Nat} {e : Env} {a : Act} (hl : e.length = a.tmps.size) (h : ∀ s ∈ sl, EntOk a s (e.get s)) : Agr (keepE sl 0 e) a := by
  refine ⟨by rw [keepE_len, hl], fun i => ?_⟩
  rw [keepE_get, Nat.zero_add]
  split
  · rename_i hm; exact h i (memN_iff.1 hm)
  · trivial
theorem setE_len (e : Env) (d : Option Nat) (v : TV) : (setE e d v).length = e.length := by
  cases d <;> simp [setE, Env.len_set]
theorem setE_get (e : Env) (d : Option Nat) (v : TV) (i : Nat) : (setE e d v).get i = if d = some i ∧ i < e.length then .val v else e.get i := by
  cases d with
  | none => simp [setE]
  | some d =>
    simp only [setE]
    rw [Env.get_set]
    by_cases h : i = d
    · subst h; simp
    · rw [if_neg (fun hh => h hh.1), if_neg (fun hh => h (Option.some.inj hh.1).symm)]

/-! ### Checks -/
theorem hazL_ok {i ai : Nat} {sl : List Nat} : ∀ {l : List Oper} {j : Nat}, hazL i ai sl l j = true → ∀ k o s, l[k]? = some o → o.dst = some s → s ∈ sl →
    bit ai (j + k) = true ∨ (bit (afterM o) i = true ∧ isF o.op = false) ∨ (i = j + k ∧ isF o.op = false)
  | [], j, _, k, o, s, h, _, _ => by simp at h
  | x :: r, j, h, k, o, s, hk, hd, hs => by
    simp only [hazL, Bool.and_eq_true] at h
    cases k with
    | zero =>
      simp at hk
      subst hk
      have h1 := h.1
      rw [hd] at h1
      simp only [Bool.or_eq_true, Bool.not_eq_true', Bool.and_eq_true] at h1
      have hm : memN s sl = true := memN_iff.2 hs
      rcases h1 with ((h1 | h1) | h1) | h1
      · rw [hm] at h1; cases h1
      · exact .inl h1
      · exact .inr (.inl h1)
      · exact .inr (.inr ⟨Nat.eq_of_beq_eq_true h1.1, h1.2⟩)
    | succ k =>
      have := hazL_ok h.2 k o s (by simpa using hk) hd hs
      rw [show j + 1 + k = j + (k + 1) by omega] at this
      exact this
theorem covL_ok {V C : Nat} : ∀ {l : List Oper} {j : Nat}, covL V C l j = true → ∀ k o, l[k]? = some o → bit V (j + k) = true ∨ bit C (j + k) = true ∨ subM (afterM o) V = false
  | [], _, _, k, o, h => by simp at h
  | x :: r, j, h, k, o, hk => by
    simp only [covL, Bool.and_eq_true, Bool.or_eq_true, Bool.not_eq_true'] at h
    cases k with
    | zero => simp at hk; subst hk; rcases h.1 with (h1 | h1) | h1 <;> simp [h1]
    | succ k =>
      have := covL_ok h.2 k o (by simpa using hk)
      rw [show j + 1 + k = j + (k + 1) by omega] at this
      exact this
theorem fullL_ok {V : Nat} : ∀ {l : List Oper} {j : Nat}, fullL V l j = true → ∀ k, k < l.length → bit V (j + k) = true
  | [], _, _, k, h => by simp at h
  | x :: r, j, h, k, hk => by
    simp only [fullL, Bool.and_eq_true] at h
    cases k with
    | zero => exact h.1
    | succ k =>
      have := fullL_ok h.2 k (by simpa using hk)
      rw [show j + 1 + k = j + (k + 1) by omega] at this
      exact this
theorem dstIn_ok {d : Nat} : ∀ {l : List Oper}, dstIn d l = false → ∀ o ∈ l, o.dst ≠ some d
  | [], _, o, h => absurd h (by simp)
  | x :: r, h, o, ho => by
    simp only [dstIn, Bool.or_eq_false_iff] at h
    rcases List.mem_cons.1 ho with rfl | ho
    · intro hd; rw [hd] at h; simp at h
    · exact dstIn_ok h.2 o ho
theorem distinct_ok : ∀ {l : List Oper}, distinctD l = true → ∀ (i j : Nat) (o o' : Oper) (s : Nat), l[i]? = some o → l[j]? = some o' → o.dst = some s → o'.dst = some s → i = j
  | [], _, i, _, _, _, _, h, _, _, _ => by simp at h
  | x :: r, h, i, j, o, o', s, hi, hj, hd, hd' => by
    simp only [distinctD, Bool.and_eq_true] at h
    have no : ∀ k (y : Oper), x.dst = some s → r[k]? = some y → y.dst = some s → False := fun k y hx hy hys => by
      have h1 := h.1
      rw [hx] at h1
      exact dstIn_ok (by simpa using h1) y (List.mem_of_getElem? hy) hys
    cases i with
    | zero =>
      simp at hi; subst hi
      cases j with
      | zero => rfl
      | succ j => exact (no j o' hd (by simpa using hj) hd').elim
    | succ i =>
      cases j with
      | zero => simp at hj; subst hj; exact (no i o hd' (by simpa using hi) hd).elim
      | succ j => rw [distinct_ok h.2 i j o o' s (by simpa using hi) (by simpa using hj) hd hd']
theorem ancL_after {acc : List Nat} : ∀ {l : List Edge} {k : Nat}, bit (ancL acc l) k = true → ∃ e ∈ l, Region.binds .any e = true ∧ (e.on = k ∨ bit ((acc[e.on]?).getD 0) k = true)
  | [], k, h => by simp [ancL, bit] at h
  | e :: l, k, h => by
    simp only [ancL] at h
    cases hb : Region.binds .any e with
    | true =>
      rw [hb] at h
      simp only at h
      have h' : bit (setb (ancL acc l) e.on) k = true ∨ bit ((acc[e.on]?).getD 0) k = true := by
        unfold bit at h ⊢
        rw [Nat.testBit_or] at h
        simpa using h
      rw [bit_set] at h'
      simp only [Bool.or_eq_true, decide_eq_true_eq] at h'
      rcases h' with (h' | h') | h'
      · obtain ⟨e', h1, h2, h3⟩ := ancL_after h'
        exact ⟨e', List.mem_cons_of_mem _ h1, h2, h3⟩
      · exact ⟨e, List.mem_cons_self, hb, .inl h'⟩
      · exact ⟨e, List.mem_cons_self, hb, .inr h'⟩
    | false =>
      rw [hb] at h
      obtain ⟨e', h1, h2, h3⟩ := ancL_after h
      exact ⟨e', List.mem_cons_of_mem _ h1, h2, h3⟩
/-- What must be done ahead of i is done, by steps, whenever i is. -/
theorem ancs_ok {D : Nat → Prop} : ∀ (l : List Oper) (acc : List Nat) (all : List Oper), all = all.take acc.length ++ l → acc.length ≤ all.length →
    (∀ i o, all[i]? = some o → D i → ∀ k, bit (afterM o) k = true → D k) →
    (∀ i, D i → ∀ k, bit ((acc[i]?).getD 0) k = true → D k) → ∀ i, D i → ∀ k, bit (((ancs l acc)[i]?).getD 0) k = true → D k
  | [], acc, all, _, _, _, h, i, hi, k, hk => h i hi k hk
  | o :: r, acc, all, he, hl, hc, h, i, hi, k, hk => by
    simp only [ancs] at hk
    have hlt : acc.length < all.length := by
      have := congrArg List.length he
      simp at this; omega
    have ho : all[acc.length]? = some o := by
      have h1 : (all.take acc.length).length = acc.length := by simp; omega
      rw [he, List.getElem?_append_right (by omega), h1]
      simp
    refine ancs_ok r (acc ++ [ancL acc o.after.toList]) all ?_ (by simp; omega) hc ?_ i hi k hk
    · simp only [List.length_append, List.length_singleton]
      rw [List.take_add_one, ho]
      simp only [Option.toList_some, List.append_assoc, List.singleton_append]
      exact he
    · intro i hi k hk
      by_cases hia : i < acc.length
      · rw [List.getElem?_append_left hia] at hk
        exact h i hi k hk
      · rw [List.getElem?_append_right (by omega)] at hk
        by_cases hie : i = acc.length
        · subst hie
          simp at hk
          obtain ⟨e, h1, h2, h3⟩ := ancL_after hk
          have hD : D e.on := hc _ o ho hi e.on (afterL_ok.2 ⟨e, h1, h2, rfl⟩)
          rcases h3 with h3 | h3
          · rw [← h3]; exact hD
          · exact h _ hD k h3
        · have : i - acc.length ≠ 0 := by omega
          rw [List.getElem?_singleton, if_neg this] at hk
          simp [bit] at hk
theorem chks_ok {w : World} {m : Nat} {A : WP} : ∀ {l : Lds}, chks l m A w → A w ∧ ∀ i p ls, (i, p, ls) ∈ l → bit m i = false → Reads w p.b p.o ls
  | [], h => ⟨h, fun _ _ _ hh => absurd hh (by simp)⟩
  | (i, p, ls) :: r, h => by
    simp only [chks] at h
    cases hb : bit m i with
    | true =>
      rw [hb] at h
      obtain ⟨h1, h2⟩ := chks_ok (l := r) h
      refine ⟨h1, fun j q ms hh hj => ?_⟩
      rcases List.mem_cons.1 hh with hh | hh
      · cases hh; rw [hb] at hj; cases hj
      · exact h2 j q ms hh hj
    | false =>
      rw [hb] at h
      obtain ⟨h1, h2⟩ := chks_ok (l := r) h.2
      refine ⟨h1, fun j q ms hh hj => ?_⟩
      rcases List.mem_cons.1 hh with hh | hh
      · cases hh; exact h.1
      · exact h2 j q ms hh hj
end Go.X
