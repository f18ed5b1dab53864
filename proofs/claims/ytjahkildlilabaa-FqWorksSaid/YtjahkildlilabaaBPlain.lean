/- Contracts and plain facts: Plain. -/
import Derived.Test.YtjahkildlilabaaXw
import Derived.Test.YtjahkildlilabaaK
set_option linter.unusedVariables false
set_option linter.unusedSimpArgs false
set_option linter.unusedSectionVars false
namespace Go.X
abbrev KI : Ks := [.int .i64]
abbrev KU : Ks := [.int .u64]
abbrev KR : Ks := [.int .u64, .int .u64]
abbrev KB : Ks := [.bool]
theorem drop_at {α : Type} {l : List α} {i : Nat} {x : α} (h : l[i]? = some x) : l.drop i = x :: l.drop (i + 1) := by
  obtain ⟨hl, he⟩ := List.getElem?_eq_some_iff.1 h
  rw [← he]; exact List.drop_eq_getElem_cons hl
/-- Distinct numbers below a bound are not many. -/
theorem nodup_few : ∀ (n : Nat) (l : List Int), l.Nodup → (∀ x ∈ l, 0 ≤ x ∧ x < (n : Int)) → l.length ≤ n
  | 0, l, _, h => by
    cases l with
    | nil => simp
    | cons x l => have := h x (by simp); omega
  | n + 1, l, hd, h => by
    have h1 := nodup_few n (l.filter (fun x => !decide (x = (n : Int)))) (hd.filter _) (fun x hx => by
      rw [List.mem_filter] at hx
      have := h x hx.1
      have h2 : ¬ x = (n : Int) := by simpa using hx.2
      omega)
    have h3 : l.length ≤ (l.filter (fun x => !decide (x = (n : Int)))).length + 1 := by
      clear h1 h
      induction l with
      | nil => simp
      | cons x l ih =>
        rw [List.nodup_cons] at hd
        by_cases hx : x = (n : Int)
        · have : l.filter (fun x => !decide (x = (n : Int))) = l := by
            rw [List.filter_eq_self]; intro y hy
            have : y ≠ x := fun e => hd.1 (e ▸ hy)
            simp; omega
          rw [List.filter_cons, if_neg (by simp [hx]), this]; simp
        · rw [List.filter_cons, if_pos (by simp [hx])]
          have := ih hd.2
          simp only [List.length_cons]; omega
    omega
section
variable {w0 w : World} {S0 R0 : Nat → Prop} {F G : SP}
/-- A store that makes a block that. -/
theorem w_setTo {p : Pt} {ls : List Lf} {A : WP} {L : List Lf} (h : Own w0 S0 R0 w F) (b : Nat) (L' : List Lf) [t : TakeB b F L G] (hp : p.b = b) (hx : Nat.ble (p.o + ls.length) L.length = true) (e : upd L p.o ls = L')
    (k : ∀ w', Own w0 S0 R0 w' (X.blk b L' ^ G) → A w') : st p ls A w := by
  subst hp
  subst e
  exact w_set h hx k
end
theorem least {α : Type} (P : α → Prop) (μ : α → Nat) (h : ∃ a, P a) : ∃ n, (∃ a, P a ∧ μ a = n) ∧ ∀ a, P a → n ≤ μ a := by
  obtain ⟨a, ha⟩ := h
  have key : ∀ k a, P a → μ a ≤ k → ∃ n, (∃ a, P a ∧ μ a = n) ∧ ∀ a, P a → n ≤ μ a := by
    intro k
    induction k with
    | zero => intro a ha hk; exact ⟨0, ⟨a, ha, by omega⟩, fun _ _ => Nat.zero_le _⟩
    | succ k ih =>
      intro a ha hk
      by_cases hc : ∃ c, P c ∧ μ c < μ a
      · obtain ⟨c, hc, hlt⟩ := hc
        exact ih c hc (by omega)
      · exact ⟨μ a, ⟨a, ha, rfl⟩, fun c hc' => Nat.le_of_not_lt fun hlt => hc ⟨c, hc', hlt⟩⟩
  exact key _ a ha (Nat.le_refl _)
open Classical in
/-- A loop whose invariant has a witness, by which it is measured. -/
theorem w_loopE {w0 w : World} {S0 R0 : Nat → Prop} {α : Type} {cs : List CK} {x₀ : Ks.T cs} {B : (Ks.T cs → WP) → Ks.T cs → WP} (I : Ks.T cs → α → SP) (φ : Ks.T cs → α → Prop) (μ : Ks.T cs → α → Nat) (a₀ : α) (h : Own w0 S0 R0 w (I x₀ a₀)) (h0 : φ x₀ a₀)
    (hr : ∀ (K : Ks.T cs → WP) x a w, φ x a → Own w0 S0 R0 w (I x a) → (∀ y c w', φ y c → Own w0 S0 R0 w' (I y c) → μ y c < μ x a → K y w') → B K x w) : loop cs x₀ B w := by
  refine ⟨fun x w => ∃ a, φ x a ∧ Own w0 S0 R0 w (I x a), fun x w => if h : ∃ a, φ x a ∧ Own w0 S0 R0 w (I x a) then Classical.choose (least _ (μ x) h) else 0, ⟨a₀, h0, h⟩, ?_⟩
  intro x w hx
  have hs := Classical.choose_spec (least _ (μ x) hx)
  obtain ⟨⟨a, ⟨hp, ha⟩, hn⟩, _⟩ := hs
  refine hr _ x a w hp ha fun y c w' hy ho hlt => ⟨⟨c, hy, ho⟩, ?_⟩
  have hx' : ∃ c, φ y c ∧ Own w0 S0 R0 w' (I y c) := ⟨c, hy, ho⟩
  have e1 : (if h : ∃ a, φ y a ∧ Own w0 S0 R0 w' (I y a) then Classical.choose (least _ (μ y) h) else 0) = Classical.choose (least _ (μ y) hx') := dif_pos hx'
  have e2 : (if h : ∃ a, φ x a ∧ Own w0 S0 R0 w (I x a) then Classical.choose (least _ (μ x) h) else 0) = Classical.choose (least _ (μ x) hx) := dif_pos hx
  show (if h : ∃ a, φ y a ∧ Own w0 S0 R0 w' (I y a) then Classical.choose (least _ (μ y) h) else 0) < (if h : ∃ a, φ x a ∧ Own w0 S0 R0 w (I x a) then Classical.choose (least _ (μ x) h) else 0)
  rw [e1, e2, ← hn]
  have := (Classical.choose_spec (least _ (μ y) hx')).2 c ⟨hy, ho⟩
  omega

end Go.X
