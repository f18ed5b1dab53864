/- Plain facts that walks ask for. -/
import Derived.Test.YtkideobegadadaaGreatXt
namespace Go.X

theorem wi {n : Int} (h0 : -9223372036854775808 ≤ n) (h1 : n < 9223372036854775808) : IntKind.i64.wrap n = n := by
  simp [IntKind.wrap, IntKind.bits, IntKind.signed]; omega
theorem wu {n : Int} (h0 : 0 ≤ n) (h1 : n < 18446744073709551616) : IntKind.u64.wrap n = n := by
  simp [IntKind.wrap, IntKind.bits, IntKind.signed]; omega
theorem wu_range (n : Int) : 0 ≤ IntKind.u64.wrap n ∧ IntKind.u64.wrap n < 18446744073709551616 := by
  simp [IntKind.wrap, IntKind.bits, IntKind.signed]; omega
/-- The place of the first one; -1: there is none. -/
def fI {α : Type} (p : α → Bool) (xs : List α) : Int := match xs.findIdx? p with | some i => (i : Int) | none => -1
theorem fI_at {α : Type} {p : α → Bool} {xs : List α} {i : Nat} {x : α} (hx : xs[i]? = some x) (hp : p x = true) (hn : ∀ j y, j < i → xs[j]? = some y → p y = false) : fI p xs = i := by
  have : xs.findIdx? p = some i := by
    rw [List.findIdx?_eq_some_iff_getElem]
    obtain ⟨hl, he⟩ := List.getElem?_eq_some_iff.1 hx
    refine ⟨hl, by rw [he]; exact hp, fun j hj => ?_⟩
    rw [hn j xs[j] hj (List.getElem?_eq_getElem _)]; simp
  rw [fI, this]
theorem fI_none {α : Type} {p : α → Bool} {xs : List α} (hn : ∀ y ∈ xs, p y = false) : fI p xs = -1 := by
  have : xs.findIdx? p = none := List.findIdx?_eq_none_iff.2 hn
  rw [fI, this]
theorem fI_any {α : Type} (p : α → Bool) (xs : List α) : decide (fI p xs ≥ 0) = xs.any p := by
  unfold fI
  cases h : xs.findIdx? p with
  | none =>
    have := List.findIdx?_eq_none_iff.1 h
    simp only []
    rw [show xs.any p = false by rw [List.any_eq_false]; intro x hx; rw [this x hx]; simp]
    rfl
  | some i =>
    obtain ⟨hl, hp, _⟩ := List.findIdx?_eq_some_iff_getElem.1 h
    simp only []
    rw [show xs.any p = true by rw [List.any_eq_true]; exact ⟨xs[i], List.getElem_mem hl, hp⟩]
    exact decide_eq_true (by omega)
theorem at_some {α : Type} {xs : List α} {i : Nat} (h : i < xs.length) : xs[i]? = some xs[i] := List.getElem?_eq_getElem h
section
variable {P : Program} {w0 w : World} {S0 R0 : Nat → Prop} {F G A B : SP}
theorem w_ldAll {b : Nat} {ks : Ks} {k : Ks.T ks → WP} {L : List Lf} {x : Ks.T ks} (h : Own w0 S0 R0 w F) [t : TakeB b F L G] (hL : L = Ks.mk ks x) (hk : k x w) : ld ks ⟨b, 0⟩ k w :=
  w_ld (p := ⟨b, 0⟩) h (by
    show Ks.un ks ((L.drop 0).take ks.length) = some x
    rw [hL, List.drop_zero, List.take_of_length_le (by rw [Ks.len]; exact Nat.le_refl _)]
    exact un_mk) hk
theorem w_chkAll {b : Nat} {L : List Lf} {k : WP} (h : Own w0 S0 R0 w F) [t : TakeB b F L G] (hk : k w) : chk ⟨b, 0⟩ L k w :=
  w_chk (p := ⟨b, 0⟩) h (by show (L.drop 0).take L.length = L; simp) hk
theorem w_ldE {p : Pt} {K : Ks} {k : Ks.T K → WP} {xs : List (Ks.T K)} (h : Own w0 S0 R0 w F) (s : Sl) [t : Rd s F K xs] (j : Nat) {y : Ks.T K} (hy : xs[j]? = some y) (hp : p = s.ix j K.length) (hk : k y w) : ld K p k w :=
  w_ldA h s j 0 y hy (by rw [hp]; rfl) (Nat.zero_le _) (by rw [List.drop_zero, List.take_of_length_le (by rw [Ks.len]; exact Nat.le_refl _)]; exact un_mk) hk
theorem Own.eitherL (h : Own w0 S0 R0 w (A ^ F)) (B : SP) : Own w0 S0 R0 w (either A B ^ F) := h.toEx (f := fun b : Bool => cond b A B) true
theorem Own.eitherR (h : Own w0 S0 R0 w (B ^ F)) (A : SP) : Own w0 S0 R0 w (either A B ^ F) := h.toEx (f := fun b : Bool => cond b A B) false
end
end Go.X
