/- Contracts and plain facts: Plain. -/
import Derived.Test.YtgdhpkfielibbaaXw
import Derived.Test.YtgdhpkfielibbaaK
set_option linter.unusedVariables false
set_option linter.unusedSimpArgs false
namespace Go.X
/-- Two lists are alike, one by one. -/
def AllP {α : Type} (Q : α → α → Prop) : List α → List α → Prop
  | [], [] => True
  | x :: xs, y :: ys => Q x y ∧ AllP Q xs ys
  | _, _ => False
theorem AllP_len {α : Type} {Q : α → α → Prop} : ∀ {xs ys : List α}, AllP Q xs ys → xs.length = ys.length
  | [], [], _ => rfl
  | [], _ :: _, h => h.elim
  | _ :: _, [], h => h.elim
  | x :: xs, y :: ys, h => by simp [AllP_len h.2]
theorem AllP_eq {α : Type} : ∀ (xs ys : List α), AllP Eq xs ys ↔ xs = ys
  | [], [] => by simp [AllP]
  | [], _ :: _ => by simp [AllP]
  | _ :: _, [] => by simp [AllP]
  | x :: xs, y :: ys => by rw [AllP, AllP_eq xs ys, List.cons.injEq]
abbrev KI : Ks := [.int .i64]
abbrev KB : Ks := [.bool]
def takeN {α : Type} (xs : List α) (most : Int) : List α := xs.take (max 1 most.toNat)
/-- Distinct numbers below a bound are not many. -/
theorem nodup_few : ∀ (n : Nat) (l : List Int), l.Nodup → (∀ x ∈ l, 0 ≤ x ∧ x < (n : Int)) → l.length ≤ n
  | 0, l, _, h => by
    cases l with
    | nil => simp
    | cons x l => have := h x (by simp); omega
  | n + 1, l, hd, h => by
    have h1 := nodup_few n (l.filter (fun x => !decide (x = (n : Int)))) (hd.filter _) (fun x hx => by
      rw [List.mem_filter] at hx
      have := h x hx.1
      have h2 : ¬ x = (n : Int) := by simpa using hx.2
      omega)
    have h3 : l.length ≤ (l.filter (fun x => !decide (x = (n : Int)))).length + 1 := by
      clear h1 h
      induction l with
      | nil => simp
      | cons x l ih =>
        rw [List.nodup_cons] at hd
        by_cases hx : x = (n : Int)
        · have : l.filter (fun x => !decide (x = (n : Int))) = l := by
            rw [List.filter_eq_self]; intro y hy
            have : y ≠ x := fun e => hd.1 (e ▸ hy)
            simp; omega
          rw [List.filter_cons, if_neg (by simp [hx]), this]; simp
        · rw [List.filter_cons, if_pos (by simp [hx])]
          have := ih hd.2
          simp only [List.length_cons]; omega
    omega
theorem modr (d : Int) {m : Int} (h0 : 0 < m) (h1 : m ≤ 9223372036854775807) : 0 ≤ IntKind.i64.wrap ((IntKind.u64.wrap d).tmod m) ∧ IntKind.i64.wrap ((IntKind.u64.wrap d).tmod m) < m := by
  have h := wu_range d
  have h2 := Int.tmod_nonneg m h.1
  have h3 := Int.tmod_lt_of_pos (IntKind.u64.wrap d) h0
  rw [wi (by omega) (by omega)]; omega

end Go.X
