/- Contracts and plain facts: Plain. -/
import Derived.Test.YtgdhpkfielibbaaXw
import Derived.Test.YtgdhpkfielibbaaK
set_option linter.unusedVariables false
set_option linter.unusedSimpArgs false
namespace Go.X
/-- Two lists are alike, one by one. -/
def AllP {α : Type} (Q : α → α → Prop) : List α → List α → Prop
  | [], [] => True
  | x :: xs, y :: ys => Q x y ∧ AllP Q xs ys
  | _, _ => False
theorem AllP_len {α : Type} {Q : α → α → Prop} : ∀ {xs ys : List α}, AllP Q xs ys → xs.length = ys.length
  | [], [], _ => rfl
  | [], _ :: _, h => h.elim
  | _ :: _, [], h => h.elim
  | x :: xs, y :: ys, h => by simp [AllP_len h.2]
theorem AllP_eq {α : Type} : ∀ (xs ys : List α), AllP Eq xs ys ↔ xs = ys
  | [], [] => by simp [AllP]
  | [], _ :: _ => by simp [AllP]
  | _ :: _, [] => by simp [AllP]
  | x :: xs, y :: ys => by rw [AllP, AllP_eq xs ys, List.cons.injEq]
abbrev KR : Ks := [.int .u64, .int .u64]
def takeN {α : Type} (xs : List α) (most : Int) : List α := xs.take (max 1 most.toNat)
theorem drop_at {α : Type} {l : List α} {i : Nat} {x : α} (h : l[i]? = some x) : l.drop i = x :: l.drop (i + 1) := by
  obtain ⟨hl, he⟩ := List.getElem?_eq_some_iff.1 h
  rw [← he]; exact List.drop_eq_getElem_cons hl
end Go.X
