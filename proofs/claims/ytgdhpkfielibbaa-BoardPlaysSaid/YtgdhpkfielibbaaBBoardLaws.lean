/- Contracts and plain facts: BoardLaws. -/
import Derived.Test.YtgdhpkfielibbaaBPlain
import Derived.Test.YtgdhpkfielibbaaBBoard
import Derived.Test.YtgdhpkfielibbaaXw
import Derived.Test.YtgdhpkfielibbaaK
import Derived.Test.YtgdhpkfielibbaaF0
set_option linter.unusedVariables false
set_option linter.unusedSimpArgs false
namespace Go.X
open Go.Proofs
namespace BoardLaws
open Board
abbrev KO : Ks := K_i2u2su4b2
abbrev Opn := Ks.T KO
abbrev oK (o : Opn) : Int := o.1
abbrev oN (o : Opn) : Int := o.2.1
abbrev oU (o : Opn) : Int := o.2.2.1
abbrev oA (o : Opn) : Int := o.2.2.2.1
abbrev oS (o : Opn) : Sl := o.2.2.2.2.1
abbrev oT (o : Opn) : Snt := (o.2.2.2.2.2.1, o.2.2.2.2.2.2.1, o.2.2.2.2.2.2.2.1, o.2.2.2.2.2.2.2.2.1, o.2.2.2.2.2.2.2.2.2.1)
abbrev oR (o : Opn) : Bool := o.2.2.2.2.2.2.2.2.2.2
abbrev OpR := Opn × List (Int × Int)
def opsP (d : Sl) (ps : List OpR) : SP := rarr d KO (ps.map Prod.fst) ^ rl (fun p : OpR => rarr (oS p.1) KR p.2) ps
/-- Pieces in order, from a place on, up to another. -/
def Chain : Int → List Pc → Int → Prop
  | a, [], e => a ≤ e
  | a, p :: l, e => a ≤ pFrom p ∧ pFrom p < pTo p ∧ (pSk p = true → pLo p = false) ∧ Chain (pTo p) l e
theorem Chain.le : ∀ {l : List Pc} {a b e : Int}, Chain a l e → b ≤ a → Chain b l e
  | [], _, _, _, h, hb => Int.le_trans hb h
  | p :: l, _, _, _, h, hb => ⟨Int.le_trans hb h.1, h.2⟩
theorem Chain.fin : ∀ {l : List Pc} {a e : Int}, Chain a l e → a ≤ e
  | [], _, _, h => h
  | p :: l, _, _, h => by have := Chain.fin h.2.2.2; have := h.1; have := h.2.1; omega
theorem Chain.filter (q : Pc → Bool) : ∀ {l : List Pc} {a e : Int}, Chain a l e → Chain a (l.filter q) e
  | [], _, _, h => h
  | p :: l, a, e, h => by
    have ih := Chain.filter q h.2.2.2
    rw [List.filter_cons]
    split
    · exact ⟨h.1, h.2.1, h.2.2.1, ih⟩
    · exact ih.le (by have := h.1; have := h.2.1; omega)
/-- It stands where the other one does. -/
def Like (p q : Pc) : Prop := pFrom q = pFrom p ∧ pTo q = pTo p ∧ ((pSk p = true → pLo p = false) → pSk q = true → pLo q = false)
theorem Like.self (p : Pc) : Like p p := ⟨rfl, rfl, fun h => h⟩
theorem like_refl : ∀ l : List Pc, AllP Like l l
  | [] => trivial
  | p :: l => ⟨Like.self p, like_refl l⟩
theorem like_set {q : Pc} : ∀ {l : List Pc} {i : Nat} {p : Pc}, l[i]? = some p → Like p q → AllP Like l (l.set i q)
  | [], _, _, h, _ => by cases h
  | y :: l, 0, p, h, hq => by cases h; exact ⟨hq, like_refl l⟩
  | y :: l, i + 1, p, h, hq => ⟨Like.self y, like_set (by simpa using h) hq⟩
theorem like_again (p : Pc) (s : Snt) : Like p (againP p s) := ⟨rfl, rfl, fun _ _ => rfl⟩
theorem again_like (l : List Pc) (s : Snt) : AllP Like l (againF l s) := by
  unfold againF
  split
  · rename_i p hp
    split
    · exact like_refl l
    · exact like_set hp (like_again p s)
  · exact like_refl l
theorem wu_mod (n : Int) : IntKind.u64.wrap n = n % 18446744073709551616 := by
  simp [IntKind.wrap, IntKind.bits, IntKind.signed]
theorem add_sub (n a b : Int) : IntKind.u64.wrap (IntKind.u64.wrap (n + a) - b) = IntKind.u64.wrap (n + IntKind.u64.wrap (a - b)) := by
  simp only [wu_mod]; omega
theorem Chain.at : ∀ {l : List Pc} {a e : Int} {p : Pc} {m : List Pc}, Chain a l e → l = p :: m → a ≤ pFrom p ∧ pFrom p < pTo p ∧ (pSk p = true → pLo p = false) ∧ Chain (pTo p) m e
  | _, _, _, _, _, h, rfl => h
/-- What an op does to a board, walked. -/
theorem rd_ops {ps : List OpR} {i : Nat} {o : OpR} (h : ps[i]? = some o) : Rd (oS o.1) (rl (fun p : OpR => rarr (oS p.1) KR p.2) ps) KR o.2 := rd_rl h (rd_rarr _ _ _)
end BoardLaws

end Go.X
