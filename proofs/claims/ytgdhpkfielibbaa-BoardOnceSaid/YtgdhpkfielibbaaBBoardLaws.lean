/- Contracts and plain facts: BoardLaws. -/
import Derived.Test.YtgdhpkfielibbaaBPlain
import Derived.Test.YtgdhpkfielibbaaBU64s
import Derived.Test.YtgdhpkfielibbaaBBoard
import Derived.Test.YtgdhpkfielibbaaXw
import Derived.Test.YtgdhpkfielibbaaK
import Derived.Test.YtgdhpkfielibbaaF0
set_option linter.unusedVariables false
set_option linter.unusedSimpArgs false
namespace Go.X
open Go.Proofs
namespace BoardLaws
open Board
abbrev KO : Ks := K_i2u2su4b2
abbrev Opn := Ks.T KO
abbrev oK (o : Opn) : Int := o.1
abbrev oN (o : Opn) : Int := o.2.1
abbrev oU (o : Opn) : Int := o.2.2.1
abbrev oS (o : Opn) : Sl := o.2.2.2.2.1
abbrev oT (o : Opn) : Snt := (o.2.2.2.2.2.1, o.2.2.2.2.2.2.1, o.2.2.2.2.2.2.2.1, o.2.2.2.2.2.2.2.2.1, o.2.2.2.2.2.2.2.2.2.1)
abbrev OpR := Opn × List (Int × Int)
def opsP (d : Sl) (ps : List OpR) : SP := rarr d KO (ps.map Prod.fst) ^ rl (fun p : OpR => rarr (oS p.1) KR p.2) ps
/-- Pieces in order, from a place on, up to another. -/
def Chain : Int → List Pc → Int → Prop
  | a, [], e => a ≤ e
  | a, p :: l, e => a ≤ pFrom p ∧ pFrom p < pTo p ∧ (pSk p = true → pLo p = false) ∧ Chain (pTo p) l e
theorem Chain.le : ∀ {l : List Pc} {a b e : Int}, Chain a l e → b ≤ a → Chain b l e
  | [], _, _, _, h, hb => Int.le_trans hb h
  | p :: l, _, _, _, h, hb => ⟨Int.le_trans hb h.1, h.2⟩
theorem Chain.fin : ∀ {l : List Pc} {a e : Int}, Chain a l e → a ≤ e
  | [], _, _, h => h
  | p :: l, _, _, h => by have := Chain.fin h.2.2.2; have := h.1; have := h.2.1; omega
theorem Chain.filter (q : Pc → Bool) : ∀ {l : List Pc} {a e : Int}, Chain a l e → Chain a (l.filter q) e
  | [], _, _, h => h
  | p :: l, a, e, h => by
    have ih := Chain.filter q h.2.2.2
    rw [List.filter_cons]
    split
    · exact ⟨h.1, h.2.1, h.2.2.1, ih⟩
    · exact ih.le (by have := h.1; have := h.2.1; omega)
/-- It stands where the other one does. -/
def Like (p q : Pc) : Prop := pFrom q = pFrom p ∧ pTo q = pTo p ∧ ((pSk p = true → pLo p = false) → pSk q = true → pLo q = false)
theorem Like.self (p : Pc) : Like p p := ⟨rfl, rfl, fun h => h⟩
theorem like_refl : ∀ l : List Pc, AllP Like l l
  | [] => trivial
  | p :: l => ⟨Like.self p, like_refl l⟩
theorem Chain.like : ∀ {l m : List Pc} {a e : Int}, AllP Like l m → Chain a l e → Chain a m e
  | [], [], _, _, _, h => h
  | [], _ :: _, _, _, h, _ => h.elim
  | _ :: _, [], _, _, h, _ => h.elim
  | p :: l, q :: m, a, e, ⟨⟨h1, h2, h3⟩, hl⟩, h => ⟨by rw [h1]; exact h.1, by rw [h1, h2]; exact h.2.1, h3 h.2.2.1, by rw [h2]; exact Chain.like hl h.2.2.2⟩
theorem like_map {f : Pc → Pc} (h : ∀ p, Like p (f p)) : ∀ l : List Pc, AllP Like l (l.map f)
  | [] => trivial
  | p :: l => ⟨h p, like_map h l⟩
theorem like_pass : ∀ l : List Pc, AllP Like l (passF l).1
  | [] => trivial
  | p :: l => by
    simp only [passF]
    split
    · rename_i hh
      refine ⟨⟨rfl, rfl, fun _ hs => ?_⟩, like_pass l⟩
      have hs : pSk p = true := hs
      simp [hitF, flyP, hs] at hh
    · exact ⟨Like.self p, like_pass l⟩
theorem like_set {q : Pc} : ∀ {l : List Pc} {i : Nat} {p : Pc}, l[i]? = some p → Like p q → AllP Like l (l.set i q)
  | [], _, _, h, _ => by cases h
  | y :: l, 0, p, h, hq => by cases h; exact ⟨hq, like_refl l⟩
  | y :: l, i + 1, p, h, hq => ⟨Like.self y, like_set (by simpa using h) hq⟩
theorem Chain.push : ∀ {l : List Pc} {a e t : Int} (s : Snt), Chain a l e → e < t → Chain a (l ++ [mkPc e t s]) t
  | [], _, _, _, s, h, ht => ⟨h, ht, fun h => (by cases h), Int.le_refl _⟩
  | p :: l, _, _, _, s, h, ht => ⟨h.1, h.2.1, h.2.2.1, h.2.2.2.push s ht⟩
theorem like_lose (p : Pc) : Like p (loseP p) := by
  unfold loseP
  split
  · rename_i hh
    refine ⟨rfl, rfl, fun _ hs => ?_⟩
    have hs : pSk p = true := hs
    simp [flyP, hs] at hh
  · exact Like.self p
theorem like_mark (u : Int) (xs : List (Int × Int)) (p : Pc) : Like p (markP u xs p) := by
  unfold markP
  split
  · exact ⟨rfl, rfl, fun _ _ => rfl⟩
  · exact Like.self p
theorem like_again (p : Pc) (s : Snt) : Like p (againP p s) := ⟨rfl, rfl, fun _ _ => rfl⟩
/-- What an op does. -/
def stepF (v : List Pc × Int) (o : OpR) : List Pc × Int :=
  if oK o.1 = 1 then (if o.2.length ≤ 8 ∧ mayF v (oU o.1) o.2 = true then ((passF (restL (oU o.1) o.2 v.1)).1, v.2) else v)
  else if oK o.1 = 2 then (v.1.map loseP, v.2)
  else if oK o.1 = 3 then (againF v.1 (oT o.1), v.2)
  else (v.1 ++ [mkPc v.2 (v.2 + 1 + (IntKind.u64.wrap (oN o.1)).tmod 5000) (oT o.1)], v.2 + 1 + (IntKind.u64.wrap (oN o.1)).tmod 5000)
/-- Behind so many ops. -/
structure OkB (n : Nat) (v : List Pc × Int) : Prop where
  chain : Chain 0 v.1 v.2
  few : v.1.length ≤ n
  low : v.2 ≤ 5000 * (n : Int)
theorem okB0 : OkB 0 ([], 0) := ⟨Int.le_refl 0, Nat.le_refl 0, by simp⟩
theorem mod5 (n : Int) : 0 ≤ (IntKind.u64.wrap n).tmod 5000 ∧ (IntKind.u64.wrap n).tmod 5000 < 5000 :=
  ⟨Int.tmod_nonneg _ (wu_range n).1, Int.tmod_lt_of_pos _ (by decide)⟩
theorem again_like (l : List Pc) (s : Snt) : AllP Like l (againF l s) := by
  unfold againF
  split
  · rename_i p hp
    split
    · exact like_refl l
    · exact like_set hp (like_again p s)
  · exact like_refl l
theorem OkB.step {n : Nat} {v : List Pc × Int} (h : OkB n v) (o : OpR) : OkB (n + 1) (stepF v o) := by
  have hm := mod5 (oN o.1)
  unfold stepF
  split
  · split
    · refine ⟨?_, ?_, by have := h.low; show v.2 ≤ _; omega⟩
      · exact Chain.like (like_pass _) (Chain.like (like_map (like_mark _ _) _) (h.chain.filter _))
      · have := restL_len (oU o.1) o.2 v.1 v.1.length
        rw [List.take_length] at this
        show (passF _).1.length ≤ _
        rw [pass_len]
        have := h.few; omega
    · exact ⟨h.chain, by have := h.few; omega, by have := h.low; omega⟩
  · split
    · exact ⟨Chain.like (like_map like_lose _) h.chain, by have := h.few; show (v.1.map loseP).length ≤ _; rw [List.length_map]; omega, by have := h.low; show v.2 ≤ _; omega⟩
    · split
      · exact ⟨Chain.like (again_like _ _) h.chain, by have := AllP_len (again_like v.1 (oT o.1)); have := h.few; show (againF _ _).length ≤ _; omega, by have := h.low; show v.2 ≤ _; omega⟩
      · exact ⟨h.chain.push _ (by omega), by have := h.few; show (_ ++ [_]).length ≤ _; simp; omega, by have := h.low; show v.2 + 1 + _ ≤ _; omega⟩
theorem OkB.pos {n : Nat} {v : List Pc × Int} (h : OkB n v) : 0 ≤ v.2 := h.chain.fin
theorem sent_end {n : Nat} {v : List Pc × Int} (h : OkB n v) (hn : n ≤ 200) (m : Int) (s : Snt) : IntKind.u64.wrap (IntKind.u64.wrap (v.2 + 1) + (IntKind.u64.wrap m).tmod 5000) = v.2 + 1 + (IntKind.u64.wrap m).tmod 5000 ∧
    sentF v v.2 (v.2 + 1 + (IntKind.u64.wrap m).tmod 5000) s = (0, (v.1 ++ [mkPc v.2 (v.2 + 1 + (IntKind.u64.wrap m).tmod 5000) s], v.2 + 1 + (IntKind.u64.wrap m).tmod 5000)) := by
  have hm := mod5 m
  have := h.pos
  have := h.low
  have := h.few
  constructor
  · rw [wu (n := v.2 + 1) (by omega) (by omega), wu (by omega) (by omega)]
  · rw [sentF, if_neg (by omega), if_neg (by omega)]
theorem wu_mod (n : Int) : IntKind.u64.wrap n = n % 18446744073709551616 := by
  simp [IntKind.wrap, IntKind.bits, IntKind.signed]
theorem add_sub (n a b : Int) : IntKind.u64.wrap (IntKind.u64.wrap (n + a) - b) = IntKind.u64.wrap (n + IntKind.u64.wrap (a - b)) := by
  simp only [wu_mod]; omega
theorem Chain.at : ∀ {l : List Pc} {a e : Int} {p : Pc} {m : List Pc}, Chain a l e → l = p :: m → a ≤ pFrom p ∧ pFrom p < pTo p ∧ (pSk p = true → pLo p = false) ∧ Chain (pTo p) m e
  | _, _, _, _, _, h, rfl => h
/-- What an op does to a board, walked. -/
theorem rd_ops {ps : List OpR} {i : Nat} {o : OpR} (h : ps[i]? = some o) : Rd (oS o.1) (rl (fun p : OpR => rarr (oS p.1) KR p.2) ps) KR o.2 := rd_rl h (rd_rarr _ _ _)
end BoardLaws

end Go.X
