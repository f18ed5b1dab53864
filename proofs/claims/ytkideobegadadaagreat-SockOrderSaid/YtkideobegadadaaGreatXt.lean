/- What is lent for a call, and what a law is. -/
import Derived.Test.YtkideobegadadaaGreatXs
namespace Go.X
variable {P : Program}

/-- It owns, and reads nothing. -/
class NoR (p : SP) : Prop where
  nor : ∀ w S R, p.h w S R → ∀ k, ¬ R k
instance : NoR emp := ⟨fun _ _ _ h => h.2⟩
instance (b : Nat) (L : List Lf) : NoR (blk b L) := ⟨fun _ _ _ h => h.2.2⟩
instance (b : Nat) (o : Obj) : NoR (obj b o) := ⟨fun _ _ _ h => h.2.2⟩
instance (s : Sl) (K : Ks) (xs : List (Ks.T K)) : NoR (arr s K xs) := ⟨fun _ _ _ h => h.2.2⟩
instance (A B : SP) [a : NoR A] [b : NoR B] : NoR (A ^ B) := ⟨fun _ _ _ ⟨_, _, _, _, h1, h2, _, hR, _⟩ k hk => ((hR k).1 hk).elim (a.nor _ _ _ h1 k) (b.nor _ _ _ h2 k)⟩
instance (p : Prop) (A : SP) [a : NoR A] : NoR (pur p A) := ⟨fun _ _ _ h => a.nor _ _ _ h.2⟩
instance {α : Type} (f : α → SP) [a : ∀ x, NoR (f x)] : NoR (ex f) := ⟨fun _ _ _ ⟨x, h⟩ => (a x).nor _ _ _ h⟩
/-- F can let A be read for a while. -/
class Lend (A F : SP) : Prop where
  lend : ∀ w S R, F.h w S R → ∃ R' : Nat → Prop, A.h w (fun _ => False) R' ∧ ∀ k, R' k → S k ∨ R k
instance lend_emp (F : SP) : Lend emp F := ⟨fun _ _ _ _ => ⟨fun _ => False, ⟨fun _ h => h, fun _ h => h⟩, fun _ h => h.elim⟩⟩
instance lend_rarr (s : Sl) (K : Ks) (xs : List (Ks.T K)) (F : SP) [t : Rd s F K xs] : Lend (rarr s K xs) F := ⟨fun w S R h => ⟨fun k => (∃ q, s.p = some q ∧ k = q.b) ∧ flat K xs ≠ [], ⟨t.rd w S R h, fun _ h => h, fun _ => Iff.rfl⟩,
  fun k ⟨⟨q, hq, hk⟩, hne⟩ => by rw [hk]; exact t.fp w S R h hne q hq⟩⟩
class IsNil {α : Type} (xs : List α) : Prop where
  nil : xs = []
instance {α : Type} : IsNil ([] : List α) := ⟨rfl⟩
instance (priority := 1100) lend_nil (K : Ks) (xs : List (Ks.T K)) (F : SP) [e : IsNil xs] : Lend (rarr ⟨none, 0, 0⟩ K xs) F := ⟨fun w S R _ => by
  rw [e.nil]
  exact ⟨fun _ => False, ⟨⟨⟨by simp [flat], fun _ => rfl, fun q hq => by cases hq⟩, rfl⟩, fun _ h => h, fun k => ⟨fun h => h.elim, fun h => h.2 rfl⟩⟩, fun _ h => h.elim⟩⟩
instance lend_star (A B F : SP) [a : Lend A F] [b : Lend B F] : Lend (A ^ B) F := ⟨fun w S R h => by
  obtain ⟨R1, h1, k1⟩ := a.lend w S R h
  obtain ⟨R2, h2, k2⟩ := b.lend w S R h
  exact ⟨fun k => R1 k ∨ R2 k, ⟨fun _ => False, R1, fun _ => False, R2, h1, h2, fun k => by simp, fun _ => Iff.rfl, fun _ h => h.elim, fun _ h => h.elim, fun _ _ h => h⟩, fun k hk => hk.elim (k1 k) (k2 k)⟩⟩
section
variable {w0 w : World} {S0 R0 : Nat → Prop} {F G A B Q : SP}
theorem Own.callL (h : Own w0 S0 R0 w (A ^ G)) (hl : Lend Q G) : ∃ S R, (A ^ Q).h w S R ∧ ∀ w' B, NoR B → Own w S R w' B → Dfr w w' ∧ Own w0 S0 R0 w' (B ^ G) := by
  obtain ⟨S, R, ⟨S1, R1, S2, R2, h1, h2, hS', hR', d1, d2, d3⟩, hS, hR⟩ := h.own
  obtain ⟨R3, hq, hr⟩ := hl.lend _ _ _ h2
  refine ⟨S1, fun k => R1 k ∨ R3 k, ⟨S1, R1, fun _ => False, R3, h1, hq, fun k => by simp, fun _ => Iff.rfl, fun _ _ h => h, fun k a b => (hr k b).elim (d1 k a) (d2 k a), fun _ _ h => h⟩, fun w' B hN ho => ?_⟩
  obtain ⟨S', R', hB, hs, hr'⟩ := ho.own
  refine ⟨ho.ext.dfr, ?_⟩
  have hsz := h.ext.size
  have hN' := hN.nor _ _ _ hB
  refine ⟨h.ext.trans' ho.ext fun i hi hk => (hS i ((hS' i).2 (.inl hk))).elim id fun h => absurd h (by omega), fun k => S' k ∨ S2 k, fun k => R' k ∨ R2 k, ⟨S', R', S2, R2, hB, G.ext h2 ho.ext (fun k a b => d1 k b a) (fun k a b => d2 k b a), fun _ => Iff.rfl, fun _ => Iff.rfl, ?_, ?_, fun k a => absurd a (hN' k)⟩, ?_, ?_⟩
  · intro k a b
    rcases hs k a with hh | hh
    · exact d1 k hh b
    · have := G.lt h2 (.inl b); omega
  · intro k a b
    rcases hs k a with hh | hh
    · exact d2 k hh b
    · have := G.lt h2 (.inr b); omega
  · rintro k (hk | hk)
    · rcases hs k hk with hh | hh
      · exact hS k ((hS' k).2 (.inl hh))
      · exact .inr (by omega)
    · exact hS k ((hS' k).2 (.inr hk))
  · rintro k (hk | hk)
    · exact absurd hk (hN' k)
    · exact hR k ((hR' k).2 (.inr hk))
/-- A call: A is handed over, Q is lent. -/
theorem w_callL {f : FuncId} {args : List V1} {rs : List Sh} {Post : Rs.T rs → SP} {K : Rs.T rs → WP} (t : Tri P f args rs (A ^ Q) Post) (h : Own w0 S0 R0 w F) [tk : Take A F G] [hl : Lend Q G] [hN : ∀ x, NoR (Post x)] (k : ∀ x w', Own w0 S0 R0 w' (Post x ^ G) → K x w') : call P f args rs K w := by
  obtain ⟨S, R, h1, h2⟩ := (h.le tk.le).callL hl
  exact CallX.mono (t w S R h1) fun v w' ⟨x, hv, ho⟩ => ⟨x, hv, (h2 w' _ (hN x) ho).1, k x w' (h2 w' _ (hN x) ho).2⟩
theorem w_callvL {f : Fv} {args : List V1} {rs : List Sh} {Post : Rs.T rs → SP} {K : Rs.T rs → WP} (t : TriV P f args rs (A ^ Q) Post) (h : Own w0 S0 R0 w F) [tk : Take A F G] [hl : Lend Q G] [hN : ∀ x, NoR (Post x)] (k : ∀ x w', Own w0 S0 R0 w' (Post x ^ G) → K x w') : callv P f args rs K w := by
  obtain ⟨S, R, h1, h2⟩ := (h.le tk.le).callL hl
  exact CallV.mono (t w S R h1) fun v w' ⟨x, hv, ho⟩ => ⟨x, hv, (h2 w' _ (hN x) ho).1, k x w' (h2 w' _ (hN x) ho).2⟩
/-- A law: it says yes, and turns nothing that was there. -/
theorem law_of {f : FuncId} {args : List V1} (t : Tri P f args [.lf .bool] A (fun r => pur (r = true) emp)) {R : Nat → Prop} (h : A.h w (fun _ => False) R) (he : ent P f = true) :
    Calls P f (args.map V1.enc).toArray w fun e w' => e = .returned (.bool true) ∧ RowKit.Below w.heap.size w w' := by
  refine callsIn_wide.1 (((t w _ R h).e he).2.mono ?_)
  rintro e w' ⟨v, rfl, x, rfl, ho⟩
  obtain ⟨S, R, h1, _⟩ := ho.own
  have hx : x = true := h1.1
  subst hx
  exact ⟨rfl, (ho.ext.mono fun _ _ h => h).below⟩
end
/-! ### Parts with a key -/
class TakeK {κ ν : Type} (rep : κ → ν → SP) (k : κ) (F : SP) (v : outParam ν) (G : outParam SP) : Prop where
  le : Le F (rep k v ^ G)
instance takeK_here {κ ν : Type} (rep : κ → ν → SP) (k : κ) (v : ν) (G : SP) : TakeK rep k (rep k v ^ G) v G := ⟨Le.rfl⟩
instance (priority := 900) takeK_last {κ ν : Type} (rep : κ → ν → SP) (k : κ) (v : ν) : TakeK rep k (rep k v) v emp := ⟨star_emp _⟩
instance (priority := 500) takeK_there {κ ν : Type} (rep : κ → ν → SP) (k : κ) (v : ν) (B F G : SP) [t : TakeK rep k F v G] : TakeK rep k (B ^ F) v (B ^ G) := ⟨(star_mono Le.rfl t.le).trans (star_swap _ _ _)⟩
instance (priority := 400) takeK_in {κ ν : Type} (rep : κ → ν → SP) (k : κ) (v : ν) (B C F G : SP) [t : TakeK rep k (B ^ C ^ F) v G] : TakeK rep k ((B ^ C) ^ F) v G := ⟨(star_assoc _ _ _).trans t.le⟩
section
variable {w0 w : World} {S0 R0 : Nat → Prop} {F G H A B Q : SP}
/-- A call of a method: the part is found by its key; the rest is lent. -/
theorem w_callK {κ ν : Type} {rep : κ → ν → SP} {kk : κ} {v : ν} {f : FuncId} {args : List V1} {rs : List Sh} {Post : ν → Rs.T rs → SP} {K : Rs.T rs → WP} (t : ∀ v, Tri P f args rs (rep kk v ^ Q) (Post v)) (h : Own w0 S0 R0 w F) [tk : TakeK rep kk F v G] [hl : Lend Q G] [hN : ∀ x, NoR (Post v x)]
    (k : ∀ x w', Own w0 S0 R0 w' (Post v x ^ G) → K x w') : call P f args rs K w := by
  obtain ⟨S, R, h1, h2⟩ := (h.le tk.le).callL hl
  exact CallX.mono (t v w S R h1) fun u w' ⟨x, hv, ho⟩ => ⟨x, hv, (h2 w' _ (hN x) ho).1, k x w' (h2 w' _ (hN x) ho).2⟩
end
end Go.X
