/- What is owned, and what may be read: a small logic of separate parts over the words of Xa. -/
import Derived.Test.YtkideobegadadaaGreatXm
namespace Go.X
variable {P : Program}

/-- A saying about some blocks that are owned, and some that are only read. -/
structure SP where
  h : World → (Nat → Prop) → (Nat → Prop) → Prop
  st : ∀ {w w' : World} {S R : Nat → Prop}, h w S R → (∀ k, S k ∨ R k → w'.heap[k]? = w.heap[k]?) → h w' S R
  nd : ∀ {w : World} {S R : Nat → Prop} {k : Nat}, h w S R → S k ∨ R k → ∃ o, w.heap[k]? = some o ∧ o ≠ openD
theorem SP.lt (p : SP) {w : World} {S R : Nat → Prop} {k : Nat} (h : p.h w S R) (hk : S k ∨ R k) : k < w.heap.size := by
  obtain ⟨o, ho, _⟩ := p.nd h hk
  exact (Array.getElem?_eq_some_iff.1 ho).1
theorem SP.ext (p : SP) {w w' : World} {S R T : Nat → Prop} (h : p.h w S R) (e : Ext T w w') (hS : ∀ k, S k → ¬ T k) (hR : ∀ k, R k → ¬ T k) : p.h w' S R :=
  p.st h fun k hk => e.same k (p.lt h hk) (hk.elim (hS k) (hR k))
def emp : SP := ⟨fun _ S R => (∀ k, ¬ S k) ∧ ∀ k, ¬ R k, fun h _ => h, fun h hk => (hk.elim (h.1 _) (h.2 _)).elim⟩
def star (p q : SP) : SP where
  h w S R := ∃ S1 R1 S2 R2 : Nat → Prop, p.h w S1 R1 ∧ q.h w S2 R2 ∧ (∀ k, S k ↔ S1 k ∨ S2 k) ∧ (∀ k, R k ↔ R1 k ∨ R2 k) ∧ (∀ k, S1 k → ¬ S2 k) ∧ (∀ k, S1 k → ¬ R2 k) ∧ ∀ k, R1 k → ¬ S2 k
  st := by
    rintro w w' S R ⟨S1, R1, S2, R2, h1, h2, hS, hR, d⟩ hw
    exact ⟨S1, R1, S2, R2, p.st h1 fun k hk => hw k (hk.imp (fun h => (hS k).2 (.inl h)) (fun h => (hR k).2 (.inl h))), q.st h2 fun k hk => hw k (hk.imp (fun h => (hS k).2 (.inr h)) (fun h => (hR k).2 (.inr h))), hS, hR, d⟩
  nd := by
    rintro w S R k ⟨S1, R1, S2, R2, h1, h2, hS, hR, d⟩ hk
    rcases hk with hk | hk
    · rcases (hS k).1 hk with hk | hk
      · exact p.nd h1 (.inl hk)
      · exact q.nd h2 (.inl hk)
    · rcases (hR k).1 hk with hk | hk
      · exact p.nd h1 (.inr hk)
      · exact q.nd h2 (.inr hk)
instance : HPow SP SP SP := ⟨star⟩
def ex {α : Type} (f : α → SP) : SP := ⟨fun w S R => ∃ a, (f a).h w S R, fun ⟨a, h⟩ hw => ⟨a, (f a).st h hw⟩, fun ⟨a, h⟩ hk => (f a).nd h hk⟩
def pur (p : Prop) (q : SP) : SP := ⟨fun w S R => p ∧ q.h w S R, fun ⟨a, h⟩ hw => ⟨a, q.st h hw⟩, fun ⟨_, h⟩ hk => q.nd h hk⟩
def Le (p q : SP) : Prop := ∀ w S R, p.h w S R → q.h w S R
theorem Le.rfl {p : SP} : Le p p := fun _ _ _ h => h
theorem Le.trans {p q r : SP} (h : Le p q) (k : Le q r) : Le p r := fun w S R x => k w S R (h w S R x)
theorem star_mono {p p' q q' : SP} (h : Le p p') (k : Le q q') : Le (p ^ q) (p' ^ q') := by
  rintro w S R ⟨S1, R1, S2, R2, h1, h2, d⟩
  exact ⟨S1, R1, S2, R2, h _ _ _ h1, k _ _ _ h2, d⟩
theorem star_comm (p q : SP) : Le (p ^ q) (q ^ p) := by
  rintro w S R ⟨S1, R1, S2, R2, h1, h2, hS, hR, d1, d2, d3⟩
  exact ⟨S2, R2, S1, R1, h2, h1, fun k => (hS k).trans Or.comm, fun k => (hR k).trans Or.comm, fun k a b => d1 k b a, fun k a b => d3 k b a, fun k a b => d2 k b a⟩
theorem star_assoc (p q r : SP) : Le ((p ^ q) ^ r) (p ^ q ^ r) := by
  rintro w S R ⟨S12, R12, S3, R3, ⟨S1, R1, S2, R2, h1, h2, hS', hR', e1, e2, e3⟩, h3, hS, hR, d1, d2, d3⟩
  refine ⟨S1, R1, fun k => S2 k ∨ S3 k, fun k => R2 k ∨ R3 k, h1, ⟨S2, R2, S3, R3, h2, h3, fun _ => Iff.rfl, fun _ => Iff.rfl, fun k a b => d1 k ((hS' k).2 (.inr a)) b, fun k a b => d2 k ((hS' k).2 (.inr a)) b, fun k a b => d3 k ((hR' k).2 (.inr a)) b⟩,
    fun k => (hS k).trans ⟨fun h => h.elim (fun h => ((hS' k).1 h).elim .inl fun h => .inr (.inl h)) fun h => .inr (.inr h), fun h => h.elim (fun h => .inl ((hS' k).2 (.inl h))) fun h => h.elim (fun h => .inl ((hS' k).2 (.inr h))) .inr⟩,
    fun k => (hR k).trans ⟨fun h => h.elim (fun h => ((hR' k).1 h).elim .inl fun h => .inr (.inl h)) fun h => .inr (.inr h), fun h => h.elim (fun h => .inl ((hR' k).2 (.inl h))) fun h => h.elim (fun h => .inl ((hR' k).2 (.inr h))) .inr⟩, ?_, ?_, ?_⟩
  · rintro k a (b | b)
    · exact e1 k a b
    · exact d1 k ((hS' k).2 (.inl a)) b
  · rintro k a (b | b)
    · exact e2 k a b
    · exact d2 k ((hS' k).2 (.inl a)) b
  · rintro k a (b | b)
    · exact e3 k a b
    · exact d3 k ((hR' k).2 (.inl a)) b
theorem star_assoc' (p q r : SP) : Le (p ^ q ^ r) ((p ^ q) ^ r) :=
  ((star_comm _ _).trans ((star_mono (star_comm _ _) Le.rfl).trans ((star_assoc _ _ _).trans ((star_comm _ _).trans (star_mono (star_comm _ _) Le.rfl)))))
theorem star_swap (p q r : SP) : Le (p ^ q ^ r) (q ^ p ^ r) := (star_assoc' _ _ _).trans ((star_mono (star_comm _ _) Le.rfl).trans (star_assoc _ _ _))
theorem star_emp (p : SP) : Le p (p ^ emp) := fun w S R h => ⟨S, R, fun _ => False, fun _ => False, h, ⟨fun _ h => h, fun _ h => h⟩, fun k => by simp, fun k => by simp, fun _ _ h => h, fun _ _ h => h, fun _ _ h => h⟩

/-! ### The state of a walk -/
/-- Since w0, of which S0 was owned and R0 was read, nothing but S0 and new blocks has turned; now F holds. -/
structure Own (w0 : World) (S0 R0 : Nat → Prop) (w : World) (F : SP) : Prop where
  ext : Ext S0 w0 w
  own : ∃ S R, F.h w S R ∧ (∀ k, S k → S0 k ∨ w0.heap.size ≤ k) ∧ ∀ k, R k → S0 k ∨ R0 k ∨ w0.heap.size ≤ k
section
variable {w0 w : World} {S0 R0 : Nat → Prop} {F G A B : SP}
theorem own_start (h : F.h w S0 R0) : Own w S0 R0 w F := ⟨Ext.refl _ _, S0, R0, h, fun _ h => .inl h, fun _ h => .inr (.inl h)⟩
theorem Own.le (h : Own w0 S0 R0 w F) (k : Le F G) : Own w0 S0 R0 w G := by
  obtain ⟨S, R, hF, hS, hR⟩ := h.own
  exact ⟨h.ext, S, R, k _ _ _ hF, hS, hR⟩
theorem Own.drop (h : Own w0 S0 R0 w (A ^ F)) : Own w0 S0 R0 w F := by
  obtain ⟨S, R, ⟨S1, R1, S2, R2, h1, h2, hS', hR', _⟩, hS, hR⟩ := h.own
  exact ⟨h.ext, S2, R2, h2, fun k hk => hS k ((hS' k).2 (.inr hk)), fun k hk => hR k ((hR' k).2 (.inr hk))⟩
theorem Own.keep (h : Own w0 S0 R0 w (A ^ F)) : Own w0 S0 R0 w A := (h.le (star_comm _ _)).drop
theorem Own.emp' (h : Own w0 S0 R0 w F) : Own w0 S0 R0 w emp := ((h.le (star_emp F)).drop)
theorem Own.exP {α : Type} {f : α → SP} (h : Own w0 S0 R0 w (ex f ^ F)) : ∃ a, Own w0 S0 R0 w (f a ^ F) := by
  obtain ⟨S, R, ⟨S1, R1, S2, R2, ⟨a, h1⟩, h2, d⟩, hS, hR⟩ := h.own
  exact ⟨a, h.ext, S, R, ⟨S1, R1, S2, R2, h1, h2, d⟩, hS, hR⟩
theorem Own.purP {p : Prop} {A : SP} (h : Own w0 S0 R0 w (pur p A ^ F)) : p ∧ Own w0 S0 R0 w (A ^ F) := by
  obtain ⟨S, R, ⟨S1, R1, S2, R2, ⟨hp, h1⟩, h2, d⟩, hS, hR⟩ := h.own
  exact ⟨hp, h.ext, S, R, ⟨S1, R1, S2, R2, h1, h2, d⟩, hS, hR⟩
theorem Own.toEx {α : Type} {f : α → SP} (a : α) (h : Own w0 S0 R0 w (f a ^ F)) : Own w0 S0 R0 w (X.ex f ^ F) := h.le (star_mono (fun _ _ _ h => ⟨a, h⟩) Le.rfl)
theorem Own.toPur {p : Prop} {A : SP} (hp : p) (h : Own w0 S0 R0 w (A ^ F)) : Own w0 S0 R0 w (X.pur p A ^ F) := h.le (star_mono (fun _ _ _ h => ⟨hp, h⟩) Le.rfl)
/-- Where one part is, what it says of the world, and how the world may turn. -/
theorem Own.part (h : Own w0 S0 R0 w (A ^ F)) : ∃ S R, A.h w S R ∧ (∀ k, S k → S0 k ∨ w0.heap.size ≤ k) ∧
    ∀ (w' : World) (B : SP) (S' R' : Nat → Prop), Ext S w w' → B.h w' S' R' → (∀ k, S' k → S k ∨ w.heap.size ≤ k) → (∀ k, R' k → S k ∨ R k ∨ w.heap.size ≤ k) → Own w0 S0 R0 w' (B ^ F) := by
  obtain ⟨S, R, ⟨S1, R1, S2, R2, h1, h2, hS', hR', d1, d2, d3⟩, hS, hR⟩ := h.own
  refine ⟨S1, R1, h1, fun k hk => hS k ((hS' k).2 (.inl hk)), fun w' B S' R' he hB hs hr => ?_⟩
  have hsz := h.ext.size
  refine ⟨h.ext.trans' he fun i hi hk => (hS i ((hS' i).2 (.inl hk))).elim id fun h => absurd h (by omega), fun k => S' k ∨ S2 k, fun k => R' k ∨ R2 k, ⟨S', R', S2, R2, hB, F.ext h2 he (fun k a b => d1 k b a) (fun k a b => d2 k b a), fun _ => Iff.rfl, fun _ => Iff.rfl, ?_, ?_, ?_⟩, ?_, ?_⟩
  · intro k a b
    rcases hs k a with hh | hh
    · exact d1 k hh b
    · have := F.lt h2 (.inl b); omega
  · intro k a b
    rcases hs k a with hh | hh
    · exact d2 k hh b
    · have := F.lt h2 (.inr b); omega
  · intro k a b
    rcases hr k a with hh | hh | hh
    · exact d1 k hh b
    · exact d3 k hh b
    · have := F.lt h2 (.inl b); omega
  · rintro k (hk | hk)
    · rcases hs k hk with hh | hh
      · exact hS k ((hS' k).2 (.inl hh))
      · exact .inr (by omega)
    · exact hS k ((hS' k).2 (.inr hk))
  · rintro k (hk | hk)
    · rcases hr k hk with hh | hh | hh
      · exact (hS k ((hS' k).2 (.inl hh))).imp id .inr
      · exact hR k ((hR' k).2 (.inl hh))
      · exact .inr (.inr (by omega))
    · exact hR k ((hR' k).2 (.inr hk))
/-- New blocks. -/
theorem Own.more (h : Own w0 S0 R0 w F) {w' : World} {B : SP} {S' : Nat → Prop} (he : Ext no1 w w') (hB : B.h w' S' (fun _ => False)) (hs : ∀ k, S' k → w.heap.size ≤ k) : Own w0 S0 R0 w' (B ^ F) := by
  have h := h.le ((star_emp F).trans (star_comm _ _))
  obtain ⟨S, R, h1, _, h2⟩ := h.part
  exact h2 w' B S' _ (he.mono fun _ _ h => h.elim) hB (fun k hk => .inr (hs k hk)) (fun _ h => h.elim)
theorem Own.same (h : Own w0 S0 R0 w F) {w' : World} (he : Ext no1 w w') : Own w0 S0 R0 w' F := by
  have h := h.le ((star_emp F).trans (star_comm _ _))
  obtain ⟨S, R, h1, _, h2⟩ := h.part
  exact (h2 w' emp (fun _ => False) (fun _ => False) (he.mono fun _ _ h => h.elim) ⟨fun _ h => h, fun _ h => h⟩ (fun _ h => h.elim) (fun _ h => h.elim)).drop
theorem Own.lv (h : Own w0 S0 R0 w F) {w' : World} (hl : Lv w0.heap.size w w') : Own w0 S0 R0 w' F := by
  obtain ⟨S, R, hF, hS, hR⟩ := h.own
  have e := h.ext
  refine ⟨⟨hl.os.trans e.os, hl.tape.trans e.tape, hl.output.trans e.output, by rw [hl.size]; exact e.size, fun k hk hn => ?_, fun k hk => ?_⟩, S, R, F.st hF fun k hk => ?_, hS, hR⟩
  · rw [hl.same k (.inl hk)]; exact e.same k hk hn
  · rw [hl.same k (.inl (Array.getElem?_eq_some_iff.1 hk).1)]; exact e.opn k hk
  · obtain ⟨o, ho, hne⟩ := F.nd hF hk
    exact hl.same k (.inr (by rw [ho]; exact fun hh => hne (Option.some.inj hh)))
end

/-! ### Finding a part -/
class Take (A F : SP) (G : outParam SP) : Prop where
  le : Le F (A ^ G)
instance take_here (A G : SP) : Take A (A ^ G) G := ⟨Le.rfl⟩
instance (priority := 500) take_there (A B F G : SP) [t : Take A F G] : Take A (B ^ F) (B ^ G) := ⟨(star_mono Le.rfl t.le).trans (star_swap _ _ _)⟩
instance (priority := 900) take_last (A : SP) : Take A A emp := ⟨star_emp A⟩
instance (priority := 950) take_emp (F : SP) : Take emp F F := ⟨(star_emp F).trans (star_comm _ _)⟩
instance (priority := 400) take_in (A B C F G : SP) [t : Take A (B ^ C ^ F) G] : Take A ((B ^ C) ^ F) G := ⟨(star_assoc _ _ _).trans t.le⟩
instance (priority := 1100) take_star (A B F G H : SP) [t : Take A F G] [u : Take B G H] : Take (A ^ B) F H := ⟨t.le.trans ((star_mono Le.rfl u.le).trans (star_assoc' _ _ _))⟩
theorem Own.take {w0 w : World} {S0 R0 : Nat → Prop} {F G : SP} (A : SP) [t : Take A F G] (h : Own w0 S0 R0 w F) : Own w0 S0 R0 w (A ^ G) := h.le t.le
/-- What is left over is let go. -/
theorem Own.fin {w0 w : World} {S0 R0 : Nat → Prop} {F G A : SP} (h : Own w0 S0 R0 w F) [t : Take A F G] : Own w0 S0 R0 w A := (h.le t.le).keep

/-! ### Blocks -/
def blk (b : Nat) (L : List Lf) : SP where
  h w S R := Blk w b L ∧ (∀ k, S k ↔ k = b) ∧ ∀ k, ¬ R k
  st := by
    rintro w w' S R ⟨⟨T, h⟩, hS, hR⟩ hw
    exact ⟨⟨T, by rw [hw b (.inl ((hS b).2 rfl))]; exact h⟩, hS, hR⟩
  nd := by
    rintro w S R k ⟨⟨T, h⟩, hS, hR⟩ hk
    rcases hk with hk | hk
    · rw [(hS k).1 hk]; exact ⟨_, h, by simp [openD]⟩
    · exact (hR k hk).elim
def obj (b : Nat) (o : Obj) : SP where
  h w S R := (w.heap[b]? = some o ∧ o ≠ openD) ∧ (∀ k, S k ↔ k = b) ∧ ∀ k, ¬ R k
  st := by
    rintro w w' S R ⟨h, hS, hR⟩ hw
    exact ⟨⟨by rw [hw b (.inl ((hS b).2 rfl))]; exact h.1, h.2⟩, hS, hR⟩
  nd := by
    rintro w S R k ⟨h, hS, hR⟩ hk
    rcases hk with hk | hk
    · rw [(hS k).1 hk]; exact ⟨_, h⟩
    · exact (hR k hk).elim
class TakeB (b : Nat) (F : SP) (L : outParam (List Lf)) (G : outParam SP) : Prop where
  le : Le F (blk b L ^ G)
instance takeB_here (b : Nat) (L : List Lf) (G : SP) : TakeB b (blk b L ^ G) L G := ⟨Le.rfl⟩
instance (priority := 900) takeB_last (b : Nat) (L : List Lf) : TakeB b (blk b L) L emp := ⟨star_emp _⟩
instance (priority := 400) takeB_in (b : Nat) (L : List Lf) (B C F G : SP) [t : TakeB b (B ^ C ^ F) L G] : TakeB b ((B ^ C) ^ F) L G := ⟨(star_assoc _ _ _).trans t.le⟩
instance (priority := 500) takeB_there (b : Nat) (L : List Lf) (B F G : SP) [t : TakeB b F L G] : TakeB b (B ^ F) L (B ^ G) := ⟨(star_mono Le.rfl t.le).trans (star_swap _ _ _)⟩

section
variable {w0 w : World} {S0 R0 : Nat → Prop} {F G A B : SP}
theorem Own.blkP {b : Nat} {L : List Lf} (h : Own w0 S0 R0 w (blk b L ^ F)) : Blk w b L ∧ ∀ (w' : World) (L' : List Lf), Ext (at1 b) w w' → Blk w' b L' → Own w0 S0 R0 w' (X.blk b L' ^ F) := by
  obtain ⟨S, R, ⟨h1, hS, hR⟩, _, h2⟩ := h.part
  exact ⟨h1, fun w' L' he hb => h2 w' (X.blk b L') S (fun _ => False) (he.mono fun k _ hk => (hS k).2 hk) ⟨hb, hS, fun _ h => h⟩ (fun _ h => .inl h) (fun _ h => h.elim)⟩
theorem w_new {ls : List Lf} {K : Nat → WP} (h : Own w0 S0 R0 w F) (k : ∀ b w', Own w0 S0 R0 w' (blk b ls ^ F) → K b w') : new ls K w :=
  fun w' he hb _ => k _ w' (h.more he (S' := fun k => k = w.heap.size) ⟨hb, fun _ => Iff.rfl, fun _ h => h⟩ (fun _ hk => by rw [hk]; exact Nat.le_refl _))
theorem un_mk : ∀ {ks : Ks} {x : Ks.T ks}, Ks.un ks (Ks.mk ks x) = some x := by
  intro ks
  have one : ∀ (c : CK) (x : c.T), c.un (c.mk x) = some x := fun c x => by cases c <;> simp [CK.un, CK.mk]
  induction ks with
  | nil => intro x; rfl
  | cons c ks ih =>
    cases ks with
    | nil => intro x; simp [Ks.un, Ks.mk, one]
    | cons d r => intro x; simp only [Ks.un, Ks.mk, one, ih]
theorem reads_of {b o : Nat} {L : List Lf} {ks : Ks} {x : Ks.T ks} (hb : Blk w b L) (hx : Ks.un ks ((L.drop o).take ks.length) = some x) : Reads w b o (Ks.mk ks x) := by
  have e := Ks.un_some hx
  refine hb.reads _ _ fun i hi => ?_
  rw [e]
  rw [e] at hi
  have hi2 : i < ks.length := by rw [List.length_take] at hi; omega
  rw [List.getElem?_take, if_pos hi2, List.getElem?_drop]
theorem w_ld {p : Pt} {ks : Ks} {K : Ks.T ks → WP} {L : List Lf} {x : Ks.T ks} (h : Own w0 S0 R0 w F) [t : TakeB p.b F L G] (hx : Ks.un ks ((L.drop p.o).take ks.length) = some x) (k : K x w) : ld ks p K w :=
  ⟨x, reads_of (h.le t.le).blkP.1 hx, k⟩
theorem w_chk {p : Pt} {ls : List Lf} {A : WP} {L : List Lf} (h : Own w0 S0 R0 w F) [t : TakeB p.b F L G] (hx : (L.drop p.o).take ls.length = ls) (k : A w) : chk p ls A w := by
  refine ⟨(h.le t.le).blkP.1.reads _ _ fun i hi => ?_, k⟩
  have : ((L.drop p.o).take ls.length)[i]? = ls[i]? := by rw [hx]
  rwa [List.getElem?_take, if_pos hi, List.getElem?_drop] at this
theorem w_st {p : Pt} {ls : List Lf} {A : WP} {L : List Lf} (h : Own w0 S0 R0 w F) [t : TakeB p.b F L G] (hx : p.o + ls.length ≤ L.length) (k : ∀ w', Own w0 S0 R0 w' (X.blk p.b (splice L p.o ls) ^ G) → A w') : st p ls A w := by
  obtain ⟨h1, h2⟩ := (h.le t.le).blkP
  exact ⟨L, h1, hx, fun w' he hb _ => k w' (h2 w' _ he hb)⟩
theorem w_drw {A : WP} (h : Own w0 S0 R0 w F) (k : ∀ w', Own w0 S0 R0 w' F → A w') : drw A w := fun w' he _ => k w' (h.same he)
theorem w_leave {A : WP} (h : Own w0 S0 R0 w F) (k : ∀ w', Own w0 S0 R0 w' F → A w') : leave w0.heap.size A w := fun w' hl => k w' (h.lv hl)
theorem w_ite {b : Bool} {A B : WP} (h1 : b = true → A w) (h2 : b = false → B w) : ite' b A B w := by
  cases b
  · exact h2 rfl
  · exact h1 rfl

/-! ### Calls -/
def Tri (P : Program) (f : FuncId) (args : List V1) (rs : List Sh) (Pre : SP) (Post : Rs.T rs → SP) : Prop :=
  ∀ w S R, Pre.h w S R → CallX P f (args.map V1.enc) w fun v w' => ∃ x, v = (retTV (Rs.mk rs x)).enc ∧ Own w S R w' (Post x)
def TriG (P : Program) (f : Fv) (args : List V1) (rs : List Sh) (Pre : SP) (Post : Rs.T rs → SP) : Prop :=
  ∀ w S R, Pre.h w S R → CallG P f (args.map V1.enc) w fun v w' => ∃ x, v = (retTV (Rs.mk rs x)).enc ∧ Own w S R w' (Post x)
def TriV (P : Program) (f : Fv) (args : List V1) (rs : List Sh) (Pre : SP) (Post : Rs.T rs → SP) : Prop :=
  ∀ w S R, Pre.h w S R → CallV P f (args.map V1.enc) w fun v w' => ∃ x, v = (retTV (Rs.mk rs x)).enc ∧ Own w S R w' (Post x)
theorem CallG.v {f : Fv} {args : List Value} {w : World} {R : Value → World → Prop} (h : CallG P f args w R) : CallV P f args w R := by
  cases f with
  | nil => exact h.elim
  | mk fn a c => cases fn with
    | func g => exact h
    | _ => exact h.elim
theorem TriG.v {f : Fv} {args : List V1} {rs : List Sh} {Pre : SP} {Post : Rs.T rs → SP} (h : TriG P f args rs Pre Post) : TriV P f args rs Pre Post := fun w S R hp => (h w S R hp).v
theorem Own.call {Pre : SP} (h : Own w0 S0 R0 w (Pre ^ G)) : ∃ S R, Pre.h w S R ∧ ∀ w' Q, Own w S R w' Q → Dfr w w' ∧ Own w0 S0 R0 w' (Q ^ G) := by
  obtain ⟨S, R, h1, _, h2⟩ := h.part
  refine ⟨S, R, h1, fun w' Q hq => ?_⟩
  obtain ⟨S', R', hQ, hs, hr⟩ := hq.own
  exact ⟨hq.ext.dfr, h2 w' Q S' R' hq.ext hQ hs hr⟩
theorem w_call {f : FuncId} {args : List V1} {rs : List Sh} {Pre : SP} {Post : Rs.T rs → SP} {K : Rs.T rs → WP} (t : Tri P f args rs Pre Post) (h : Own w0 S0 R0 w F) [tk : Take Pre F G] (k : ∀ x w', Own w0 S0 R0 w' (Post x ^ G) → K x w') : call P f args rs K w := by
  obtain ⟨S, R, h1, h2⟩ := (h.le tk.le).call
  exact CallX.mono (t w S R h1) fun v w' ⟨x, hv, ho⟩ => ⟨x, hv, (h2 w' _ ho).1, k x w' (h2 w' _ ho).2⟩
theorem w_callv {f : Fv} {args : List V1} {rs : List Sh} {Pre : SP} {Post : Rs.T rs → SP} {K : Rs.T rs → WP} (t : TriV P f args rs Pre Post) (h : Own w0 S0 R0 w F) [tk : Take Pre F G] (k : ∀ x w', Own w0 S0 R0 w' (Post x ^ G) → K x w') : callv P f args rs K w := by
  obtain ⟨S, R, h1, h2⟩ := (h.le tk.le).call
  exact CallV.mono (t w S R h1) fun v w' ⟨x, hv, ho⟩ => ⟨x, hv, (h2 w' _ ho).1, k x w' (h2 w' _ ho).2⟩
/-- A function by its reading. -/
theorem tri_of {f : FuncId} {args : List V1} {rs : List Sh} {Pre : SP} {Post : Rs.T rs → SP} {W : World → (Rs.T rs → WP) → WP} (hc : ∀ (R : Rs.T rs → WP) (w : World), W w R w → CallX P f (args.map V1.enc) w fun v w' => ∃ x, v = (retTV (Rs.mk rs x)).enc ∧ R x w')
    (h : ∀ w S R, Own w S R w Pre → W w (fun x w' => Own w S R w' (Post x)) w) : Tri P f args rs Pre Post :=
  fun w S R hp => hc _ w (h w S R (own_start hp))
end
end Go.X
