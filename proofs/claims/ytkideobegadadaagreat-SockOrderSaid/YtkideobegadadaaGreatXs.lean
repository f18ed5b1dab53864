/- Loops, joins, functions that are handed on, ranges over functions: in the logic of separate parts. -/
import Derived.Test.YtkideobegadadaaGreatXr
namespace Go.X
variable {P : Program}

def over : List Lf → List Lf → List Lf
  | _ :: L, l :: ls => l :: over L ls
  | L, [] => L
  | [], _ :: _ => []
def upd : List Lf → Nat → List Lf → List Lf
  | L, 0, ls => over L ls
  | a :: L, o + 1, ls => a :: upd L o ls
  | [], _ + 1, _ => []
theorem over_eq : ∀ {L ls : List Lf}, ls.length ≤ L.length → over L ls = ls ++ L.drop ls.length
  | [], [], _ => rfl
  | [], _ :: _, h => by simp at h
  | _ :: _, [], _ => rfl
  | _ :: L, l :: ls, h => by simp only [over, List.length_cons, List.drop_succ_cons, List.cons_append]; rw [over_eq (by simpa using h)]
theorem upd_eq : ∀ {L : List Lf} {o : Nat} {ls : List Lf}, o + ls.length ≤ L.length → upd L o ls = splice L o ls
  | L, 0, ls, h => by simp only [upd, splice]; rw [over_eq (by simpa using h)]; simp
  | a :: L, o + 1, ls, h => by
    simp only [upd, splice]
    rw [upd_eq (by simp at h; omega), splice]
    simp [Nat.add_right_comm]
  | [], o + 1, ls, h => by simp at h
section
variable {w0 w : World} {S0 R0 : Nat → Prop} {F G A B : SP}
theorem w_deref {q : Pt} {K : Pt → WP} (h : K q w) : deref (some q) K w := ⟨q, rfl, h⟩
theorem w_set {p : Pt} {ls : List Lf} {A : WP} {L : List Lf} (h : Own w0 S0 R0 w F) [t : TakeB p.b F L G] (hx : Nat.ble (p.o + ls.length) L.length = true) (k : ∀ w', Own w0 S0 R0 w' (X.blk p.b (upd L p.o ls) ^ G) → A w') : st p ls A w := by
  have hx := Nat.le_of_ble_eq_true hx
  exact w_st h hx fun w' h' => k w' (by rw [upd_eq hx]; exact h')
theorem w_setAll {b : Nat} {ls : List Lf} {A : WP} {L : List Lf} (h : Own w0 S0 R0 w F) [t : TakeB b F L G] (hx : ls.length = L.length) (k : ∀ w', Own w0 S0 R0 w' (X.blk b ls ^ G) → A w') : st ⟨b, 0⟩ ls A w :=
  w_st (p := ⟨b, 0⟩) h (by show 0 + _ ≤ _; omega) fun w' h' => k w' (by
    have e : splice L 0 ls = ls := by simp [splice, hx]
    have h' : Own w0 S0 R0 w' (X.blk b (splice L 0 ls) ^ G) := h'
    rw [e] at h'; exact h')
theorem Own.ret {F G : SP} {α : Type} {f : α → SP} (h : Own w0 S0 R0 w F) (a : α) [t : Take (f a) F G] : Own w0 S0 R0 w (X.ex f) := ((h.le t.le).toEx (f := f) a).keep
theorem Own.retP {p : Prop} {A : SP} (hp : p) (h : Own w0 S0 R0 w A) : Own w0 S0 R0 w (X.pur p A) := h.le (fun _ _ _ h => ⟨hp, h⟩)
theorem Own.retE {α : Type} {f : α → SP} (a : α) (h : Own w0 S0 R0 w (f a)) : Own w0 S0 R0 w (X.ex f) := h.le (fun _ _ _ h => ⟨a, h⟩)
theorem w_loop {cs : List CK} {x₀ : Ks.T cs} {B : (Ks.T cs → WP) → Ks.T cs → WP} (I : Ks.T cs → SP) (φ : Ks.T cs → Prop) (μ : Ks.T cs → Nat) (h : Own w0 S0 R0 w (I x₀)) (h0 : φ x₀)
    (hr : ∀ x w, φ x → Own w0 S0 R0 w (I x) → B (fun y w' => (φ y ∧ Own w0 S0 R0 w' (I y)) ∧ μ y < μ x) x w) : loop cs x₀ B w :=
  ⟨fun x w => φ x ∧ Own w0 S0 R0 w (I x), fun x _ => μ x, ⟨h0, h⟩, fun x w hx => hr x w hx.1 hx.2⟩
theorem w_join {cs : List CK} {A : (Ks.T cs → WP) → WP} {K : Ks.T cs → WP} (_h : Own w0 S0 R0 w F) (J : Ks.T cs → SP) (φ : Ks.T cs → Prop) (hK : ∀ x w, φ x → Own w0 S0 R0 w (J x) → K x w) (hA : A (fun x w => φ x ∧ Own w0 S0 R0 w (J x)) w) : join cs A K w :=
  ⟨fun x w => φ x ∧ Own w0 S0 R0 w (J x), fun x w hx => hK x w hx.1 hx.2, hA⟩
theorem tri_n {f : FuncId} {args : List V1} {rs : List Sh} {Pre : SP} {Post : Rs.T rs → SP} {W : Nat → (Rs.T rs → WP) → WP} (hc : ∀ (R : Rs.T rs → WP) (w : World), W w.heap.size R w → CallX P f (args.map V1.enc) w fun v w' => ∃ x, v = (retTV (Rs.mk rs x)).enc ∧ R x w')
    (h : ∀ w S R, Own w S R w Pre → W w.heap.size (fun x w' => Own w S R w' (Post x)) w) : Tri P f args rs Pre Post :=
  fun w S R hp => hc _ w (h w S R (own_start hp))
theorem tri_0 {f : FuncId} {args : List V1} {rs : List Sh} {Pre : SP} {Post : Rs.T rs → SP} {W : (Rs.T rs → WP) → WP} (hc : ∀ (R : Rs.T rs → WP) (w : World), W R w → CallX P f (args.map V1.enc) w fun v w' => ∃ x, v = (retTV (Rs.mk rs x)).enc ∧ R x w')
    (h : ∀ w S R, Own w S R w Pre → W (fun x w' => Own w S R w' (Post x)) w) : Tri P f args rs Pre Post :=
  fun w S R hp => hc _ w (h w S R (own_start hp))
theorem Tri.g {f : FuncId} {args caps : List V1} {rs : List Sh} {Pre : SP} {Post : Rs.T rs → SP} (t : Tri P f (args ++ caps) rs Pre Post) (he : ent P f = true := by kernel_rfl) : TriG P (.mk (.func f) [] (caps.map V1.enc)) args rs Pre Post := fun w S R hp => by
  have := (t w S R hp).e he
  rw [List.map_append] at this
  exact this
theorem Tri.le {f : FuncId} {args : List V1} {rs : List Sh} {Pre Pre' : SP} {Post Post' : Rs.T rs → SP} (t : Tri P f args rs Pre Post) (h1 : Le Pre' Pre) (h2 : ∀ x, Le (Post x) (Post' x)) : Tri P f args rs Pre' Post' :=
  fun w S R hp => (t w S R (h1 _ _ _ hp)).mono fun _ _ ⟨x, hv, ho⟩ => ⟨x, hv, ho.le (h2 x)⟩
theorem TriV.le {f : Fv} {args : List V1} {rs : List Sh} {Pre Pre' : SP} {Post Post' : Rs.T rs → SP} (t : TriV P f args rs Pre Post) (h1 : Le Pre' Pre) (h2 : ∀ x, Le (Post x) (Post' x)) : TriV P f args rs Pre' Post' :=
  fun w S R hp => (t w S R (h1 _ _ _ hp)).mono fun _ _ ⟨x, hv, ho⟩ => ⟨x, hv, ho.le (h2 x)⟩
theorem CallG.frame {f : Fv} {args : List V1} {rs : List Sh} {Pre : SP} {Post : Rs.T rs → SP} (t : TriG P f args rs Pre Post) (h : Own w0 S0 R0 w (Pre ^ G)) : CallG P f (args.map V1.enc) w fun v w' => Dfr w w' ∧ ∃ x, v = (retTV (Rs.mk rs x)).enc ∧ Own w0 S0 R0 w' (Post x ^ G) := by
  obtain ⟨S, R, h1, h2⟩ := h.call
  exact (t w S R h1).mono fun v w' ⟨x, hv, ho⟩ => ⟨(h2 w' _ ho).1, x, hv, (h2 w' _ ho).2⟩
/-! ### Functions that hand on, one by one -/
def either (A B : SP) : SP := ex fun b : Bool => cond b A B
/-- fv hands these on, in order, to whatever it is given, till that says no. -/
def Iter (P : Program) (fv : Fv) (C : SP) (rs : List Sh) (xs : List (Rs.T rs)) : Prop :=
  ∀ (y : Fv) (I : Nat → SP) (D : SP), (∀ i x, xs[i]? = some x → TriV P y (Rs.mk rs x) [.lf .bool] (I i) (fun c => cond c (I (i + 1)) D)) →
    TriG P fv [.lf (.fn y)] [] (C ^ I 0) (fun _ => C ^ either (I xs.length) D)
theorem Own.objP {l : Nat} {o : Obj} (h : Own w0 S0 R0 w (obj l o ^ F)) : w.heap[l]? = some o ∧ (∀ (w' : World) (o' : Obj), Ext (at1 l) w w' → w'.heap[l]? = some o' → o' ≠ openD → Own w0 S0 R0 w' (X.obj l o' ^ F)) ∧ ∀ w', Ext (at1 l) w w' → Own w0 S0 R0 w' F := by
  obtain ⟨S, R, ⟨h1, hS, hR⟩, _, h2⟩ := h.part
  refine ⟨h1.1, fun w' o' he ho hne => ?_, fun w' he => ?_⟩
  · exact h2 w' (X.obj l o') S (fun _ => False) (he.mono fun k _ hk => (hS k).2 hk) ⟨⟨ho, hne⟩, hS, fun _ h => h⟩ (fun _ h => .inl h) (fun _ h => h.elim)
  · exact (h2 w' emp (fun _ => False) (fun _ => False) (he.mono fun k _ hk => (hS k).2 hk) ⟨fun _ h => h, fun _ h => h⟩ (fun _ h => h.elim) (fun _ h => h.elim)).drop
/-- A range over such a function. -/
theorem w_range {fv : Fv} {C : SP} {rs : List Sh} {xs : List (Rs.T rs)} {B : Rs.T rs → (WP → WP) → WP → (Nat → WP) → WP} {K : Nat → WP} (it : Iter P fv C rs xs) (I : Nat → SP) (D : Nat → SP) (h : Own w0 S0 R0 w F) [tk : Take (C ^ I 0) F G]
    (hb : ∀ i x, xs[i]? = some x → ∀ (w : World) (S R : Nat → Prop) (mid : WP → WP) (next : WP) (jump : Nat → WP) (rdy bsy : SP),
      (∀ {A : WP} {w' : World} {F G : SP}, Own w S R w' F → ∀ [_t : Take rdy F G], (∀ w'', Own w S R w'' (bsy ^ G) → A w'') → mid A w') →
      (∀ {w' : World} {F G : SP}, Own w S R w' F → ∀ [_t : Take (bsy ^ I (i + 1)) F G], next w') →
      (∀ {w' : World} {F G : SP} (j : Nat), j ≠ 0 → Own w S R w' F → ∀ [_t : Take (bsy ^ D j) F G], jump j w') →
      Own w S R w (rdy ^ I i) → B x mid next jump w)
    (hK : ∀ w', Own w0 S0 R0 w' (C ^ I xs.length ^ G) → K 0 w') (hJ : ∀ j w', j ≠ 0 → Own w0 S0 R0 w' (C ^ D j ^ G) → K j w') : rangeF P fv rs B K w := by
  intro w1 l st busy hst hbu he hl1 hl2 hl0 hround
  have h1 : Own w0 S0 R0 w1 (obj l (st 0) ^ (C ^ I 0) ^ G) :=
    (h.le tk.le).more he (S' := fun k => k = l) ⟨⟨hl0, hst 0⟩, fun _ => Iff.rfl, fun _ h => h⟩ (fun k hk => by rw [hk]; exact hl1)
  have hit := it (.mk (.yield l) [] []) (fun i => obj l (st 0) ^ I i) (ex fun j => pur (j ≠ 0) (obj l (st j) ^ D j)) ?_
  · have h2 : Own w0 S0 R0 w1 ((C ^ obj l (st 0) ^ I 0) ^ G) := h1.le ((star_assoc' _ _ _).trans (star_mono (star_swap _ _ _) Le.rfl))
    refine (CallG.frame hit h2).mono fun v w2 ⟨hd, x, hv, ho⟩ => ⟨hd, ?_⟩
    have ho : Own w0 S0 R0 w2 (either (obj l (st 0) ^ I xs.length) (ex fun j => pur (j ≠ 0) (obj l (st j) ^ D j)) ^ C ^ G) := ho.le ((star_mono (star_comm _ _) Le.rfl).trans (star_assoc _ _ _))
    obtain ⟨b, ho⟩ := ho.exP
    cases b with
    | true =>
      have ho : Own w0 S0 R0 w2 (obj l (st 0) ^ I xs.length ^ C ^ G) := ho.le (star_assoc _ _ _)
      obtain ⟨e1, _, e3⟩ := ho.objP
      exact ⟨0, e1, fun w3 he3 _ => hK w3 ((e3 w3 he3).le (star_swap _ _ _))⟩
    | false =>
      obtain ⟨j, ho⟩ := Own.exP (f := fun j => pur (j ≠ 0) (X.obj l (st j) ^ D j)) ho
      obtain ⟨hj, ho⟩ := ho.purP
      have ho : Own w0 S0 R0 w2 (obj l (st j) ^ D j ^ C ^ G) := ho.le (star_assoc _ _ _)
      obtain ⟨e1, _, e3⟩ := ho.objP
      exact ⟨j, e1, fun w3 he3 _ => hJ j w3 hj ((e3 w3 he3).le (star_swap _ _ _))⟩
  · intro i x hx W S R hp
    have hW : Own W S R W (obj l (st 0) ^ I i) := own_start hp
    refine hround x W _ ?_ hW.objP.1
    refine hb i x hx W S R _ _ _ (obj l (st 0)) (obj l busy) ?_ ?_ ?_ hW
    · intro A w' F G hF t k
      obtain ⟨e1, e2, _⟩ := (hF.le t.le).objP
      exact ⟨e1, fun W1 h1 h2 _ => k W1 (e2 W1 _ h1 h2 hbu)⟩
    · intro w' F G hF t
      have hF := (hF.le t.le).le (star_assoc _ _ _)
      obtain ⟨e1, e2, _⟩ := hF.objP
      exact ⟨e1, fun W1 h1 h2 _ => ⟨true, rfl, ((e2 W1 _ h1 h2 (hst 0)).le (star_assoc' _ _ _)).keep⟩⟩
    · intro w' F G j hj hF t
      have hF := (hF.le t.le).le (star_assoc _ _ _)
      obtain ⟨e1, e2, _⟩ := hF.objP
      exact ⟨e1, fun W1 h1 h2 _ => ⟨false, rfl, Own.retE (f := fun j => pur (j ≠ 0) (X.obj l (st j) ^ D j)) j (Own.retP hj ((e2 W1 _ h1 h2 (hst j)).le (star_assoc' _ _ _)).keep)⟩⟩
end
end Go.X
