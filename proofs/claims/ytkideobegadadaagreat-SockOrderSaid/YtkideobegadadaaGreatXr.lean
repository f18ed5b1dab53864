/- Slices, in the logic of separate parts. -/
import Derived.Test.YtkideobegadadaaGreatXq
namespace Go.X
variable {P : Program}

def flat (K : Ks) (xs : List (Ks.T K)) : List Lf := xs.flatMap (Ks.mk K)
theorem flat_len (K : Ks) (xs : List (Ks.T K)) : (flat K xs).length = xs.length * K.length := by
  induction xs with
  | nil => simp [flat]
  | cons x xs ih => simp only [flat, List.flatMap_cons, List.length_append, Ks.len, List.length_cons] at *; rw [ih, Nat.add_mul]; omega
theorem flat_append (K : Ks) (xs ys : List (Ks.T K)) : flat K (xs ++ ys) = flat K xs ++ flat K ys := by simp [flat]
theorem flat_get (K : Ks) : ∀ (xs : List (Ks.T K)) (j : Nat) (y : Ks.T K), xs[j]? = some y → ((flat K xs).drop (j * K.length)).take K.length = Ks.mk K y
  | [], j, y, h => by simp at h
  | x :: xs, 0, y, h => by
    simp at h; subst h
    simp only [flat, List.flatMap_cons, Nat.zero_mul, List.drop_zero]
    rw [List.take_append_of_le_length (by rw [Ks.len]; exact Nat.le_refl _), List.take_of_length_le (by rw [Ks.len]; exact Nat.le_refl _)]
  | x :: xs, j + 1, y, h => by
    have := flat_get K xs j y (by simpa using h)
    simp only [flat, List.flatMap_cons]
    rw [show (j + 1) * K.length = (Ks.mk K x).length + j * K.length by rw [Ks.len, Nat.add_mul]; omega, ← List.drop_drop, List.drop_left]
    exact this
theorem flat_cell (K : Ks) (xs : List (Ks.T K)) (j : Nat) (y : Ks.T K) (h : xs[j]? = some y) (i : Nat) (hi : i < K.length) : (flat K xs)[j * K.length + i]? = (Ks.mk K y)[i]? := by
  have := congrArg (fun z => z[i]?) (flat_get K xs j y h)
  simp only [List.getElem?_take, if_pos hi, List.getElem?_drop] at this
  exact this
theorem flat_take (K : Ks) (xs : List (Ks.T K)) (n : Nat) : flat K (xs.take n) = (flat K xs).take (n * K.length) := by
  induction n generalizing xs with
  | zero => simp [flat]
  | succ n ih =>
    cases xs with
    | nil => simp [flat]
    | cons x xs =>
      simp only [List.take_succ_cons, flat, List.flatMap_cons] at *
      rw [ih, show (n + 1) * K.length = (Ks.mk K x).length + n * K.length by rw [Ks.len, Nat.add_mul]; omega, List.take_length_add_append]
theorem flat_drop (K : Ks) (xs : List (Ks.T K)) (n : Nat) : flat K (xs.drop n) = (flat K xs).drop (n * K.length) := by
  induction n generalizing xs with
  | zero => simp [flat]
  | succ n ih =>
    cases xs with
    | nil => simp [flat]
    | cons x xs =>
      simp only [List.drop_succ_cons, flat, List.flatMap_cons] at *
      rw [ih, show (n + 1) * K.length = (Ks.mk K x).length + n * K.length by rw [Ks.len, Nat.add_mul]; omega, ← List.drop_drop, List.drop_left]
def Sl.ix (s : Sl) (j n : Nat) : Pt := ⟨(s.p.getD ⟨0, 0⟩).b, (s.p.getD ⟨0, 0⟩).o + j * n⟩

/-- A slice that is owned, and what it holds. -/
def arr (s : Sl) (K : Ks) (xs : List (Ks.T K)) : SP where
  h w S R := (SlOwn w s K.length (flat K xs) ∧ s.len = xs.length) ∧ (∀ k, S k ↔ s.own k) ∧ ∀ k, ¬ R k
  st := by
    rintro w w' S R ⟨⟨h, hl⟩, hS, hR⟩ hw
    refine ⟨⟨?_, hl⟩, hS, hR⟩
    rcases h with h | ⟨q, C, hp, ⟨T, hb⟩, hle, hc, r⟩
    · exact .inl h
    · exact .inr ⟨q, C, hp, ⟨T, by rw [hw q.b (.inl ((hS _).2 ⟨q, hp, rfl, hc⟩))]; exact hb⟩, hle, hc, r⟩
  nd := by
    rintro w S R k ⟨⟨h, hl⟩, hS, hR⟩ hk
    rcases hk with hk | hk
    · obtain ⟨q, hp, rfl, hc⟩ := (hS k).1 hk
      rcases h with ⟨_, h, _⟩ | ⟨q', C, hp', ⟨T, hb⟩, _⟩
      · exact absurd h hc
      · rw [hp] at hp'; cases hp'; exact ⟨_, hb, by simp [openD]⟩
    · exact (hR k hk).elim
/-- A slice that may be read. -/
def rarr (s : Sl) (K : Ks) (xs : List (Ks.T K)) : SP where
  h w S R := (SlRd w s K.length (flat K xs) ∧ s.len = xs.length) ∧ (∀ k, ¬ S k) ∧ ∀ k, R k ↔ (∃ q, s.p = some q ∧ k = q.b) ∧ flat K xs ≠ []
  st := by
    rintro w w' S R ⟨⟨⟨h1, h2, h3⟩, hl⟩, hS, hR⟩ hw
    refine ⟨⟨⟨h1, h2, fun q hq => ?_⟩, hl⟩, hS, hR⟩
    have hr := h3 q hq
    by_cases hne : flat K xs = []
    · rw [hne]; trivial
    · have hk := hw q.b (.inr ((hR _).2 ⟨⟨q, hq, rfl⟩, hne⟩))
      generalize flat K xs = ls at hr
      generalize q.o = o at hr
      clear hne h1 hR
      induction ls generalizing o with
      | nil => trivial
      | cons l ls ih => exact ⟨by rw [← hr.1]; exact World.cell?_of_block hk, ih _ hr.2⟩
  nd := by
    rintro w S R k ⟨⟨⟨h1, h2, h3⟩, hl⟩, hS, hR⟩ hk
    rcases hk with hk | hk
    · exact (hS k hk).elim
    · obtain ⟨⟨q, hq, rfl⟩, hne⟩ := (hR k).1 hk
      have hr := h3 q hq
      cases hf : flat K xs with
      | nil => exact absurd hf hne
      | cons l ls =>
        rw [hf] at hr
        have hc := hr.1
        cases hh : w.heap[q.b]? with
        | none => simp [World.cell?, hh] at hc
        | some o =>
          refine ⟨o, rfl, ?_⟩
          rintro rfl
          simp [World.cell?, hh] at hc
class Rd (s : Sl) (F : SP) (K : outParam Ks) (xs : outParam (List (Ks.T K))) : Prop where
  rd : ∀ w S R, F.h w S R → SlRd w s K.length (flat K xs) ∧ s.len = xs.length
  fp : ∀ w S R, F.h w S R → flat K xs ≠ [] → ∀ q, s.p = some q → S q.b ∨ R q.b
instance rd_arr (s : Sl) (K : Ks) (xs : List (Ks.T K)) : Rd s (arr s K xs) K xs := ⟨fun _ _ _ h => ⟨h.1.1.read, h.1.2⟩, fun w S R h hne q hq => by
  refine .inl ((h.2.1 _).2 ⟨q, hq, rfl, fun hc => hne ?_⟩)
  rcases h.1.1 with ⟨_, _, h3⟩ | ⟨_, _, _, _, _, h3, _⟩
  · exact h3
  · exact absurd hc h3⟩
instance rd_rarr (s : Sl) (K : Ks) (xs : List (Ks.T K)) : Rd s (rarr s K xs) K xs := ⟨fun _ _ _ h => ⟨h.1.1, h.1.2⟩, fun _ _ _ h hne q hq => .inr ((h.2.2 _).2 ⟨⟨q, hq, rfl⟩, hne⟩)⟩
instance (priority := 900) rd_here (s : Sl) (K : Ks) (xs : List (Ks.T K)) (A F : SP) [t : Rd s A K xs] : Rd s (A ^ F) K xs := ⟨fun _ _ _ ⟨_, _, _, _, h, _⟩ => t.rd _ _ _ h, fun _ _ _ ⟨_, _, _, _, h, _, hS, hR, _⟩ hne q hq => (t.fp _ _ _ h hne q hq).imp (fun x => (hS _).2 (.inl x)) (fun x => (hR _).2 (.inl x))⟩
instance (priority := 500) rd_there (s : Sl) (K : Ks) (xs : List (Ks.T K)) (A F : SP) [t : Rd s F K xs] : Rd s (A ^ F) K xs := ⟨fun _ _ _ ⟨_, _, _, _, _, h, _⟩ => t.rd _ _ _ h, fun _ _ _ ⟨_, _, _, _, _, h, hS, hR, _⟩ hne q hq => (t.fp _ _ _ h hne q hq).imp (fun x => (hS _).2 (.inr x)) (fun x => (hR _).2 (.inr x))⟩
class TakeA (s : Sl) (F : SP) (K : outParam Ks) (xs : outParam (List (Ks.T K))) (G : outParam SP) : Prop where
  le : Le F (arr s K xs ^ G)
instance takeA_here (s : Sl) (K : Ks) (xs : List (Ks.T K)) (G : SP) : TakeA s (arr s K xs ^ G) K xs G := ⟨Le.rfl⟩
instance (priority := 900) takeA_last (s : Sl) (K : Ks) (xs : List (Ks.T K)) : TakeA s (arr s K xs) K xs emp := ⟨star_emp _⟩
instance (priority := 400) takeA_in (s : Sl) (K : Ks) (xs : List (Ks.T K)) (B C F G : SP) [t : TakeA s (B ^ C ^ F) K xs G] : TakeA s ((B ^ C) ^ F) K xs G := ⟨(star_assoc _ _ _).trans t.le⟩
instance (priority := 500) takeA_there (s : Sl) (K : Ks) (xs : List (Ks.T K)) (B F G : SP) [t : TakeA s F K xs G] : TakeA s (B ^ F) K xs (B ^ G) := ⟨(star_mono Le.rfl t.le).trans (star_swap _ _ _)⟩
section
variable {w0 w : World} {S0 R0 : Nat → Prop} {F G A B : SP} {K : Ks} {xs : List (Ks.T K)} {s : Sl}
theorem Own.rd (h : Own w0 S0 R0 w F) [t : Rd s F K xs] : SlRd w s K.length (flat K xs) ∧ s.len = xs.length := by
  obtain ⟨S, R, hF, _⟩ := h.own
  exact t.rd _ _ _ hF
theorem Own.arrP (h : Own w0 S0 R0 w (arr s K xs ^ F)) : SlOwn w s K.length (flat K xs) ∧ s.len = xs.length ∧
    ∀ (w' : World) (s' : Sl) (K' : Ks) (ys : List (Ks.T K')), Ext s.own w w' → SlOwn w' s' K'.length (flat K' ys) → s'.len = ys.length → (∀ k, s'.own k → s.own k ∨ w.heap.size ≤ k) → Own w0 S0 R0 w' (X.arr s' K' ys ^ F) := by
  obtain ⟨S, R, ⟨h1, hS, hR⟩, _, h2⟩ := h.part
  exact ⟨h1.1, h1.2, fun w' s' K' ys he hb hl hg => h2 w' (X.arr s' K' ys) s'.own (fun _ => False) (he.mono fun k _ hk => (hS k).2 hk) ⟨⟨hb, hl⟩, fun _ => Iff.rfl, fun _ h => h⟩ (fun k hk => (hg k hk).imp (hS k).2 id) (fun _ h => h.elim)⟩
theorem w_idx {i : Int} {n : Nat} {k : Pt → WP} (h : Own w0 S0 R0 w F) [t : Rd s F K xs] (h0 : 0 ≤ i) (h1 : i.toNat < xs.length) (hk : k (s.ix i.toNat n) w) : idx s i n k w := by
  obtain ⟨⟨_, hn, _⟩, hl⟩ := h.rd (s := s)
  cases hp : s.p with
  | none => have := hn hp; omega
  | some q =>
    refine ⟨q, hp, ⟨h0, by omega⟩, ?_⟩
    have : s.ix i.toNat n = ⟨q.b, q.o + i.toNat * n⟩ := by simp [Sl.ix, hp]
    rw [← this]; exact hk
theorem reads_app {b : Nat} : ∀ {o : Nat} {ls ms : List Lf}, Reads w b o (ls ++ ms) → Reads w b (o + ls.length) ms
  | _, [], _, h => h
  | o, l :: ls, ms, h => by
    have := reads_app (o := o + 1) (ls := ls) h.2
    rw [show o + 1 + ls.length = o + (l :: ls).length by simp; omega] at this
    exact this
theorem reads_take {b : Nat} : ∀ {o : Nat} {ls ms : List Lf}, Reads w b o (ls ++ ms) → Reads w b o ls
  | _, [], _, _ => trivial
  | _, _ :: _, _, h => ⟨h.1, reads_take h.2⟩
theorem reads_part {b o f n : Nat} {ls : List Lf} (h : Reads w b o ls) (hf : f ≤ ls.length) : Reads w b (o + f) ((ls.drop f).take n) := by
  have h1 : Reads w b o (ls.take f ++ ls.drop f) := by rw [List.take_append_drop]; exact h
  have h2 := reads_app h1
  rw [List.length_take, Nat.min_eq_left hf] at h2
  have h3 : Reads w b (o + f) ((ls.drop f).take n ++ (ls.drop f).drop n) := by rw [List.take_append_drop]; exact h2
  exact reads_take h3
theorem rd_elem {j f n : Nat} {y : Ks.T K} (h : SlRd w s K.length (flat K xs)) (hy : xs[j]? = some y) (hf : f ≤ K.length) : Reads w (s.ix j K.length).b ((s.ix j K.length).o + f) (((Ks.mk K y).drop f).take n) := by
  have hj : j < xs.length := (List.getElem?_eq_some_iff.1 hy).1
  obtain ⟨h1, h2, h3⟩ := h
  by_cases hK : K.length = 0
  · have : Ks.mk K y = [] := List.eq_nil_of_length_eq_zero (by rw [Ks.len]; exact hK)
    rw [this]; simp; trivial
  · cases hp : s.p with
    | none =>
      have := h2 hp
      rw [this, flat_len, Nat.zero_mul] at h1
      rcases Nat.mul_eq_zero.1 h1 with h1 | h1
      · omega
      · exact absurd h1 hK
    | some q =>
      have hr := h3 q hp
      have hle : j * K.length ≤ (flat K xs).length := by rw [flat_len]; exact Nat.mul_le_mul_right _ (Nat.le_of_lt hj)
      have h4 := reads_part (n := K.length) hr hle
      rw [flat_get K xs j y hy] at h4
      have h5 := reads_part (n := n) h4 (f := f) (by rw [Ks.len]; exact hf)
      simp only [Sl.ix, hp, Option.getD_some]
      exact h5
/-- A part of an element is read. -/
theorem w_ldA {p : Pt} {ks : Ks} {k : Ks.T ks → WP} {x : Ks.T ks} (h : Own w0 S0 R0 w F) (s : Sl) [t : Rd s F K xs] (j f : Nat) (y : Ks.T K) (hy : xs[j]? = some y) (hp : p = ⟨(s.ix j K.length).b, (s.ix j K.length).o + f⟩) (hf : f ≤ K.length)
    (hx : Ks.un ks (((Ks.mk K y).drop f).take ks.length) = some x) (hk : k x w) : ld ks p k w := by
  refine ⟨x, ?_, hk⟩
  rw [Ks.un_some hx, hp]
  exact rd_elem (h.rd (s := s)).1 hy hf
theorem w_chkA {p : Pt} {ls : List Lf} {A : WP} (h : Own w0 S0 R0 w F) (s : Sl) [t : Rd s F K xs] (j f : Nat) (y : Ks.T K) (hy : xs[j]? = some y) (hp : p = ⟨(s.ix j K.length).b, (s.ix j K.length).o + f⟩) (hf : f ≤ K.length)
    (hx : ((Ks.mk K y).drop f).take ls.length = ls) (hk : A w) : chk p ls A w := by
  refine ⟨?_, hk⟩
  rw [hp, ← hx]
  exact rd_elem (h.rd (s := s)).1 hy hf
theorem splice_list (L M N : List Lf) (o : Nat) (h1 : L.length = N.length) (hb : o + M.length ≤ L.length) (h2 : ∀ i, i < N.length → N[i]? = if i < o then L[i]? else if i < o + M.length then M[i - o]? else L[i]?) : splice L o M = N := by
  apply List.ext_getElem?
  intro i
  by_cases hi : i < N.length
  · rw [splice_get hb, h2 i hi]
  · rw [List.getElem?_eq_none (by rw [splice_length hb]; omega), List.getElem?_eq_none (by omega)]
theorem flat_set {j : Nat} {y z : Ks.T K} {f : Nat} {ls : List Lf} (hy : xs[j]? = some y) (hz : Ks.mk K z = splice (Ks.mk K y) f ls) (hf : f + ls.length ≤ K.length) : flat K (xs.set j z) = splice (flat K xs) (j * K.length + f) ls := by
  have hj : j < xs.length := (List.getElem?_eq_some_iff.1 hy).1
  have hb : j * K.length + f + ls.length ≤ (flat K xs).length := by
    rw [flat_len]
    have : (j + 1) * K.length ≤ xs.length * K.length := Nat.mul_le_mul_right _ hj
    rw [Nat.add_mul] at this
    omega
  by_cases hK : K.length = 0
  · have h1 : flat K (xs.set j z) = [] := List.eq_nil_of_length_eq_zero (by rw [flat_len, hK, Nat.mul_zero])
    have h2 : flat K xs = [] := List.eq_nil_of_length_eq_zero (by rw [flat_len, hK, Nat.mul_zero])
    have h3 : ls = [] := List.eq_nil_of_length_eq_zero (by omega)
    rw [h1, h2, h3]; simp [splice]
  · symm
    refine splice_list _ _ _ _ (by simp [flat_len]) hb fun i hi => ?_
    rw [flat_len, List.length_set] at hi
    obtain ⟨a, ha⟩ : ∃ a, a = i / K.length := ⟨_, rfl⟩
    obtain ⟨c, hc⟩ : ∃ c, c = i % K.length := ⟨_, rfl⟩
    have hi' : i = a * K.length + c := by rw [ha, hc, Nat.mul_comm]; exact (Nat.div_add_mod i K.length).symm
    have hcl : c < K.length := by rw [hc]; exact Nat.mod_lt _ (by omega)
    have hal : a < xs.length := by rw [ha]; exact Nat.div_lt_of_lt_mul (by rw [Nat.mul_comm]; exact hi)
    have ex : xs[a]? = some xs[a] := List.getElem?_eq_getElem hal
    rw [hi', flat_cell K xs a xs[a] ex c hcl]
    by_cases haj : a = j
    · subst haj
      have hyy : xs[a] = y := by rw [ex] at hy; exact Option.some.inj hy
      rw [flat_cell K (xs.set a z) a z (by simp [hal]) c hcl, hz, hyy, splice_get (by rw [Ks.len]; exact hf)]
      by_cases h1 : c < f
      · rw [if_pos h1, if_pos (show a * K.length + c < a * K.length + f by omega)]
      · rw [if_neg h1, if_neg (show ¬ a * K.length + c < a * K.length + f by omega)]
        by_cases h2 : c < f + ls.length
        · rw [if_pos h2, if_pos (show a * K.length + c < a * K.length + f + ls.length by omega)]; congr 1; omega
        · rw [if_neg h2, if_neg (show ¬ a * K.length + c < a * K.length + f + ls.length by omega)]
    · rw [flat_cell K (xs.set j z) a xs[a] (by rw [List.getElem?_set_ne (Ne.symm haj)]; exact ex) c hcl]
      rcases Nat.lt_or_gt_of_ne haj with hlt | hgt
      · have : (a + 1) * K.length ≤ j * K.length := Nat.mul_le_mul_right _ hlt
        rw [Nat.add_mul] at this
        rw [if_pos (by omega)]
      · have : (j + 1) * K.length ≤ a * K.length := Nat.mul_le_mul_right _ hgt
        rw [Nat.add_mul] at this
        rw [if_neg (by omega), if_neg (by omega)]
/-- A part of an element is written. -/
theorem w_stA {p : Pt} {ls : List Lf} {A : WP} (h : Own w0 S0 R0 w F) (s : Sl) [t : TakeA s F K xs G] (j f : Nat) (y z : Ks.T K) (hy : xs[j]? = some y) (hp : p = ⟨(s.ix j K.length).b, (s.ix j K.length).o + f⟩) (hf : f + ls.length ≤ K.length) (hls : ls ≠ [])
    (hz : Ks.mk K z = splice (Ks.mk K y) f ls) (hk : ∀ w', Own w0 S0 R0 w' (X.arr s K (xs.set j z) ^ G) → A w') : st p ls A w := by
  obtain ⟨h1, h2, h3⟩ := (h.le t.le).arrP
  have hj : j < xs.length := (List.getElem?_eq_some_iff.1 hy).1
  have hlp : 0 < ls.length := List.length_pos_iff.2 hls
  rcases h1 with ⟨e1, _, _⟩ | ⟨q, C, hq, hb, hle, hc, hC, hL, hg⟩
  · omega
  have hfl := flat_len K xs
  have hjk : (j + 1) * K.length ≤ xs.length * K.length := Nat.mul_le_mul_right _ hj
  rw [Nat.add_mul] at hjk
  have hcap : s.len * K.length ≤ s.cap * K.length := Nat.mul_le_mul_right _ hle
  rw [h2] at hcap
  have hpo : p = ⟨q.b, q.o + (j * K.length + f)⟩ := by rw [hp]; simp [Sl.ix, hq]; omega
  have hbound : q.o + (j * K.length + f) + ls.length ≤ C.length := by omega
  refine ⟨C, by rw [hpo]; exact hb, by rw [hpo]; exact hbound, fun w' he hb' _ => hk w' ?_⟩
  rw [hpo] at he hb'
  refine h3 w' s K (xs.set j z) (he.mono fun k _ hk => ⟨q, hq, hk, hc⟩) (.inr ⟨q, _, hq, hb', hle, hc, by rw [splice_length hbound]; exact hC, by rw [flat_len, List.length_set, h2], fun i hi => ?_⟩) (by rw [List.length_set]; exact h2) (fun k hk => .inl hk)
  rw [flat_len, List.length_set] at hi
  rw [flat_set hy hz hf, splice_get hbound, splice_get (by omega)]
  by_cases c1 : i < j * K.length + f
  · rw [if_pos (by omega), if_pos c1, hg i (by omega)]
  · rw [if_neg (by omega), if_neg c1]
    by_cases c2 : i < j * K.length + f + ls.length
    · rw [if_pos (by omega), if_pos c2]; congr 1; omega
    · rw [if_neg (by omega), if_neg c2, hg i (by omega)]
theorem own_nil : SlOwn w ⟨none, 0, 0⟩ K.length (flat K []) := .inl ⟨rfl, rfl, rfl⟩
theorem Own.nil (h : Own w0 S0 R0 w F) (K : Ks) : Own w0 S0 R0 w (X.arr ⟨none, 0, 0⟩ K [] ^ F) := by
  have h := h.le ((star_emp F).trans (star_comm _ _))
  obtain ⟨S, R, _, _, h2⟩ := h.part
  exact h2 w (X.arr ⟨none, 0, 0⟩ K []) (fun _ => False) (fun _ => False) (Ext.refl _ _) ⟨⟨own_nil, rfl⟩, fun k => ⟨fun h => h.elim, fun ⟨q, hq, _⟩ => by cases hq⟩, fun _ h => h⟩ (fun _ h => h.elim) (fun _ h => h.elim)
/-- A block that is new as a slice. -/
theorem Own.blkArr (h : Own w0 S0 R0 w F) (b : Nat) {L : List Lf} [t : TakeB b F L G] (K : Ks) (ys : List (Ks.T K)) (hL : L = flat K ys) (hn : ys ≠ []) : Own w0 S0 R0 w (X.arr ⟨some ⟨b, 0⟩, ys.length, ys.length⟩ K ys ^ G) := by
  obtain ⟨S, R, ⟨h1, hS, hR⟩, _, h2⟩ := (h.le t.le).part
  have hlen : ys.length ≠ 0 := fun hh => hn (List.eq_nil_of_length_eq_zero hh)
  refine h2 w _ S (fun _ => False) (Ext.refl _ _) ⟨⟨.inr ⟨⟨b, 0⟩, L, rfl, h1, Nat.le_refl _, hlen, by rw [hL, flat_len]; simp, by rw [flat_len], fun i hi => by rw [hL]; simp⟩, rfl⟩, fun k => ?_, fun _ h => h⟩ (fun _ h => .inl h) (fun _ h => h.elim)
  rw [hS k]
  exact ⟨fun hk => ⟨⟨b, 0⟩, rfl, hk, hlen⟩, fun ⟨q, hq, hk, _⟩ => by cases hq; exact hk⟩
theorem w_app {n : Nat} {x : Sl} {ys : List (Ks.T K)} {k : Sl → WP} (h : Own w0 S0 R0 w F) [t : TakeA s F K xs G] [r : Rd x F K ys] (hn : n = K.length) (hl : xs.length + ys.length ≤ 4294967296)
    (hk : ∀ s' w', s'.len = xs.length + ys.length → Own w0 S0 R0 w' (X.arr s' K (xs ++ ys) ^ G) → k s' w') : app n s x k w := by
  obtain ⟨h1, h2, h3⟩ := (h.le t.le).arrP
  obtain ⟨r1, r2⟩ := h.rd (s := x)
  subst hn
  refine ⟨_, _, h1, r1, by rw [h2, r2]; exact hl, fun w' s' e1 e2 e3 e4 _ _ => hk s' w' (by rw [e3, h2, r2]) (h3 w' s' K _ e1 (by rw [flat_append]; exact e2) (by rw [e3, h2, r2, List.length_append]) e4)⟩
theorem w_mk {zs : List Lf} {len cap : Int} {z : Ks.T K} {k : Sl → WP} (h : Own w0 S0 R0 w F) (hz : zs = Ks.mk K z) (h0 : 0 ≤ len) (h1 : len ≤ cap) (h2 : cap ≤ 4294967296)
    (hk : ∀ s w', s.len = len.toNat → s.cap = cap.toNat → Own w0 S0 R0 w' (X.arr s K (List.replicate len.toNat z) ^ F) → k s w') : mk zs len cap k w := by
  refine ⟨⟨h0, h1, h2⟩, fun w' he hb _ => hk _ w' rfl rfl (h.more he (S' := fun k => k = w.heap.size ∧ cap.toNat ≠ 0) ⟨⟨?_, by simp⟩, fun k => ?_, fun _ h => h⟩ (fun _ hk => by rw [hk.1]; exact Nat.le_refl _))⟩
  · have hrep : ∀ m, rep m zs = flat K (List.replicate m z) := fun m => by
      induction m with
      | zero => rfl
      | succ m ih => simp only [rep, List.replicate_succ, List.flatten_cons, flat, List.flatMap_cons] at *; rw [ih, hz]
    by_cases hc : cap.toNat = 0
    · have : len.toNat = 0 := by omega
      rw [this]
      exact .inl ⟨rfl, hc, rfl⟩
    · refine .inr ⟨⟨w.heap.size, 0⟩, _, rfl, hb, ?_, hc, ?_, ?_, fun i hi => ?_⟩
      · show len.toNat ≤ cap.toNat; omega
      · rw [hrep, flat_len, List.length_replicate]; simp
      · rw [flat_len, List.length_replicate]
      · rw [flat_len, List.length_replicate] at hi
        rw [hrep, Nat.zero_add]
        have : List.replicate len.toNat z = (List.replicate cap.toNat z).take len.toNat := by rw [List.take_replicate, Nat.min_eq_left (by omega)]
        rw [this, flat_take, List.getElem?_take, if_pos hi]
  · exact ⟨fun ⟨a, b⟩ => ⟨⟨w.heap.size, 0⟩, rfl, a, b⟩, fun ⟨q, hq, a, b⟩ => by cases hq; exact ⟨a, b⟩⟩
/-- A part of a slice that is owned. -/
theorem Own.sub (h : Own w0 S0 R0 w F) (s : Sl) [t : TakeA s F K xs G] {l hh m : Nat} (h1 : l ≤ hh) (h2 : hh ≤ xs.length) (h3 : hh ≤ m) (h4 : m ≤ s.cap) : Own w0 S0 R0 w (X.arr (s.sub l hh m K.length) K ((xs.take hh).drop l) ^ G) := by
  obtain ⟨e1, e2, e3⟩ := (h.le t.le).arrP
  have hlen : (s.sub l hh m K.length).len = hh - l := rfl
  have hcap : (s.sub l hh m K.length).cap = m - l := rfl
  refine e3 w _ K _ (Ext.refl _ _) ?_ (by rw [hlen, List.length_drop, List.length_take]; omega) ?_
  · rcases e1 with ⟨c1, c2, c3⟩ | ⟨q, C, hq, hb, hle, hc, hC, hL, hg⟩
    · refine .inl ⟨by rw [hlen]; omega, by rw [hcap]; omega, ?_⟩
      have : xs.length = 0 := by omega
      have : xs = [] := List.eq_nil_of_length_eq_zero this
      rw [this]; simp [flat]
    · by_cases hml : m = l
      · refine .inl ⟨by rw [hlen]; omega, by rw [hcap]; omega, ?_⟩
        have : hh = l := by omega
        rw [this, List.drop_eq_nil_of_le (by rw [List.length_take]; omega)]; rfl
      · have hp : (s.sub l hh m K.length).p = some ⟨q.b, q.o + l * K.length⟩ := by simp [Sl.sub, hml, hq]
        have m1 : m * K.length ≤ s.cap * K.length := Nat.mul_le_mul_right _ h4
        have m2 : (m - l) * K.length + l * K.length = m * K.length := by rw [← Nat.add_mul]; congr 1; omega
        have m3 : (hh - l) * K.length + l * K.length = hh * K.length := by rw [← Nat.add_mul]; congr 1; omega
        have m4 : hh * K.length ≤ xs.length * K.length := Nat.mul_le_mul_right _ h2
        refine .inr ⟨_, C, hp, hb, by rw [hlen, hcap]; omega, by rw [hcap]; omega, by rw [hcap]; show q.o + l * K.length + (m - l) * K.length ≤ C.length; omega, by rw [flat_len, hlen, List.length_drop, List.length_take]; congr 1; omega, fun i hi => ?_⟩
        rw [flat_len, List.length_drop, List.length_take, Nat.min_eq_left h2] at hi
        rw [flat_drop, flat_take, List.getElem?_drop, List.getElem?_take, if_pos (by omega)]
        rw [← hg _ (by rw [flat_len]; omega)]
        show C[q.o + l * K.length + i]? = _
        congr 1; omega
  · rintro k ⟨q, hq, hk, hc⟩
    rw [hcap] at hc
    have hml : m ≠ l := by omega
    simp only [Sl.sub, if_neg hml] at hq
    cases hp : s.p with
    | none => rw [hp] at hq; cases hq
    | some q' =>
      rw [hp] at hq
      cases hq
      exact .inl ⟨q', hp, hk, by omega⟩
/-- An owned slice, read for a while. -/
theorem arr_rarr (s : Sl) (K : Ks) (xs : List (Ks.T K)) {w : World} {S R : Nat → Prop} (h : (X.arr s K xs).h w S R) : (X.rarr s K xs).h w (fun _ => False) (fun k => (∃ q, s.p = some q ∧ k = q.b) ∧ flat K xs ≠ []) :=
  ⟨⟨h.1.1.read, h.1.2⟩, fun _ h => h, fun _ => Iff.rfl⟩
end
end Go.X
