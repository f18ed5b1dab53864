/- More rules for slices: parts of them, what is cleared, what grows. -/
import Derived.Test.YtkideobegadadaaGreatXu
namespace Go.X
section
variable {P : Program} {w0 w : World} {S0 R0 : Nat → Prop} {F G A B : SP} {K : Ks} {xs ys : List (Ks.T K)} {s : Sl}
/-- It stands where it says. -/
def Nrm (s : Sl) : Prop := s.odd = false ∧ (s.cap ≠ 0 → s.p ≠ none)
theorem Nrm.some {s : Sl} {q : Pt} (h : s.p = some q) : Nrm s := ⟨Sl.norm_p h, fun _ e => by rw [h] at e; cases e⟩
theorem Nrm.own {w : World} {s : Sl} {sz : Nat} {L : List Lf} (h : SlOwn w s sz L) : Nrm s := by
  rcases h with ⟨_, h2, _⟩ | ⟨q, C, hp, _⟩
  · exact ⟨Sl.norm_c h2, fun e => absurd h2 e⟩
  · exact Nrm.some hp
theorem Nrm.long {w : World} {s : Sl} {sz : Nat} {L : List Lf} (h : SlRd w s sz L) (hl : s.len ≠ 0) : Nrm s := by
  cases hp : s.p with
  | none => exact absurd (h.2.1 hp) hl
  | some q => exact Nrm.some hp
/-- A part of an owned slice goes on; the rest is let go. -/
theorem w_slc {lo hi mx : Option Int} {n : Nat} {k : Sl → WP} (h : Own w0 S0 R0 w F) [t : TakeA s F K xs G] (l hh m : Nat) (hn : n = K.length) (hlo : bnd lo 0 l) (hhi : bnd hi s.len hh) (hmx : bnd mx s.cap m) (h1 : l ≤ hh) (h2 : hh ≤ xs.length) (h3 : hh ≤ m) (h4 : m ≤ s.cap)
    (hk : ∀ s', s'.len = hh - l → s'.cap = m - l → Own w0 S0 R0 w (X.arr s' K ((xs.take hh).drop l) ^ G) → k s' w) : slc s lo hi mx n k w := by
  subst hn
  obtain ⟨e1, _, _⟩ := (h.le t.le).arrP
  exact ⟨Nrm.own e1, l, hh, m, hlo, hhi, hmx, ⟨h1, h3, h4⟩, hk _ rfl rfl (h.sub s h1 h2 h3 h4)⟩
theorem Own.nrm (h : Own w0 S0 R0 w F) (s : Sl) [t : TakeA s F K xs G] : Nrm s := Nrm.own (h.le t.le).arrP.1
theorem own_cap (h : Own w0 S0 R0 w F) [t : TakeA s F K xs G] : s.len ≤ s.cap := by
  obtain ⟨h1, h2, _⟩ := (h.le t.le).arrP
  rcases h1 with ⟨a, b, _⟩ | ⟨_, _, _, _, c, _⟩ <;> omega
theorem SlRd.sub {l hh m : Nat} (h : SlRd w s K.length (flat K xs)) (hs : s.len = xs.length) (h1 : l ≤ hh) (h2 : hh ≤ xs.length) (h3 : hh ≤ m) : SlRd w (s.sub l hh m K.length) K.length (flat K ((xs.take hh).drop l)) ∧ (s.sub l hh m K.length).len = ((xs.take hh).drop l).length := by
  obtain ⟨e1, e2, e3⟩ := h
  have hlen : (s.sub l hh m K.length).len = hh - l := rfl
  have hl2 : ((xs.take hh).drop l).length = hh - l := by rw [List.length_drop, List.length_take]; omega
  refine ⟨⟨by rw [flat_len, hl2, hlen], fun hp => ?_, fun q hq => ?_⟩, by rw [hlen, hl2]⟩
  · rw [hlen]
    by_cases hml : m = l
    · omega
    · simp only [Sl.sub, if_neg hml, Option.map_eq_none_iff] at hp
      have := e2 hp; omega
  · by_cases hml : m = l
    · have : hh = l := by omega
      rw [this, List.drop_eq_nil_of_le (by rw [List.length_take]; omega)]; trivial
    · simp only [Sl.sub, if_neg hml] at hq
      cases hp : s.p with
      | none => rw [hp] at hq; cases hq
      | some q' =>
        rw [hp] at hq
        cases hq
        have hr := e3 q' hp
        have hle : l * K.length ≤ (flat K xs).length := by rw [flat_len]; exact Nat.mul_le_mul_right _ (by omega)
        have h4 := reads_part (n := (hh - l) * K.length) hr hle
        have e : flat K ((xs.take hh).drop l) = ((flat K xs).drop (l * K.length)).take ((hh - l) * K.length) := by
          rw [flat_drop, flat_take, List.drop_take]
          congr 1
          rw [Nat.sub_mul]
        rw [e]; exact h4
/-- A part of a slice that is read. -/
theorem rd_sub (s : Sl) (F : SP) (K : Ks) (xs : List (Ks.T K)) [t : Rd s F K xs] (l hh m : Nat) (h1 : l ≤ hh) (h2 : hh ≤ xs.length) (h3 : hh ≤ m) : Rd (s.sub l hh m K.length) F K ((xs.take hh).drop l) where
  rd w S R h := SlRd.sub (t.rd w S R h).1 (t.rd w S R h).2 h1 h2 h3
  fp w S R h hne q hq := by
    have hml : m ≠ l := fun e => hne (by
      have : hh = l := by omega
      rw [this, List.drop_eq_nil_of_le (by rw [List.length_take]; omega)]; rfl)
    simp only [Sl.sub, if_neg hml] at hq
    cases hp : s.p with
    | none => rw [hp] at hq; cases hq
    | some q' =>
      rw [hp] at hq
      cases hq
      refine t.fp w S R h (fun e => hne ?_) q' hp
      rw [flat_drop, flat_take, e]; simp
theorem w_slcR {lo hi mx : Option Int} {n : Nat} {k : Sl → WP} (_h : Own w0 S0 R0 w F) [t : Rd s F K xs] (hN : Nrm s) (l hh m : Nat) (hn : n = K.length) (hlo : bnd lo 0 l) (hhi : bnd hi s.len hh) (hmx : bnd mx s.cap m) (h1 : l ≤ hh) (h2 : hh ≤ xs.length) (h3 : hh ≤ m) (h4 : m ≤ s.cap)
    (hk : (s.sub l hh m n).len = hh - l → Rd (s.sub l hh m n) F K ((xs.take hh).drop l) → k (s.sub l hh m n) w) : slc s lo hi mx n k w := by
  subst hn
  exact ⟨hN, l, hh, m, hlo, hhi, hmx, ⟨h1, h3, h4⟩, hk rfl (rd_sub s F K xs l hh m h1 h2 h3)⟩
theorem rep_flat {zs : List Lf} {z : Ks.T K} (hz : zs = Ks.mk K z) (m : Nat) : rep m zs = flat K (List.replicate m z) := by
  induction m with
  | zero => rfl
  | succ m ih => simp only [rep, List.replicate_succ, List.flatten_cons, flat, List.flatMap_cons] at *; rw [ih, hz]
/-- What stands behind a place is cleared. -/
theorem w_clrTail {zs : List Lf} {z : Ks.T K} {k : WP} {l n : Nat} (h : Own w0 S0 R0 w F) [t : TakeA s F K xs G] (hn : n = K.length) (hz : zs = Ks.mk K z) (hl : l ≤ xs.length)
    (hk : ∀ w', Own w0 S0 R0 w' (X.arr s K (xs.take l ++ List.replicate (xs.length - l) z) ^ G) → k w') : clr zs (s.sub l xs.length s.cap n) k w := by
  subst hn
  obtain ⟨e1, e2, e3⟩ := (h.le t.le).arrP
  have hlen : (s.sub l xs.length s.cap K.length).len = xs.length - l := rfl
  by_cases hc0 : xs.length - l = 0
  · refine .inl ⟨.inr (by rw [hlen]; exact hc0), hk w ?_⟩
    have : xs.take l ++ List.replicate (xs.length - l) z = xs := by rw [hc0, List.replicate_zero, List.append_nil, List.take_of_length_le (by omega)]
    rw [this]; exact h.le t.le
  rcases e1 with ⟨c1, c2, c3⟩ | ⟨q, C, hq, hb, hle, hc, hC, hL, hg⟩
  · omega
  have hml : s.cap ≠ l := by omega
  have hp : (s.sub l xs.length s.cap K.length).p = some ⟨q.b, q.o + l * K.length⟩ := by simp [Sl.sub, hml, hq]
  have hzl : zs.length = K.length := by rw [hz, Ks.len]
  have m1 : xs.length * K.length ≤ s.cap * K.length := Nat.mul_le_mul_right _ (by omega)
  have m2 : (xs.length - l) * K.length + l * K.length = xs.length * K.length := by rw [← Nat.add_mul]; congr 1; omega
  have hbd : q.o + l * K.length + (rep (xs.length - l) zs).length ≤ C.length := by rw [rep_flat hz, flat_len, List.length_replicate]; omega
  refine .inr ⟨⟨q.b, q.o + l * K.length⟩, C, hp, by rw [hlen]; exact hc0, hb, by rw [hlen, hzl]; show q.o + l * K.length + _ ≤ _; omega, fun w' he hb' _ => hk w' ?_⟩
  rw [hlen] at hb'
  have hlen2 : (xs.take l ++ List.replicate (xs.length - l) z).length = xs.length := by rw [List.length_append, List.length_take, List.length_replicate]; omega
  refine e3 w' s K _ (he.mono fun k _ hk => ⟨q, hq, hk, hc⟩) (.inr ⟨q, _, hq, hb', hle, hc, by rw [splice_length hbd]; exact hC, by rw [flat_len, hlen2, e2], fun i hi => ?_⟩) (by rw [hlen2]; exact e2) (fun k hk => .inl hk)
  rw [flat_len, hlen2] at hi
  have hC2 : q.o + i < C.length := by omega
  show (splice C (q.o + l * K.length) _)[q.o + i]? = _
  have e4 : (rep (xs.length - l) zs).length = (xs.length - l) * K.length := by rw [rep_flat hz, flat_len, List.length_replicate]
  rw [splice_get hbd, flat_append, flat_take, ← rep_flat hz]
  by_cases c1 : i < l * K.length
  · rw [if_pos (by omega), hg i (by rw [flat_len]; omega), List.getElem?_append_left (by rw [List.length_take, flat_len]; omega), List.getElem?_take, if_pos c1]
  · rw [if_neg (by omega), if_pos (by omega), List.getElem?_append_right (by rw [List.length_take, flat_len]; omega)]
    congr 1
    rw [List.length_take, flat_len]; omega
theorem w_appz {zs : List Lf} {z : Ks.T K} {n : Nat} {c : Int} {k : Sl → WP} (h : Own w0 S0 R0 w F) [t : TakeA s F K xs G] (hn : n = K.length) (hz : zs = Ks.mk K z) (h0 : 0 ≤ c) (hl : (xs.length : Int) + c ≤ 4294967296)
    (hk : ∀ s' w', s'.len = xs.length + c.toNat → Own w0 S0 R0 w' (X.arr s' K (xs ++ List.replicate c.toNat z) ^ G) → k s' w') : appz zs n s c k w := by
  obtain ⟨h1, h2, h3⟩ := (h.le t.le).arrP
  subst hn
  refine ⟨_, h1, ⟨h0, by rw [h2]; exact hl⟩, fun w' s' e1 e2 e3 e4 => hk s' w' (by rw [e3, h2]) (h3 w' s' K _ e1 (by rw [flat_append, ← rep_flat hz]; exact e2) (by rw [e3, h2, List.length_append, List.length_replicate]) e4)⟩
/-- An append, and where it went. -/
theorem w_appC {n : Nat} {x : Sl} {ys : List (Ks.T K)} {k : Sl → WP} (h : Own w0 S0 R0 w F) [t : TakeA s F K xs G] [r : Rd x F K ys] (hn : n = K.length) (hl : xs.length + ys.length ≤ 4294967296)
    (hk : ∀ s' w', s'.len = xs.length + ys.length → (xs.length + ys.length ≤ s.cap → s' = ⟨s.p, xs.length + ys.length, s.cap⟩) → Own w0 S0 R0 w' (X.arr s' K (xs ++ ys) ^ G) → k s' w') : app n s x k w := by
  obtain ⟨h1, h2, h3⟩ := (h.le t.le).arrP
  obtain ⟨r1, r2⟩ := h.rd (s := x)
  subst hn
  refine ⟨_, _, h1, r1, by rw [h2, r2]; exact hl, fun w' s' e1 e2 e3 e4 _ e6 => hk s' w' (by rw [e3, h2, r2]) (fun hc => by rw [(e6 (by rw [h2, r2]; exact hc)).1, h2, r2]) (h3 w' s' K _ e1 (by rw [flat_append]; exact e2) (by rw [e3, h2, r2, List.length_append]) e4)⟩
/-- An owned slice as a block: what stands in it is known, the room behind is whatever it is. -/
theorem Own.arrBlk (h : Own w0 S0 R0 w F) (s : Sl) [t : TakeA s F K xs G] (hc : s.cap ≠ 0) : ∃ q C, s.p = some q ∧ s.len = xs.length ∧ s.len ≤ s.cap ∧ q.o + s.cap * K.length ≤ C.length ∧ (∀ i, i < xs.length * K.length → C[q.o + i]? = (flat K xs)[i]?) ∧ Own w0 S0 R0 w (X.blk q.b C ^ G) := by
  obtain ⟨S, R, ⟨⟨h1, hl⟩, hS, hR⟩, _, h2⟩ := (h.le t.le).part
  rcases h1 with ⟨_, c2, _⟩ | ⟨q, C, hq, hb, hle, _, hC, hL, hg⟩
  · exact absurd c2 hc
  · refine ⟨q, C, hq, hl, hle, hC, fun i hi => hg i (by rw [flat_len]; exact hi), h2 w (X.blk q.b C) S (fun _ => False) (Ext.refl _ _) ⟨hb, fun k => ?_, fun _ h => h⟩ (fun _ h => .inl h) (fun _ h => h.elim)⟩
    rw [hS k]
    exact ⟨fun ⟨q', hq', hk, _⟩ => by rw [hq] at hq'; cases hq'; exact hk, fun hk => ⟨q, hq, hk, hc⟩⟩
theorem Own.arrOf (h : Own w0 S0 R0 w F) (s : Sl) (q : Pt) {C : List Lf} [t : TakeB q.b F C G] (K : Ks) (xs : List (Ks.T K)) (hq : s.p = some q) (hl : s.len = xs.length) (hle : s.len ≤ s.cap) (hc : s.cap ≠ 0) (hC : q.o + s.cap * K.length ≤ C.length) (hg : ∀ i, i < xs.length * K.length → C[q.o + i]? = (flat K xs)[i]?) :
    Own w0 S0 R0 w (X.arr s K xs ^ G) := by
  obtain ⟨S, R, ⟨h1, hS, hR⟩, _, h2⟩ := (h.le t.le).part
  refine h2 w _ S (fun _ => False) (Ext.refl _ _) ⟨⟨.inr ⟨q, C, hq, h1, hle, hc, hC, by rw [flat_len, hl], fun i hi => hg i (by rw [flat_len] at hi; exact hi)⟩, hl⟩, fun k => ?_, fun _ h => h⟩ (fun _ h => .inl h) (fun _ h => h.elim)
  rw [hS k]
  exact ⟨fun hk => ⟨q, hq, hk, hc⟩, fun ⟨q', hq', hk, _⟩ => by rw [hq] at hq'; cases hq'; exact hk⟩
/-- The leaves of a block, told in another way. -/
theorem Own.blkEq {b : Nat} {L L' : List Lf} (h : Own w0 S0 R0 w F) [t : TakeB b F L G] (e : L = L') : Own w0 S0 R0 w (X.blk b L' ^ G) := by
  rw [← e]; exact h.le t.le
theorem Own.arrEq {s : Sl} {ys : List (Ks.T K)} (h : Own w0 S0 R0 w F) [t : TakeA s F K xs G] (e : xs = ys) : Own w0 S0 R0 w (X.arr s K ys ^ G) := by
  rw [← e]; exact h.le t.le
/-- There is one of which that is true, and it holds. -/
def exq {α : Type} (φ : α → Prop) (f : α → SP) : SP := ex fun a => pur (φ a) (f a)
instance {α : Type} (φ : α → Prop) (f : α → SP) [a : ∀ x, NoR (f x)] : NoR (exq φ f) := by unfold exq; infer_instance
theorem Own.inq {α : Type} {φ : α → Prop} {f : α → SP} (h : Own w0 S0 R0 w F) (a : α) (hp : φ a) [t : Take (f a) F G] : Own w0 S0 R0 w (X.exq φ f ^ G) :=
  ((h.le t.le).toPur (p := φ a) hp).toEx (f := fun a => X.pur (φ a) (f a)) a
theorem Own.outq {α : Type} {φ : α → Prop} {f : α → SP} (h : Own w0 S0 R0 w (X.exq φ f ^ F)) : ∃ a, φ a ∧ Own w0 S0 R0 w (f a ^ F) := by
  obtain ⟨a, h⟩ := Own.exP (f := fun a => X.pur (φ a) (f a)) h
  obtain ⟨hp, h⟩ := h.purP
  exact ⟨a, hp, h⟩
theorem Own.outq1 {α : Type} {φ : α → Prop} {f : α → SP} (h : Own w0 S0 R0 w (X.exq φ f)) : ∃ a, φ a ∧ Own w0 S0 R0 w (f a) := by
  obtain ⟨a, hp, h⟩ := (h.le (star_emp _)).outq
  exact ⟨a, hp, h.keep⟩
/-- A slice with three more places behind it, in which that stands. -/
def kept (s : Sl) (K : Ks) (xs : List (Ks.T K)) (f : Ks.T K) : SP := pur (s.len = xs.length ∧ xs.length + 3 ≤ s.cap ∧ s.p ≠ none) (arr ⟨s.p, xs.length + 3, s.cap⟩ K (xs ++ [f, f, f]))
instance (s : Sl) (K : Ks) (xs : List (Ks.T K)) (f : Ks.T K) : NoR (kept s K xs f) := by unfold kept; infer_instance
theorem sub_self {s : Sl} {n k m : Nat} (hp : s.p ≠ none) (hc : s.cap ≠ 0) : (⟨s.p, n, s.cap⟩ : Sl).sub 0 k s.cap m = ⟨s.p, k, s.cap⟩ := by
  obtain ⟨p, l, c⟩ := s
  cases p with
  | none => exact absurd rfl hp
  | some q => simp only [Sl.sub, if_neg hc, Option.map_some, Nat.zero_mul, Nat.add_zero, Nat.sub_zero]
instance rd_kept (s : Sl) (K : Ks) (xs : List (Ks.T K)) (f : Ks.T K) : Rd s (kept s K xs f) K xs where
  rd w S R h := by
    obtain ⟨⟨h1, h2, h3⟩, h⟩ := h
    have := (rd_sub ⟨s.p, xs.length + 3, s.cap⟩ (arr ⟨s.p, xs.length + 3, s.cap⟩ K (xs ++ [f, f, f])) K (xs ++ [f, f, f]) 0 xs.length s.cap (by omega) (by simp) (by omega)).rd w S R h
    rw [sub_self h3 (by omega), List.take_left, List.drop_zero] at this
    have e : (⟨s.p, xs.length, s.cap⟩ : Sl) = s := by cases s; simp only at h1; rw [h1]
    rwa [e] at this
  fp w S R h hne q hq := by
    obtain ⟨⟨h1, h2, h3⟩, h⟩ := h
    have := (rd_sub ⟨s.p, xs.length + 3, s.cap⟩ (arr ⟨s.p, xs.length + 3, s.cap⟩ K (xs ++ [f, f, f])) K (xs ++ [f, f, f]) 0 xs.length s.cap (by omega) (by simp) (by omega)).fp w S R h
    rw [sub_self h3 (by omega), List.take_left, List.drop_zero] at this
    exact this hne q hq
/-- One for each, to be read. -/
def rl {α : Type} (f : α → SP) : List α → SP
  | [] => emp
  | x :: xs => f x ^ rl f xs
theorem rd_rl {α : Type} {f : α → SP} {s : Sl} {K : Ks} {ys : List (Ks.T K)} : ∀ {l : List α} {i : Nat} {x : α}, l[i]? = some x → Rd s (f x) K ys → Rd s (rl f l) K ys
  | [], i, x, h, _ => by cases h
  | y :: l, 0, x, h, r => by
    cases h
    exact @rd_here s K ys (f y) (rl f l) r
  | y :: l, i + 1, x, h, r => by
    have := rd_rl (l := l) (i := i) (x := x) (by simpa using h) r
    exact @rd_there s K ys (f y) (rl f l) this
end
end Go.X
