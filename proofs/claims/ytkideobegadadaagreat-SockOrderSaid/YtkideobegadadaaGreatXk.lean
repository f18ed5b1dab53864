/- The reading of Xb is sound, ninth part: code. -/
import Derived.Test.YtkideobegadadaaGreatXj
import Derived.RangeFuncRecord
import Derived.Deep.LoopGhost
namespace Go.X
variable {P : Program}

/-! ### Two rules -/
section
variable {F : Fence} {n : Nat} {Q : Exit → Act → World → Prop} {a : Act} {w : World} {b : Frame} {k : List Item} {cs : List Frame}
theorem stepR_scope' {c : Code} : step P (lone (b.atR a (.code (.scope c) :: k)) cs w) = .next (lone (b.atR a (.code c :: .inScope c :: k)) cs w) :=
  step_lone_go (by simp [stepG, stepG.exec, Frame.atR])
theorem stepR_inScope' {c : Code} : step P (lone (b.atR a (.inScope c :: k)) cs w) = .next (lone (b.atR a k) cs w) :=
  step_lone_go (by simp [stepG, stepG.exec, Frame.atR])
theorem wpIn_scope' {c : Code} (h : c.wpIn F n P (Exit.noGoto Q) a w) : (Code.scope c).wpIn F n P Q a w := by
  intro b k cs hro hb hr
  have h0 : (lone (b.atR a (.code (.scope c) :: k)) cs w).fenced P F := fenced_calm hb hr rfl
  obtain ⟨e, a₁, w₁, hq, harr⟩ := h b (.inScope c :: k) cs hro hb hr
  cases e with
  | normal => exact ⟨.normal, a₁, w₁, hq, .head h0 stepR_scope' (StepsIn.trans harr (.one (fenced_calm hb hr rfl) stepR_inScope'))⟩
  | exit id =>
    have hx : exitTo id (.inScope c :: k) = exitTo id k := by simp [exitTo]
    exact ⟨.exit id, a₁, w₁, hq, fun k' hk => .head h0 stepR_scope' (harr.1 k' (by rw [hx]; exact hk)),
      fun hr' hk => let ⟨k₁, h1, h2⟩ := harr.2 hr' (by rw [hx]; exact hk); ⟨k₁, h1, .head h0 stepR_scope' h2⟩⟩
  | goto l => exact hq.elim
  | ret => exact ⟨_, a₁, w₁, hq, .of_steps (.one h0 stepR_scope') harr⟩
  | panic ch => exact ⟨_, a₁, w₁, hq, .of_steps (.one h0 stepR_scope') harr⟩
  | outgrown => exact ⟨_, a₁, w₁, hq, .of_steps (.one h0 stepR_scope') harr⟩
theorem wpIn_loop' {c : Code} (I : Nat → Act → World → Prop) (n₀ : Nat) (h₀ : I n₀ a w)
    (round : ∀ m a w, I m a w → c.wpIn F n P (Exit.then (fun a' w' => ∃ n', n' < m ∧ I n' a' w') Q) a w) : (Code.loop c).wpIn F n P Q a w := by
  refine wpIn_loop (fun a w => ∃ n, I n a w) (fun a w => leastOf (fun n => I n a w)) ⟨n₀, h₀⟩ ?_
  intro a w hI
  refine wpIn_mono (round _ a w (leastOf_spec hI).1) ?_
  intro e a' w' hq
  cases e with
  | normal =>
    obtain ⟨n', hlt, hI'⟩ := hq
    exact show (∃ n, I n a' w') ∧ leastOf (fun n => I n a' w') < leastOf (fun n => I n a w) from ⟨⟨n', hI'⟩, Nat.lt_of_le_of_lt ((leastOf_spec ⟨n', hI'⟩).2 n' hI') hlt⟩
  | exit id => exact hq
  | goto l => exact hq
  | ret => exact hq
  | panic ch => exact hq
  | outgrown => exact hq
end

/-! ### Marks -/
abbrev markD (D : Nat) : Deferred := { target := .collected D, args := #[] }
structure Marks (n0 : Nat) (ds : List Deferred) (w : World) : Prop where
  all : ∀ d ∈ ds, ∃ D, d = markD D ∧ n0 ≤ D ∧ w.heap[D]? = some openD
  nd : ds.Pairwise (· ≠ ·)
theorem Marks.dfr {n0 : Nat} {ds : List Deferred} {w w' : World} (h : Marks n0 ds w) (hd : Dfr w w') : Marks n0 ds w' :=
  ⟨fun d hdm => let ⟨D, e, h1, h2⟩ := h.all d hdm; ⟨D, e, h1, hd.opn D h2⟩, h.nd⟩
theorem Marks.nil (n0 : Nat) (w : World) : Marks n0 [] w := ⟨fun _ h => absurd h (by simp), List.Pairwise.nil⟩

/-! ### Packing -/
theorem Agr.clean {e : Env} {a : Act} (h : Agr e a) : Agr (cleanE e) a := by
  have hl : ∀ e : Env, (cleanE e).length = e.length := fun e => by
    induction e with
    | nil => rfl
    | cons x e ih => cases x <;> simp [cleanE, ih]
  have hg : ∀ (e : Env) (i : Nat), (cleanE e).get i = .un ∨ (cleanE e).get i = e.get i := fun e => by
    induction e with
    | nil => intro i; exact .inl rfl
    | cons x e ih => intro i; cases i with
      | zero => cases x <;> simp [cleanE, Env.get]
      | succ i => cases x <;> simpa [cleanE, Env.get] using ih i
  refine ⟨by rw [hl, h.len], fun i => ?_⟩
  rcases hg e i with hh | hh <;> rw [hh]
  · trivial
  · exact h.ok i
theorem clean_get (e : Env) (i : Nat) : (cleanE e).get i = .un ∨ ∃ v, (cleanE e).get i = .val v := by
  induction e generalizing i with
  | nil => exact .inl rfl
  | cons x e ih => cases i with
    | zero => cases x <;> simp [cleanE, Env.get]
    | succ i => cases x <;> simpa [cleanE, Env.get] using ih i
theorem havoc_len : ∀ (ws : List Nat) (e : Env), (havocE ws e).length = e.length
  | [], _ => rfl
  | d :: r, e => by rw [havocE, havoc_len r, Env.len_set]
theorem havoc_get : ∀ (ws : List Nat) (e : Env) (i : Nat), (havocE ws e).get i = .un ∨ (memN i ws = false ∧ (havocE ws e).get i = e.get i)
  | [], _, _ => .inr ⟨rfl, rfl⟩
  | d :: r, e, i => by
    simp only [havocE, memN]
    rcases havoc_get r (e.set d .un) i with h | ⟨h1, h2⟩
    · exact .inl h
    · rw [h2, Env.get_set]
      split
      · exact .inl rfl
      · rename_i hh
        by_cases hd : i = d
        · subst hd
          left
          exact Env.get_past e i (by omega)
        · right
          refine ⟨?_, rfl⟩
          rw [h1, Bool.or_false]
          cases hb : Nat.beq d i with
          | false => rfl
          | true => exact absurd (Eq.symm (Nat.eq_of_beq_eq_true hb)) hd
theorem Agr.base {c : Code} {e : Env} {a a1 : Act} (h : Agr e a) (k : KeepL (writes c) a a1) : Agr (baseE c e) a1 := by
  have hc := h.clean
  refine ⟨by rw [baseE, havoc_len, hc.len, k.size], fun i => ?_⟩
  rcases havoc_get (writes c) (cleanE e) i with hh | ⟨h1, h2⟩
  · rw [baseE, hh]; trivial
  · rw [baseE, h2]
    have := hc.ok i
    rcases clean_get e i with hu | ⟨v, hv⟩
    · rw [hu]; trivial
    · rw [hv] at this ⊢
      simp only [EntOk] at this ⊢
      rw [k.same i h1]; exact this
theorem Agr.put_same {e : Env} {a : Act} (h : Agr e a) {n : Nat} {v : TV} (hv : a.tmps[n]? = some v.enc) : Agr (e.put (some n) (.val v)) a := by
  refine ⟨by rw [← h.len]; simp [Env.put, Env.len_set], fun i => ?_⟩
  simp only [Env.put]
  rw [Env.get_set]
  split
  · rename_i hh; rw [hh.1]; exact hv
  · rw [Env.get_map _ rfl]
    have := h.ok i
    cases hx : e.get i with
    | un => trivial
    | val u => rw [hx] at this; exact this
    | gv j b u =>
      rw [hx] at this
      simp only [purge]
      split
      · trivial
      · exact this
theorem unpack_ok {e1 : Env} {a1 : Act} (h1 : Agr e1 a1) : ∀ {sl : List Slot} {ls : List Lf} {e0 : Env}, Agr e0 a1 → packL e1 sl = some ls → Agr (unpackE sl ls e0) a1
  | [], ls, e0, h0, _ => h0
  | (n, .lf c) :: r, ls, e0, h0, hp => by
    simp only [packL] at hp
    split at hp
    · rename_i l hl
      split at hp
      · rename_i ls' hr
        cases hp
        simp only [unpackE]
        exact unpack_ok h1 (h0.put_same (h1.val hl)) hr
      · cases hp
    · cases hp
  | (n, .agg cs) :: r, ls, e0, h0, hp => by
    simp only [packL] at hp
    split at hp
    · rename_i xs hl
      split at hp
      · rename_i ls' hb hr
        cases hp
        have hlen := Nat.eq_of_beq_eq_true hb
        simp only [unpackE]
        rw [← hlen]
        simp only [List.drop_left, List.take_left]
        exact unpack_ok h1 (h0.put_same (h1.val hl)) hr
      · cases hp
    · cases hp
theorem pack_ok {c : Code} {e e1 : Env} {a a1 : Act} {sl : List Slot} {J : Ks.T (kindsL sl) → WP} {w : World} (h : Agr e a) (k : KeepL (writes c) a a1) (h1 : Agr e1 a1) (hp : packK sl e1 J w) :
    ∃ x, J x w ∧ Agr (unpackK c sl e x) a1 := by
  unfold packK at hp
  cases hl : packL e1 sl with
  | none => rw [hl] at hp; exact hp.elim
  | some ls =>
    rw [hl] at hp
    simp only at hp
    cases hu : Ks.un (kindsL sl) ls with
    | none => rw [hu] at hp; exact hp.elim
    | some x =>
      rw [hu] at hp
      refine ⟨x, hp, ?_⟩
      unfold unpackK
      rw [Ks.un_some hu]
      exact unpack_ok h1 (h.base k) hl

/-! ### Code -/
/-- What is known at a code's end. -/
structure St (n0 : Nat) (ws : List Nat) (hr : Bool) (a : Act) (e' : Env) (a' : Act) (w' : World) : Prop where
  agr : Agr e' a'
  keep : KeepL ws a a'
  df : hr = false → a'.defers = a.defers
  marks : Marks n0 a'.defers w'
  size : n0 ≤ w'.heap.size
theorem St.pre {n0 : Nat} {xs ys zs : List Nat} {hx hy hz : Bool} {a b : Act} {e1 e' : Env} {a' : Act} {w1 w' : World} (h : St n0 ys hy b e' a' w') (k : St n0 xs hx a e1 b w1) (hm : ∀ n, memN n zs = false → memN n (xs ++ ys) = false)
    (hd : hz = false → hx = false ∧ hy = false) : St n0 zs hz a e' a' w' :=
  ⟨h.agr, (k.keep.trans h.keep).mono hm, fun hf => (h.df (hd hf).2).trans (k.df (hd hf).1), h.marks, h.size⟩
theorem St.up {n0 : Nat} {xs zs : List Nat} {hx hz : Bool} {a : Act} {e' : Env} {a' : Act} {w' : World} (h : St n0 xs hx a e' a' w') (hm : ∀ n, memN n zs = false → memN n xs = false)
    (hd : hz = false → hx = false) : St n0 zs hz a e' a' w' :=
  ⟨h.agr, h.keep.mono hm, fun hf => h.df (hd hf), h.marks, h.size⟩
theorem putsE_ok : ∀ {ps : List Nat} {vs : List V1} {e : Env} {tmps : Array Value}, Agr e ⟨tmps, []⟩ → Agr (putsE e ps vs) ⟨(ps.zip (vs.map V1.enc)).foldl (fun t (x : Nat × Value) => t.setIfInBounds x.1 x.2) tmps, []⟩
  | [], _, _, _, h => by simpa [putsE] using h
  | _ :: _, [], _, _, h => by simpa [putsE] using h
  | d :: ds, v :: vs, e, tmps, h => by
    simp only [putsE, List.map_cons, List.zip_cons_cons, List.foldl_cons]
    exact putsE_ok (ps := ds) (vs := vs) (h.put (some d) (.one v))
theorem isBy_ok {n i : Nat} {A B : WP} {w : World} (h : isBy n i A B w) : (i = n ∧ A w) ∨ (i ≠ n ∧ B w) := by
  unfold isBy at h
  cases hb : Nat.beq i n with
  | true => rw [hb] at h; exact .inl ⟨Nat.eq_of_beq_eq_true hb, h⟩
  | false => rw [hb] at h; exact .inr ⟨Nat.ne_of_beq_eq_false hb, h⟩
theorem chainK_ok {j : Nat} {kx : Nat → WP} {w : World} : ∀ {l : List Nat}, chainK j kx l w → ∃ i, j = i + 2 ∧ kx i w
  | [], h => h.elim
  | i :: r, h => by
    rcases isBy_ok h with ⟨h1, h2⟩ | ⟨_, h2⟩
    · exact ⟨i, h1, h2⟩
    · exact chainK_ok h2
theorem jumpK_ok {c : Code} {j : Nat} {kn kr : WP} {kx : Nat → WP} {w : World} (h : jumpK c j kn kr kx w) : (j = 0 ∧ kn w) ∨ (j = 1 ∧ kr w) ∨ ∃ i, j = i + 2 ∧ kx i w := by
  unfold jumpK at h
  rcases isBy_ok h with ⟨h1, h2⟩ | ⟨_, h2⟩
  · exact .inl ⟨h1, h2⟩
  · cases hr : retIn c <;> rw [hr] at h2
    · exact .inr (.inr (chainK_ok h2))
    · rcases isBy_ok h2 with ⟨h1, h2⟩ | ⟨_, h2⟩
      · exact .inr (.inl ⟨h1, h2⟩)
      · exact .inr (.inr (chainK_ok h2))
end Go.X
