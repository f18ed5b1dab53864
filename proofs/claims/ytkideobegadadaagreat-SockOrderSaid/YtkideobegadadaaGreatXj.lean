/- The reading of Xb is sound, eighth part: a region. -/
import Derived.Test.YtkideobegadadaaGreatXi
namespace Go.X
variable {P : Program}

/-- Only these slots have turned. -/
structure KeepL (ws : List Nat) (a a' : Act) : Prop where
  size : a'.tmps.size = a.tmps.size
  same : ∀ n, memN n ws = false → a'.tmps[n]? = a.tmps[n]?
theorem KeepL.refl (ws : List Nat) (a : Act) : KeepL ws a a := ⟨rfl, fun _ _ => rfl⟩
theorem memN_append (n : Nat) (xs ys : List Nat) : memN n (xs ++ ys) = (memN n xs || memN n ys) := by
  induction xs with
  | nil => rfl
  | cons x xs ih => simp [memN, ih, Bool.or_assoc]
theorem KeepL.trans {xs ys : List Nat} {a b c : Act} (h : KeepL xs a b) (k : KeepL ys b c) : KeepL (xs ++ ys) a c :=
  ⟨k.size.trans h.size, fun n hn => by
    rw [memN_append] at hn
    simp only [Bool.or_eq_false_iff] at hn
    exact (k.same n hn.2).trans (h.same n hn.1)⟩
theorem KeepL.mono {xs ys : List Nat} {a b : Act} (h : KeepL xs a b) (hs : ∀ n, memN n ys = false → memN n xs = false) : KeepL ys a b :=
  ⟨h.size, fun n hn => h.same n (hs n hn)⟩
theorem KeepL.put {a a' : Act} {o : Oper} {v : Value} {r : List Oper} (h : KeepL (opsWrites r) (a.put o.dst v) a') : KeepL (opsWrites (o :: r)) a a' := by
  refine ⟨by rw [h.size, size_put], fun n hn => ?_⟩
  simp only [opsWrites] at hn
  cases hd : o.dst with
  | none =>
    rw [hd] at hn h
    exact h.same n hn
  | some d =>
    rw [hd] at hn h
    simp only [memN, Bool.or_eq_false_iff] at hn
    rw [h.same n hn.2, tmps_put, if_neg]
    rintro ⟨rfl, _⟩
    simp at hn
theorem Agr.val {e : Env} {a : Act} (h : Agr e a) {n : Nat} {v : TV} (hv : e.get n = .val v) : a.tmps[n]? = some v.enc := by
  have := h.ok n
  rw [hv] at this
  exact this
theorem defers_put (a : Act) (d : Option Nat) (v : Value) : (a.put d v).defers = a.defers := by cases d <;> rfl
theorem und_enc : und.enc = undef := rfl
section
variable {e : Env} {a : Act} {w : World} {r : Option Nat}
theorem ctxOf_ok (hA : Agr e a) : ∀ (n j : Nat) (b : Bool), a.tmps[j]? = some (.bool b) → Holds (ctxOf e n j) a
  | 0, _, _, _ => Holds.nil a
  | n + 1, j, b, hj => by
    simp only [ctxOf]
    have hk := hA.ok j
    split
    · rename_i i w v hg
      rw [hg] at hk
      simp only [EntOk] at hk
      have hi : a.tmps[i]? = some (.bool w) := Classical.byContradiction fun hne => by
        have := hk.2 hne
        rw [hj] at this
        simp [undef] at this
      exact holds_cons (ctxOf_ok hA n i w hi) hi
    · exact Holds.nil a
theorem yielded_at {ops : Array Oper} {j sj : Nat} (h : (ops.toList[j]?).bind (·.dst) = some sj) (tmps : Array Value) : yielded ops tmps j = match tmps[sj]? with | some (.bool b) => some b | _ => none := by
  unfold yielded
  have : (ops[j]?).bind (·.dst) = some sj := by rw [← h]; simp
  rw [this]
  rfl
theorem wanted_some {o : Oper} {j : Nat} {want : Bool} (hg : o.guard = some (j, want)) (y : Nat → Option Bool) : Region.wanted o y = (y j == some want) := by
  unfold Region.wanted; rw [hg]
theorem opsS_ok {ops : Array Oper} {Q : Exit → Act → World → Prop} : ∀ (l : List Oper) (i : Nat) (e : Env) (a : Act) (w : World) (K : Env → WP), Agr e a → opsS P ops.toList l i e K w →
    (∀ e' a' w', Agr e' a' → KeepL (opsWrites l) a a' → a'.defers = a.defers → Dfr w w' → K e' w' → Q .normal a' w') → wpListIn (Fr r) 0 P ops Q l a w
  | [], i, e, a, w, K, hA, h, hQ => hQ e a w hA (KeepL.refl _ _) rfl (Dfr.refl w) h
  | o :: rest, i, e, a, w, K, hA, h, hQ => by
    have hput : ∀ (e1 : Env) (u : Value) (w1 : World), Agr e1 (a.put o.dst u) → Dfr w w1 → opsS P ops.toList rest (i + 1) e1 K w1 → wpListIn (Fr r) 0 P ops Q rest (a.put o.dst u) w1 := by
      intro e1 u w1 hA1 hd h1
      refine opsS_ok rest (i + 1) e1 _ w1 K hA1 h1 fun e' a' w' hA' hk hdf hdd hK => ?_
      exact hQ e' a' w' hA' hk.put (hdf.trans (defers_put _ _ _)) (hd.trans hdd) hK
    have hone : ∀ (v : TV) (w1 : World), Dfr w w1 → opsS P ops.toList rest (i + 1) (putV e o v) K w1 → wpListIn (Fr r) 0 P ops Q rest (a.put o.dst v.enc) w1 :=
      fun v w1 hd h1 => hput _ _ w1 (hA.put o.dst v) hd h1
    unfold wpListIn
    obtain ⟨Y, hX, h⟩ : ∃ Y, opsS P ops.toList (o :: rest) i e K = Y ∧ Y w := ⟨_, rfl, h⟩
    unfold opsS at hX
    have hnext : ∀ (v : TV) (w1 : World), Dfr w w1 → nextS (parts ops.toList 6 i) e o (fun e => opsS P ops.toList rest (i + 1) e K) v w1 → wpListIn (Fr r) 0 P ops Q rest (a.put o.dst v.enc) w1 := by
      intro v w1 hd h1
      obtain ⟨Y, hX, h1⟩ : ∃ Y, nextS (parts ops.toList 6 i) e o (fun e => opsS P ops.toList rest (i + 1) e K) v = Y ∧ Y w1 := ⟨_, rfl, h1⟩
      unfold nextS at hX
      split at hX
      · split at hX
        · rename_i d b hdst
          subst hX
          refine hone _ w1 hd ?_
          unfold putV
          rw [hdst]
          cases b <;> exact h1
        · subst hX; exact h1.elim
      · subst hX; exact hone v w1 hd h1
    split at hX
    · rename_i hg
      subst hX
      have hw : Region.wanted o (yielded ops a.tmps) = true := by unfold Region.wanted; rw [hg]
      rw [if_pos hw]
      exact opS_ok hA (Holds.nil a) h _ Q hnext
    · rename_i j want hg
      split at hX
      · subst hX; exact h.elim
      · rename_i sj hsj
        have hy := yielded_at hsj a.tmps
        have hwj := wanted_some hg (yielded ops a.tmps)
        have hskip : (yielded ops a.tmps j == some want) = false → opsS P ops.toList rest (i + 1) (putV e o und) K w → (if Region.wanted o (yielded ops a.tmps) = true then o.wpIn (Fr r) 0 P a w (wpListIn (Fr r) 0 P ops Q rest) Q
            else (∀ f, o.about P w a.eval = some f → (Fr r).fn f) ∧ wpListIn (Fr r) 0 P ops Q rest (a.put o.dst undef) w) := by
          intro hf h1
          rw [if_neg (by rw [hwj, hf]; simp)]
          exact ⟨fun f _ => trivial, hone und w (Dfr.refl w) h1⟩
        have hrun : (yielded ops a.tmps j == some want) = true → opS P e [] o (nextS (parts ops.toList 6 i) e o fun e => opsS P ops.toList rest (i + 1) e K) w → (if Region.wanted o (yielded ops a.tmps) = true then o.wpIn (Fr r) 0 P a w (wpListIn (Fr r) 0 P ops Q rest) Q
            else (∀ f, o.about P w a.eval = some f → (Fr r).fn f) ∧ wpListIn (Fr r) 0 P ops Q rest (a.put o.dst undef) w) := by
          intro hf h1
          rw [if_pos (by rw [hwj, hf])]
          exact opS_ok hA (Holds.nil a) h1 _ Q hnext
        have hk := hA.ok sj
        split at hX
        · split at hX
          · rename_i b hgs
            rw [hgs] at hk
            simp only [EntOk] at hk
            have hk' : a.tmps[sj]? = some (.bool b) := hk
            rw [hk'] at hy
            simp only at hy
            split at hX
            · subst hX; exact hrun (by rw [hy]; rfl) h
            · subst hX; exact hrun (by rw [hy]; rfl) h
            · rename_i hn1 hn2
              subst hX
              refine hskip ?_ h
              rw [hy]
              cases b <;> cases want <;> first | rfl | exact (hn1 rfl rfl).elim | exact (hn2 rfl rfl).elim
          · rename_i hgs
            rw [hgs] at hk
            simp only [EntOk] at hk
            have hk' : a.tmps[sj]? = some undef := hk
            rw [hk'] at hy
            subst hX
            refine hskip ?_ h
            rw [hy]; rfl
          · subst hX; exact h.elim
        · split at hX
          · rename_i hud
            have hgs : e.get sj = .val (.tup []) := by
              unfold isUnd at hud
              split at hud
              · assumption
              · cases hud
            rw [hgs] at hk
            simp only [EntOk] at hk
            have hk' : a.tmps[sj]? = some undef := hk
            rw [hk'] at hy
            subst hX
            refine hskip ?_ h
            rw [hy]; rfl
          split at hX
          · rename_i v d hv hd
            have key : d ≠ sj → opsS P ops.toList rest (i + 1) (e.put (some d) (.gv sj want v)) K w → (if Region.wanted o (yielded ops a.tmps) = true then o.wpIn (Fr r) 0 P a w (wpListIn (Fr r) 0 P ops Q rest) Q
                else (∀ f, o.about P w a.eval = some f → (Fr r).fn f) ∧ wpListIn (Fr r) 0 P ops Q rest (a.put o.dst undef) w) := by
              intro hne h1
              by_cases hw : a.tmps[sj]? = some (.bool want)
              · rw [hw] at hy
                simp only at hy
                rw [if_pos (by rw [hwj, hy]; simp)]
                have hc : Holds ((sj, want) :: ctxOf e 5 sj) a := holds_cons (ctxOf_ok hA 5 sj want hw) hw
                refine goes_val (K := fun u w' => u = v ∧ w' = w) (pureV_nd hv) (pureV_ok hA hc hv w) (Dfr.refl w) ⟨rfl, rfl⟩ _ Q ?_
                rintro u w' - ⟨rfl, rfl⟩
                refine hput _ _ _ ?_ (Dfr.refl _) h1
                rw [hd]
                exact hA.put_gv hne want _ _ (fun _ => rfl) (fun hn => absurd hw hn)
              · have hnw : Region.wanted o (yielded ops a.tmps) = false := by
                  rw [hwj, hy]
                  split
                  · rename_i b hb
                    have : b ≠ want := fun hh => hw (by rw [hb, hh])
                    cases b <;> cases want <;> first | rfl | exact absurd rfl this
                  · rfl
                rw [if_neg (by rw [hnw]; simp)]
                refine ⟨fun f _ => trivial, hput _ _ _ ?_ (Dfr.refl _) h1⟩
                rw [hd]
                exact hA.put_gv hne want _ _ (fun hh => absurd hh hw) (fun _ => rfl)
            split at hX
            · subst hX
              exact key (Nat.ne_of_beq_eq_false (by assumption)) h
            · subst hX
              exact key (Nat.ne_of_beq_eq_false (by assumption)) h
            · subst hX; exact h.elim
          · subst hX; exact h.elim
end
end Go.X
