/- The reading of Xb is sound, first part: what is known of a frame; operations that only compute. -/
import Derived.Test.YtkideobegadadaaGreatXb
namespace Go.X

/-! ### Frames -/
theorem Env.get_set (e : Env) (d : Nat) (y : Ent) (i : Nat) : (Env.set e d y).get i = if i = d ∧ d < e.length then y else e.get i := by
  induction e generalizing d i with
  | nil => simp [Env.set, Env.get]
  | cons x e ih =>
    cases d with
    | zero => cases i <;> simp [Env.set, Env.get]
    | succ d => cases i with
      | zero => simp [Env.set, Env.get]
      | succ i => simp [Env.set, Env.get, ih]
theorem Env.get_map (f : Ent → Ent) (hf : f .un = .un) (e : Env) (i : Nat) : Env.get (e.map f) i = f (e.get i) := by
  induction e generalizing i with
  | nil => simp [Env.get, hf]
  | cons x e ih => cases i <;> simp [Env.get, ih]
theorem Env.len_set (e : Env) (d : Nat) (y : Ent) : (Env.set e d y).length = e.length := by
  induction e generalizing d with
  | nil => rfl
  | cons x e ih => cases d <;> simp [Env.set, ih]
theorem Env.get_past (e : Env) (i : Nat) (h : e.length ≤ i) : e.get i = .un := by
  induction e generalizing i with
  | nil => rfl
  | cons x e ih => cases i with
    | zero => simp at h
    | succ i => simp [Env.get]; exact ih i (by simpa using h)
def EntOk (a : Act) (i : Nat) : Ent → Prop
  | .un => True
  | .val v => a.tmps[i]? = some v.enc
  | .gv j w v => (a.tmps[j]? = some (.bool w) → a.tmps[i]? = some v.enc) ∧ (a.tmps[j]? ≠ some (.bool w) → a.tmps[i]? = some undef)
structure Agr (e : Env) (a : Act) : Prop where
  len : e.length = a.tmps.size
  ok : ∀ i, EntOk a i (e.get i)
def Holds (c : Ctx) (a : Act) : Prop := ∀ j w, inCtx j w c = true → a.tmps[j]? = some (.bool w)
theorem Holds.nil (a : Act) : Holds [] a := fun _ _ h => by cases h
theorem holds_cons {j : Nat} {w : Bool} {c : Ctx} {a : Act} (hc : Holds c a) (h : a.tmps[j]? = some (.bool w)) : Holds ((j, w) :: c) a := by
  intro i v hi
  simp only [inCtx] at hi
  split at hi
  · rename_i hb
    have e : j = i := Nat.eq_of_beq_eq_true hb
    subst e
    cases w <;> cases v <;> first | exact h | exact hc _ _ hi
  · exact hc _ _ hi

theorem leafV_ok {v : Value} {l : Lf} (h : leafV v = some l) : l.enc = v := by
  unfold leafV at h
  split at h <;> cases h <;> rfl
theorem allSome_ok {α : Type} : ∀ {l : List (Option α)} {xs : List α}, allSome l = some xs → l = xs.map some
  | [], xs, h => by cases h; rfl
  | none :: r, xs, h => by simp [allSome] at h
  | some x :: r, xs, h => by
    simp only [allSome] at h
    split at h
    · rename_i ys hy
      cases h
      simp [allSome_ok hy]
    · cases h
theorem leaves_ok {vs : List Value} {ls : List Lf} (h : vs.map leafV = ls.map some) : ls.map Lf.enc = vs := by
  induction vs generalizing ls with
  | nil => cases ls <;> simp at h ⊢
  | cons v vs ih =>
    cases ls with
    | nil => simp at h
    | cons l ls =>
      simp at h
      simp [leafV_ok h.1, ih h.2]
theorem constV_ok {v : Value} {x : V1} (h : constV v = some x) : x.enc = v := by
  unfold constV at h
  split at h
  · rename_i cs
    split at h
    · rename_i ls hl
      cases h
      have := leaves_ok (allSome_ok hl)
      simp [V1.enc, this]
    · cases h
  · split at h
    · rename_i l hl
      cases h
      exact leafV_ok hl
    · cases h
theorem Lf.cells (l : Lf) : l.enc.cells = #[l.enc] := by
  cases l with
  | sl s =>
    obtain ⟨a, c, h, _⟩ := s.enc_len
    simp [Lf.enc, h, Value.cells]
  | fn f => cases f <;> simp [Lf.enc, Fv.enc, Value.cells]
  | _ => simp [Lf.enc, Value.cells]
theorem V1.cells (v : V1) : v.enc.cells = (v.lfs.map Lf.enc).toArray := by
  cases v with
  | lf l => simp [V1.enc, V1.lfs, Lf.cells]
  | agg ls => simp [V1.enc, V1.lfs, Value.cells]

section
variable {P : Program} {e : Env} {a : Act} {c : Ctx} {w : World}
theorem evG_ok (hA : Agr e a) (hc : Holds c a) {x : Operand} {v : TV} (h : evG e c x = some v) : a.eval x = v.enc := by
  unfold evG at h
  split at h
  · rename_i t
    have hk := hA.ok t
    split at h
    · rename_i u hu
      cases h
      rw [hu] at hk
      simp only [EntOk] at hk
      simp [Act.eval, hk]
    · rename_i j ww u hu
      rw [hu] at hk
      split at h
      · rename_i hin
        cases h
        have := hk.1 (hc _ _ hin)
        simp [Act.eval, this]
      · cases h
    · cases h
  · split at h
    · rename_i y hy
      cases h
      simp [Act.eval, TV.enc, constV_ok hy]
    · cases h
  · cases h
    simp [Act.eval, TV.enc, V1.enc, Lf.enc, Fv.enc]
  · cases h
theorem evs_ok (hA : Agr e a) (hc : Holds c a) : ∀ {xs : List Operand} {vs : List V1}, evs e c xs = some vs → xs.map a.eval = vs.map V1.enc
  | [], vs, h => by simp [evs] at h; subst h; rfl
  | x :: r, vs, h => by
    simp only [evs] at h
    split at h
    · rename_i v hv
      split at h
      · rename_i us hu
        cases h
        simp only [List.map_cons]
        rw [evG_ok hA hc hv, evs_ok hA hc hu]
        rfl
      · cases h
    · cases h
theorem evParts_ok (hA : Agr e a) (hc : Holds c a) : ∀ {xs : List (Nat × Operand)} {vs : List (Nat × V1)}, evParts e c xs = some vs → xs.map (fun x => (x.1, a.eval x.2)) = vs.map (fun x => (x.1, x.2.enc))
  | [], vs, h => by simp [evParts] at h; subst h; rfl
  | (i, x) :: r, vs, h => by
    simp only [evParts] at h
    split at h
    · rename_i v hv
      split at h
      · rename_i us hu
        cases h
        simp only [List.map_cons]
        rw [evG_ok hA hc hv, evParts_ok hA hc hu]
        rfl
      · cases h
    · cases h
end

/-! ### Putting a value -/
theorem tmps_put (a : Act) (d : Nat) (v : Value) (i : Nat) : (a.put (some d) v).tmps[i]? = if i = d ∧ d < a.tmps.size then some v else a.tmps[i]? := by
  simp only [Act.put]
  by_cases h : d = i
  · subst h
    by_cases hl : d < a.tmps.size
    · simp [hl]
    · simp [hl]
  · rw [Array.getElem?_setIfInBounds_ne h]
    simp [Ne.symm h]
theorem size_put (a : Act) (d : Option Nat) (v : Value) : (a.put d v).tmps.size = a.tmps.size := by
  cases d <;> simp [Act.put]
theorem purge_ok {a : Act} {d : Nat} {v : Value} {i : Nat} (hi : ¬ (i = d ∧ d < a.tmps.size)) {x : Ent} (h : EntOk a i x) : EntOk (a.put (some d) v) i (purge d x) := by
  cases x with
  | un => trivial
  | val u => simp only [purge, EntOk] at *; rw [tmps_put, if_neg hi]; exact h
  | gv j w u =>
    simp only [purge]
    split
    · trivial
    · rename_i hb
      have hne : ¬ j = d := fun e => by rw [e, Nat.beq_refl] at hb; cases hb
      simp only [EntOk] at *
      rw [tmps_put, tmps_put, if_neg hi, if_neg (fun hh => hne hh.1)]
      exact h
theorem Agr.put {e : Env} {a : Act} (h : Agr e a) (d : Option Nat) (v : TV) : Agr (e.put d (.val v)) (a.put d v.enc) := by
  cases d with
  | none => exact h
  | some d =>
    refine ⟨by rw [size_put, ← h.len]; simp [Env.put, Env.len_set], fun i => ?_⟩
    simp only [Env.put]
    rw [Env.get_set]
    split
    · rename_i hi
      simp only [EntOk]
      rw [tmps_put, if_pos ⟨hi.1, by rw [← h.len]; simpa using hi.2⟩]
    · rename_i hi
      rw [Env.get_map _ rfl]
      exact purge_ok (by rw [← h.len]; simpa using hi) (h.ok i)
theorem Agr.put_un {e : Env} {a : Act} (h : Agr e a) (d : Option Nat) (v : Value) : Agr (e.put d .un) (a.put d v) := by
  cases d with
  | none => exact h
  | some d =>
    refine ⟨by rw [size_put, ← h.len]; simp [Env.put, Env.len_set], fun i => ?_⟩
    simp only [Env.put]
    rw [Env.get_set]
    split
    · trivial
    · rename_i hi
      rw [Env.get_map _ rfl]
      exact purge_ok (by rw [← h.len]; simpa using hi) (h.ok i)
theorem Agr.put_gv {e : Env} {a : Act} (h : Agr e a) {d j : Nat} (hj : d ≠ j) (want : Bool) (v : TV) (u : Value)
    (h1 : a.tmps[j]? = some (.bool want) → u = v.enc) (h2 : a.tmps[j]? ≠ some (.bool want) → u = undef) : Agr (e.put (some d) (.gv j want v)) (a.put (some d) u) := by
  refine ⟨by rw [size_put, ← h.len]; simp [Env.put, Env.len_set], fun i => ?_⟩
  simp only [Env.put]
  rw [Env.get_set]
  split
  · rename_i hi
    have hd : d < a.tmps.size := by rw [← h.len]; simpa using hi.2
    simp only [EntOk]
    have e1 : (a.put (some d) u).tmps[i]? = some u := by rw [tmps_put, if_pos ⟨hi.1, hd⟩]
    have e2 : (a.put (some d) u).tmps[j]? = a.tmps[j]? := by rw [tmps_put, if_neg (fun hh => hj hh.1.symm)]
    rw [e1, e2]
    exact ⟨fun hh => by rw [h1 hh], fun hh => by rw [h2 hh]⟩
  · rename_i hi
    rw [Env.get_map _ rfl]
    exact purge_ok (by rw [← h.len]; simpa using hi) (h.ok i)
end Go.X
