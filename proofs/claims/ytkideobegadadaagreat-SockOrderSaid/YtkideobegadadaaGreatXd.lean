/- The reading of Xb is sound, second part: operations that only compute. -/
import Derived.Test.YtkideobegadadaaGreatXc
namespace Go.X
variable {P : Program}

theorem isK_ok {a b : IntKind} (h : isK a b = true) : a = b := by cases a <;> cases b <;> first | rfl | cases h
/-- A value of a type, by its leaves. -/
def IsVal (P : Program) (t : TypeId) (ls : List Lf) (v : Value) : Prop := if isAggT P t then v = .agg (ls.map Lf.enc).toArray else ∃ l, ls = [l] ∧ v = l.enc
theorem isAgg_run (P : Program) (t : TypeId) {d : TypeDesc} (h : P.underlying t = some d) (w : World) : (isAgg t).run P w = .ok (isAggT P t) w := by
  unfold isAgg isAggT
  simp only [Sem.run_bind, run_underlying h, Result.andThen_ok, h]
  cases d <;> rfl
theorem sizeOf_run {t : TypeId} {d : TypeDesc} (h : P.underlying t = some d) (w : World) : (sizeOf t).run P w = .ok (P.cellsOf t) w := by
  unfold sizeOf typeInfo Program.cellsOf
  cases hi : P.info? t with
  | none => simp [Program.underlying, hi] at h
  | some i => simp [hi]
theorem part_run {t : TypeId} {d : TypeDesc} (h : P.underlying t = some d) (xs : List Lf) (off : Nat) (ls : List Lf) (hl : cutL xs off (P.cellsOf t) = ls) (hs : isAggT P t = false → ∃ l, ls = [l]) (w : World) :
    ∃ v, (part t (xs.map Lf.enc).toArray off).run P w = .ok v w ∧ IsVal P t ls v := by
  unfold part
  simp only [Sem.run_bind, isAgg_run P t h, Result.andThen_ok, Sem.run_ite]
  unfold IsVal
  cases ha : isAggT P t with
  | true =>
    simp only [if_true, sizeOf_run h, Result.andThen_ok, Sem.run_pure]
    refine ⟨_, rfl, ?_⟩
    subst hl
    simp [cutL, List.map_take, List.map_drop]
  | false =>
    obtain ⟨l, rfl⟩ := hs ha
    have hx : xs[off]? = some l := by
      have := congrArg (fun z => z[0]?) hl
      simp only [cutL] at this
      rw [List.getElem?_take] at this
      split at this
      · simpa using this
      · simp at this
    simp [hx]

theorem eqFields_run {d : Nat} {fs : List Field} {xs ys : List Lf} {b : Bool} {rec : TypeId → List Lf → List Lf → Option Bool} (w : World)
    (hrec : ∀ t us vs b, rec t us vs = some b → (∃ dd, P.underlying t = some dd) ∧ (isAggT P t = false → (∃ l, us = [l]) ∧ ∃ l, vs = [l]) ∧ ∀ x y, IsVal P t us x → IsVal P t vs y → (Op.equalIn d t x y).run P w = .ok b w)
    (h : eqFs P rec xs ys fs = some b) : (Op.eqFields d (xs.map Lf.enc).toArray (ys.map Lf.enc).toArray fs).run P w = .ok b w := by
  induction fs generalizing b with
  | nil => simp [eqFs] at h; subst h; simp [Op.eqFields]
  | cons f r ih =>
    unfold eqFs at h
    split at h
    · rename_i hn
      have hn' : f.name = "_" := by simpa using hn
      simp only [Op.eqFields, hn', ne_eq, not_true, if_false]
      exact ih h
    · rename_i hn
      have hn' : ¬ f.name = "_" := by simpa using hn
      simp only [Op.eqFields, ne_eq, hn', not_false_eq_true, if_true, Sem.run_bind]
      have step : ∀ a, rec f.type (cutL xs f.offset (P.cellsOf f.type)) (cutL ys f.offset (P.cellsOf f.type)) = some a →
          ∃ u v, (part f.type (xs.map Lf.enc).toArray f.offset).run P w = .ok u w ∧ (part f.type (ys.map Lf.enc).toArray f.offset).run P w = .ok v w ∧ (Op.equalIn d f.type u v).run P w = .ok a w := by
        intro a ha
        obtain ⟨⟨dd, hd⟩, hs, he⟩ := hrec _ _ _ _ ha
        obtain ⟨u, hu, iu⟩ := part_run hd xs f.offset _ rfl (fun z => (hs z).1) w
        obtain ⟨v, hv, iv⟩ := part_run hd ys f.offset _ rfl (fun z => (hs z).2) w
        exact ⟨u, v, hu, hv, he u v iu iv⟩
      split at h
      · rename_i a ha
        cases h
        obtain ⟨u, v, hu, hv, he⟩ := step _ ha
        simp only [hu, hv, he, Result.andThen_ok, Sem.run_ite]
        cases b <;> simp [Op.eqFields]
      · rename_i a g r' ha
        obtain ⟨u, v, hu, hv, he⟩ := step _ ha
        split at h
        · rename_i b' hb'
          cases h
          simp only [hu, hv, he, Result.andThen_ok, Sem.run_ite, ih hb']
          cases a <;> simp
        · cases h
      · cases h
theorem rangeLoop_run {d : Nat} {t : TypeId} {xs ys : List Lf} {rec : List Lf → List Lf → Option Bool} {dd : TypeDesc} (ht : P.underlying t = some dd) (w : World)
    (hrec : ∀ us vs b, rec us vs = some b → (isAggT P t = false → (∃ l, us = [l]) ∧ ∃ l, vs = [l]) ∧ ∀ x y, IsVal P t us x → IsVal P t vs y → (Op.equalIn d t x y).run P w = .ok b w) :
    ∀ (m i : Nat) (b : Bool), eqAr rec (P.cellsOf t) xs ys m i = some b →
      (forIn (List.range' i m) ((none, ()) : Option Bool × Unit) (fun i _ => do
        let a ← part t (xs.map Lf.enc).toArray (i * P.cellsOf t)
        let c ← part t (ys.map Lf.enc).toArray (i * P.cellsOf t)
        let r ← Op.equalIn d t a c
        if (!r) = true then pure (ForInStep.done (some false, ())) else pure (ForInStep.yield (none, ())))).run P w
        = .ok (if b then (none, ()) else (some false, ())) w := by
  intro m
  induction m with
  | zero => intro i b h; simp [eqAr] at h; subst h; simp
  | succ m ih =>
    intro i b h
    unfold eqAr at h
    simp only [List.range'_succ, List.forIn_cons, Sem.run_bind]
    have step : ∀ a, rec (cutL xs (i * P.cellsOf t) (P.cellsOf t)) (cutL ys (i * P.cellsOf t) (P.cellsOf t)) = some a →
        ∃ u v, (part t (xs.map Lf.enc).toArray (i * P.cellsOf t)).run P w = .ok u w ∧ (part t (ys.map Lf.enc).toArray (i * P.cellsOf t)).run P w = .ok v w ∧ (Op.equalIn d t u v).run P w = .ok a w := by
      intro a ha
      obtain ⟨hs, he⟩ := hrec _ _ _ ha
      obtain ⟨u, hu, iu⟩ := part_run ht xs (i * P.cellsOf t) _ rfl (fun z => (hs z).1) w
      obtain ⟨v, hv, iv⟩ := part_run ht ys (i * P.cellsOf t) _ rfl (fun z => (hs z).2) w
      exact ⟨u, v, hu, hv, he u v iu iv⟩
    split at h
    · rename_i a ha
      cases h
      obtain ⟨u, v, hu, hv, he⟩ := step _ ha
      simp only [hu, hv, he, Result.andThen_ok]
      cases b <;> simp
    · rename_i a k ha
      obtain ⟨u, v, hu, hv, he⟩ := step _ ha
      split at h
      · rename_i b' hb'
        cases h
        have h3 := ih (i + 1) b' hb'
        simp only [hu, hv, he, Result.andThen_ok]
        cases a with
        | false => simp
        | true => simpa using h3
      · cases h
    · cases h
theorem eqT_ok : ∀ (d D : Nat) (t : TypeId) (xs ys : List Lf) (b : Bool) (w : World), d ≤ D → eqT P d t xs ys = some b →
    (∃ dd, P.underlying t = some dd) ∧ (isAggT P t = false → (∃ l, xs = [l]) ∧ ∃ l, ys = [l]) ∧ ∀ x y, IsVal P t xs x → IsVal P t ys y → (Op.equalIn D t x y).run P w = .ok b w := by
  intro d
  induction d with
  | zero => intro D t xs ys b w _ h; simp [eqT] at h
  | succ d ih =>
    intro D t xs ys b w hD h
    obtain ⟨D, rfl⟩ : ∃ n, D = n + 1 := ⟨D - 1, by omega⟩
    simp only [eqT] at h
    split at h
    · rename_i hu
      have hg : isAggT P t = false := by simp [isAggT, hu]
      split at h
      · rename_i p q
        cases h
        refine ⟨⟨_, hu⟩, fun _ => ⟨⟨_, rfl⟩, _, rfl⟩, fun x y hx hy => ?_⟩
        simp only [IsVal, hg, Bool.false_eq_true, if_false] at hx hy
        obtain ⟨l, h1, rfl⟩ := hx
        obtain ⟨m, h2, rfl⟩ := hy
        cases h1; cases h2
        exact run_equalIn_bool' w D t _ _ hu
      · cases h
    · rename_i k hu
      have hg : isAggT P t = false := by simp [isAggT, hu]
      split at h
      · rename_i k1 p k2 q
        split at h
        · rename_i hk
          cases h
          refine ⟨⟨_, hu⟩, fun _ => ⟨⟨_, rfl⟩, _, rfl⟩, fun x y hx hy => ?_⟩
          simp only [IsVal, hg, Bool.false_eq_true, if_false] at hx hy
          obtain ⟨l, h1, rfl⟩ := hx
          obtain ⟨m, h2, rfl⟩ := hy
          cases h1; cases h2
          rw [← isK_ok hk]
          exact run_equalIn_int w D t k1 k p q hu
        · cases h
      · cases h
    · rename_i hu
      have hg : isAggT P t = false := by simp [isAggT, hu]
      split at h
      · rename_i p q
        cases h
        refine ⟨⟨_, hu⟩, fun _ => ⟨⟨_, rfl⟩, _, rfl⟩, fun x y hx hy => ?_⟩
        simp only [IsVal, hg, Bool.false_eq_true, if_false] at hx hy
        obtain ⟨l, h1, rfl⟩ := hx
        obtain ⟨m, h2, rfl⟩ := hy
        cases h1; cases h2
        exact run_equalIn_string w D t _ _ hu
      · cases h
    · rename_i fs hu
      have hg : isAggT P t = true := by simp [isAggT, hu]
      split at h
      · cases h
      · rename_i hst
        refine ⟨⟨_, hu⟩, fun z => (by rw [hg] at z; cases z), fun x y hx hy => ?_⟩
        simp only [IsVal, hg, if_true] at hx hy
        subst hx; subst hy
        have hf : P.fieldsOf t = fs := by simp [Program.fieldsOf, hu]
        rw [run_equalIn_struct w D t _ _ (by rw [hf]; exact hu) hst, hf]
        exact eqFields_run w (fun t us vs b hh => ih D t us vs b w (by omega) hh) h
    · rename_i n e hu
      have hg : isAggT P t = true := by simp [isAggT, hu]
      refine ⟨⟨_, hu⟩, fun z => (by rw [hg] at z; cases z), fun x y hx hy => ?_⟩
      simp only [IsVal, hg, if_true] at hx hy
      subst hx; subst hy
      simp only [Op.equalIn, Sem.run_bind, run_underlying hu, Result.andThen_ok]
      cases n with
      | zero => cases h
      | succ n =>
        have hrec := fun us vs b hh => ih D e us vs b w (by omega) hh
        have hue : ∃ dd, P.underlying e = some dd := by
          dsimp only at h
          unfold eqAr at h
          split at h <;> rename_i hh
          · exact (hrec _ _ _ hh).1
          · exact (hrec _ _ _ hh).1
          · cases h
        obtain ⟨dd, hdd⟩ := hue
        simp only [sizeOf_run hdd, Result.andThen_ok]
        rw [Std.Legacy.Range.forIn_eq_forIn_range']
        have := rangeLoop_run (xs := xs) (ys := ys) hdd w (fun us vs b hh => (hrec us vs b hh).2) (n + 1) 0 b h
        simp only [Std.Legacy.Range.size]
        simp only [Nat.sub_zero, Nat.div_one, Nat.add_one_sub_one] at *
        rw [this]
        cases b <;> simp
    · cases h

/-! ### Comparisons, arithmetic -/
theorem eqGuard_leaf (op : BinOp) (t : TypeId) (x y : Operand) (a b : Lf) (w : World) : (eqGuard op t x y a.enc b.enc).run P w = .ok () w := by
  have hs : ∀ s : Sl, ∃ x n c, s.enc = .slice x n c := fun s => by obtain ⟨x, c, hx, _⟩ := s.enc_len; exact ⟨x, _, c, hx⟩
  have hf : ∀ f : Fv, f.enc = .nilFunc ∨ ∃ x y z, f.enc = .func x y z := fun f => by cases f <;> simp [Fv.enc]
  have hl : ∀ l : Lf, (∃ k n, l.enc = .int k n) ∨ (∃ b, l.enc = .bool b) ∨ (∃ p, l.enc = .pointer p) ∨ (∃ x n c, l.enc = .slice x n c) ∨ (∃ s, l.enc = .string s) ∨ l.enc = .nilFunc ∨ ∃ x y z, l.enc = .func x y z := fun l => by
    cases l with
    | sl s => obtain ⟨x, n, c, h⟩ := hs s; exact .inr (.inr (.inr (.inl ⟨x, n, c, h⟩)))
    | fn f => exact .inr (.inr (.inr (.inr (.inr (hf f)))))
    | _ => simp [Lf.enc]
  rcases hl a with ⟨k, n, h⟩ | ⟨k, h⟩ | ⟨k, h⟩ | ⟨k, n, c, h⟩ | ⟨k, h⟩ | h | ⟨k, n, c, h⟩ <;> rw [h] <;> rcases hl b with ⟨k, n, h⟩ | ⟨k, h⟩ | ⟨k, h⟩ | ⟨k, n, c, h⟩ | ⟨k, h⟩ | h | ⟨k, n, c, h⟩ <;> rw [h] <;> cases op <;> simp [eqGuard]
theorem isEq_ok {op : BinOp} {eq : Bool} (h : isEq op = some eq) : op = if eq then .eql else .neq := by
  cases op <;> simp [isEq] at h <;> subst h <;> rfl
theorem binI_ok {op : BinOp} {k : IntKind} {a b : Int} {v : TV} (h : binI op k a b = some v) (t : TypeId) (w : World) : (binOp op t (.int k a) (.int k b)).run P w = .ok v.enc w := by
  cases op <;> simp only [binI, intV, boolV, Option.some.injEq, reduceCtorEq] at h <;> subst h <;>
    simp [binOp, Op.intArith, Op.intBits, Op.intCmp, TV.enc, V1.enc, Lf.enc]
theorem xb_ok {eq b : Bool} {v : TV} (h : xb eq b = some v) : v.enc = .bool (if eq then b else !b) := by
  cases eq <;> simp only [xb, boolV, Option.some.injEq] at h <;> subst h <;> rfl
theorem equalIn_ptr (d : Nat) {t u : TypeId} (hu : P.underlying t = some (.pointer u)) (p : Option Pt) (w : World) : (Op.equalIn (d + 1) t (.pointer (p.map Pt.addr)) (.pointer none)).run P w = .ok p.isNone w := by
  cases p <;> simp [Op.equalIn, run_underlying hu]
theorem equalIn_sl (d : Nat) {t u : TypeId} (hu : P.underlying t = some (.slice u)) (s : Sl) (l c : Nat) (w : World) : (Op.equalIn (d + 1) t s.enc (.slice none l c)).run P w = .ok s.isNil w := by
  obtain ⟨a, m, h, _, _, hn⟩ := s.enc_len
  rw [h]
  cases a with
  | none => rw [hn.1 rfl]; simp [Op.equalIn, run_underlying hu]
  | some a =>
    have : s.isNil = false := by
      cases hh : s.isNil with
      | false => rfl
      | true => have := hn.2 hh; cases this
    rw [this]; simp [Op.equalIn, run_underlying hu]
theorem equalIn_fn (d : Nat) {t : TypeId} {a b : Array TypeId} {c : Bool} (hu : P.underlying t = some (.func a b c)) (f : Fv) (w : World) : (Op.equalIn (d + 1) t f.enc .nilFunc).run P w = .ok (isNilF f) w := by
  cases f <;> simp [Fv.enc, isNilF, Op.equalIn, run_underlying hu]
theorem eqV_ok {eq : Bool} {t : TypeId} {x y : V1} {v : TV} (h : eqV P eq t x y = some v) (x0 y0 : Operand) (w : World) :
    ((do eqGuard (if eq then .eql else .neq) t x0 y0 x.enc y.enc; binOp (if eq then .eql else .neq) t x.enc y.enc : Sem Value)).run P w = .ok v.enc w := by
  unfold eqV at h
  split at h
  · -- bool
    rename_i a b
    split at h
    · rename_i hu
      rw [xb_ok h]
      simp only [Sem.run_bind, V1.enc, eqGuard_leaf, Result.andThen_ok]
      have := run_equalIn_bool' (P := P) w 9999 t a b hu
      cases eq <;> simp [binOp, Lf.enc, Op.equal, Op.maxDepth, this]
    · cases h
  · -- string
    rename_i a b
    rw [xb_ok h]
    simp only [Sem.run_bind, V1.enc, eqGuard_leaf, Result.andThen_ok]
    cases eq <;> simp [binOp, Lf.enc, Op.stringOp]
  · -- pointer
    rename_i p
    split at h
    · rename_i hu
      rw [xb_ok h]
      simp only [Sem.run_bind, V1.enc, eqGuard_leaf, Result.andThen_ok]
      have := equalIn_ptr 9999 hu p w
      cases eq <;> simp [binOp, Lf.enc, Op.equal, Op.maxDepth, this]
    · cases h
  · -- slice
    rename_i s
    split at h
    · rename_i hu
      rw [xb_ok h]
      simp only [Sem.run_bind, V1.enc, eqGuard_leaf, Result.andThen_ok]
      have := equalIn_sl 9999 hu s 0 0 w
      obtain ⟨x, c, hx, _⟩ := s.enc_len
      have hz : (Lf.sl ⟨none, 0, 0⟩).enc = .slice none 0 0 := rfl
      have hy : (Lf.sl s).enc = .slice x s.len c := hx
      rw [hx] at this
      rw [hz, hy]
      cases eq <;> simp [binOp, Op.equal, Op.maxDepth, this]
    · cases h
  · -- function
    rename_i f
    split at h
    · rename_i hu
      rw [xb_ok h]
      simp only [Sem.run_bind, V1.enc, eqGuard_leaf, Result.andThen_ok]
      have := equalIn_fn 9999 hu f w
      cases f <;> simp only [Fv.enc] at this <;> cases eq <;> simp [binOp, Lf.enc, Fv.enc, Op.equal, Op.maxDepth, this]
    · cases h
  · -- aggregates
    rename_i xs ys
    split at h
    · rename_i hg
      simp only [Bool.and_eq_true, Bool.not_eq_true'] at hg
      obtain ⟨hagg, hguard⟩ := hg
      split at h
      · rename_i b hb
        rw [xb_ok h]
        obtain ⟨_, _, he⟩ := eqT_ok 8 10000 t xs ys b w (by omega) hb
        have he := he (.agg (xs.map Lf.enc).toArray) (.agg (ys.map Lf.enc).toArray) (by simp [IsVal, hagg]) (by simp [IsVal, hagg])
        simp only [Sem.run_bind, V1.enc, run_eqGuard_agg w _ t _ _ _ _ hguard, Result.andThen_ok]
        cases eq
        · simp only [Bool.false_eq_true, if_false, run_neq_struct, he, Result.andThen_ok]
        · simp only [if_true, run_eql_struct, he, Result.andThen_ok]
      · cases h
    · cases h
  · cases h
theorem binV_ok {op : BinOp} {t : TypeId} {x y : V1} {v : TV} (h : binV P op t x y = some v) (x0 y0 : Operand) (w : World) :
    ((do eqGuard op t x0 y0 x.enc y.enc; binOp op t x.enc y.enc : Sem Value)).run P w = .ok v.enc w := by
  unfold binV at h
  split at h
  · rename_i k a k' b
    split at h
    · rename_i hk
      have := isK_ok hk
      subst this
      simp only [Sem.run_bind, V1.enc, eqGuard_leaf, Result.andThen_ok]
      exact binI_ok h t w
    · cases h
  · split at h
    · rename_i eq heq
      rw [isEq_ok heq]
      exact eqV_ok h x0 y0 w
    · cases h
end Go.X
