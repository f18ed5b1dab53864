/- The reading of Xb is sound: operations that yield the same wherever they stand. -/
import Derived.Test.YtkideobegadadaaGreatXn
namespace Go.X
variable {P : Program}

/-- It yields this, whatever the world, in whatever frame of which that is known. -/
def Const (P : Program) (e : Env) (o : Oper) (v : TV) : Prop := ∀ a, Agr e a → ∀ w, (execOp a.eval o).run P w = .ok (.value v.enc) w
section
variable {e : Env} {w : World}
theorem divC_ok {o : Oper} {K : TV → WP} {op : BinOp} {t u : TypeId} {x y : Operand} {k k' : IntKind} {p q : Int} (ho : o.op = .binOp op t x y u) (hx : evG e [] x = some (.one (.lf (.int k p)))) (hy : evG e [] y = some (.one (.lf (.int k' q))))
    (hk : op = .shl ∨ op = .shr ∨ k = k') (h : divS op y k p q K w) : ∃ v, K v w ∧ Const P e o v := by
  have hrun : ∀ v, (∀ w, (binOp op t (.int k p) (.int k' q)).run P w = .ok v w) → ∀ a, Agr e a → ∀ w, (execOp a.eval o).run P w = .ok (.value v) w := by
    intro v hv a hA w
    have hg := eqGuard_leaf (P := P) op t x y (.int k p) (.int k' q) w
    have ex : a.eval x = .int k p := evG_ok hA (Holds.nil a) hx
    have ey : a.eval y = .int k' q := evG_ok hA (Holds.nil a) hy
    simp only [Lf.enc] at hg
    simp only [execOp, ho, ex, ey]
    rw [Sem.run_bind, Sem.run_bind, hg]
    simp [hv]
  have hnz : nonZero y = true → q ≠ 0 := by
    intro hz
    unfold nonZero at hz
    split at hz
    · rename_i k'' m
      simp only [evG, constV, leafV, Option.some.injEq, TV.one.injEq, V1.lf.injEq, Lf.int.injEq] at hy
      obtain ⟨_, rfl⟩ := hy
      split at hz
      · cases hz
      · rename_i hd; exact of_decide_eq_false hd
    · cases hz
  cases op with
  | quo =>
    have e : k = k' := by rcases hk with hk | hk | hk; cases hk; cases hk; exact hk
    subst e
    simp only [divS] at h
    cases hz : nonZero y with
    | true => rw [hz] at h; exact ⟨_, h, hrun _ fun w => (div_run (hnz hz) w).1 rfl⟩
    | false => rw [hz] at h; exact ⟨_, h.2, hrun _ fun w => (div_run h.1 w).1 rfl⟩
  | rem =>
    have e : k = k' := by rcases hk with hk | hk | hk; cases hk; cases hk; exact hk
    subst e
    simp only [divS] at h
    cases hz : nonZero y with
    | true => rw [hz] at h; exact ⟨_, h, hrun _ fun w => (div_run (hnz hz) w).2 rfl⟩
    | false => rw [hz] at h; exact ⟨_, h.2, hrun _ fun w => (div_run h.1 w).2 rfl⟩
  | shl => exact ⟨_, h.2, hrun _ fun w => (shift_run h.1 w).1 rfl⟩
  | shr => exact ⟨_, h.2, hrun _ fun w => (shift_run h.1 w).2 rfl⟩
  | _ => exact h.elim
theorem nop_ok {o : Oper} {K : TV → WP} (h : opS P e [] o K w) (hp : pureV P e [] o = none)
    (hc : (∃ x, o.op = .nilCheck x) ∨ (∃ t x i, o.op = .indexAddr t x i) ∨ (∃ t x i, o.op = .index t x i) ∨ ∃ op t x y u, o.op = .binOp op t x y u) : ∃ v, K v w ∧ Const P e o v := by
  obtain ⟨Y, hX, h⟩ : ∃ Y, opS P e [] o K = Y ∧ Y w := ⟨_, rfl, h⟩
  unfold opS at hX
  rw [hp] at hX
  simp only at hX
  rcases hc with ⟨x, ho⟩ | ⟨t, x, i, ho⟩ | ⟨t, x, i, ho⟩ | ⟨op, t, x, y, u, ho⟩
  · rw [ho] at hX
    simp only at hX
    split at hX
    · rename_i p hp
      subst hX
      obtain ⟨q, hq, hK⟩ := h
      subst hq
      refine ⟨_, hK, fun a hA w => ?_⟩
      simp only [execOp, ho, evG_ok hA (Holds.nil a) hp]
      rfl
    · rename_i f hf
      subst hX
      obtain ⟨⟨n, fi, ca, hfe⟩, hK⟩ := h
      refine ⟨_, hK, fun a hA w => ?_⟩
      simp only [execOp, ho, evG_ok hA (Holds.nil a) hf]
      rcases hfe with rfl | rfl <;> rfl
    · subst hX; exact h.elim
  · rw [ho] at hX
    simp only at hX
    split at hX
    · rename_i s k n hs hn
      split at hX
      · rename_i el hel
        split at hX
        · rename_i hdd
          subst hX
          obtain ⟨d, hd⟩ := Option.isSome_iff_exists.1 hdd
          obtain ⟨q, hq, hb, hK⟩ := h
          refine ⟨_, hK, fun a hA w => ?_⟩
          have e1 : a.eval x = .slice (some q.addr) s.len s.cap := by rw [evG_ok hA (Holds.nil a) hs]; simp [TV.enc, V1.enc, Lf.enc, Sl.enc_p hq]
          have e2 : a.eval i = .int k n := evG_ok hA (Holds.nil a) hn
          simp only [execOp, ho, e1, e2]
          rw [Sem.run_bind, indexAt_sl (elemT_ok hel) hd hb]
          rfl
        · subst hX; exact h.elim
      · subst hX; exact h.elim
    · rename_i p k n hp hn
      split at hX
      · rename_i len el hu
        split at hX
        · rename_i hdd
          subst hX
          obtain ⟨d, hd⟩ := Option.isSome_iff_exists.1 hdd
          obtain ⟨hb, hK⟩ := h
          refine ⟨_, hK, fun a hA w => ?_⟩
          have e1 : a.eval x = .pointer (some p.addr) := evG_ok hA (Holds.nil a) hp
          have e2 : a.eval i = .int k n := evG_ok hA (Holds.nil a) hn
          simp only [execOp, ho, e1, e2]
          rw [Sem.run_bind, indexAt_ar hu hd hb]
          rfl
        · subst hX; exact h.elim
      · subst hX; exact h.elim
    · subst hX; exact h.elim
  · rw [ho] at hX
    simp only at hX
    split at hX
    · rename_i ls k n len el hls hn hu
      split at hX
      · rename_i c hk
        subst hX
        obtain ⟨hb, y, hy, hK⟩ := h
        obtain ⟨hg, d, hd⟩ := shT_lf hk
        refine ⟨_, hK, fun a hA w => ?_⟩
        have e1 : a.eval x = .agg (ls.map Lf.enc).toArray := evG_ok hA (Holds.nil a) hls
        have e2 : a.eval i = .int k n := evG_ok hA (Holds.nil a) hn
        simp only [execOp, ho, e1, e2]
        rw [Sem.run_bind, index_ar (v := .lf (c.mk y)) hu hd hb (by
          unfold partV
          rw [hg]
          have hz := congrArg (fun z => z[0]?) hy
          simp only [Ks.mk, List.getElem?_take] at hz
          split at hz
          · simp only [List.getElem?_cons_zero, List.getElem?_drop, Nat.add_zero] at hz
            simp [← hz]
          · simp at hz)]
        rfl
      · rename_i c hk
        subst hX
        obtain ⟨hb, y, hy, hK⟩ := h
        obtain ⟨hg, ⟨d, hd⟩, hl⟩ := shT_agg hk
        refine ⟨_, hK, fun a hA w => ?_⟩
        have e1 : a.eval x = .agg (ls.map Lf.enc).toArray := evG_ok hA (Holds.nil a) hls
        have e2 : a.eval i = .int k n := evG_ok hA (Holds.nil a) hn
        simp only [execOp, ho, e1, e2]
        rw [Sem.run_bind, index_ar (v := .agg (Ks.mk c y)) hu hd hb (by unfold partV; rw [hg]; simp [hy])]
        rfl
      · subst hX; exact h.elim
    · rename_i s k n hs hn hu
      subst hX
      obtain ⟨b, ⟨h0, hb⟩, hK⟩ := h
      refine ⟨_, hK, fun a hA w => ?_⟩
      have e1 : a.eval x = .string s := evG_ok hA (Holds.nil a) hs
      have e2 : a.eval i = .int k n := evG_ok hA (Holds.nil a) hn
      simp only [execOp, ho, e1, e2]
      have : (Instr.index t (.string s) (.int k n)).run P w = .ok (.int .u8 b.toNat) w := by
        unfold Instr.index
        simp [asIntOf, run_underlying hu, h0, hb]
      rw [Sem.run_bind, this]
      rfl
    · subst hX; exact h.elim
  · rw [ho] at hX
    simp only at hX
    split at hX
    · rename_i k p k' q hp hq
      split at hX
      · subst hX; exact divC_ok ho hp hq (.inl rfl) h
      · subst hX; exact divC_ok ho hp hq (.inr (.inl rfl)) h
      · split at hX
        · rename_i hk
          subst hX; exact divC_ok ho hp hq (.inr (.inr (isK_ok hk))) h
        · subst hX; exact h.elim
    · rename_i p q hp hq
      split at hX
      · subst hX
        obtain ⟨hle, hK⟩ := h
        refine ⟨_, hK, fun a hA w => ?_⟩
        have hg := eqGuard_leaf (P := P) .add t x y (.str p) (.str q) w
        simp only [Lf.enc] at hg
        have ep : a.eval x = .string p := evG_ok hA (Holds.nil a) hp
        have eq : a.eval y = .string q := evG_ok hA (Holds.nil a) hq
        simp only [execOp, ho, ep, eq]
        rw [Sem.run_bind, Sem.run_bind, hg]
        have hmx : IntKind.i64.max = 9223372036854775807 := rfl
        rw [hmx] at hle
        simp [binOp, Op.stringOp, TV.enc, V1.enc, Lf.enc]
        omega
      · subst hX; exact h.elim
    · subst hX; exact h.elim
/-- It yields this wherever that may be read. -/
def Yields' (P : Program) (e : Env) (o : Oper) (v : TV) (l : Option (Pt × List Lf)) : Prop := ∀ a, Agr e a → ∀ w, (∀ p ls, l = some (p, ls) → Reads w p.b p.o ls) → (execOp a.eval o).run P w = .ok (.value v.enc) w
theorem fop_ok {o : Oper} {K : TV → Option (Pt × List Lf) → WP} (h : fopS P e o K w) : (∀ x, o.op ≠ .defer x) ∧ ∃ v l, K v l w ∧ (∀ p ls, l = some (p, ls) → Reads w p.b p.o ls) ∧ Yields' P e o v l := by
  obtain ⟨Y, hX, h⟩ : ∃ Y, fopS P e o K = Y ∧ Y w := ⟨_, rfl, h⟩
  unfold fopS at hX
  have noR : ∀ p ls, (none : Option (Pt × List Lf)) = some (p, ls) → Reads w p.b p.o ls := fun _ _ hh => by cases hh
  split at hX
  · rename_i v hv
    subst hX
    exact ⟨pureV_nd hv, v, none, h, noR, fun a hA w _ => pureV_ok hA (Holds.nil a) hv w⟩
  · rename_i hpn
    split at hX
    · rename_i t x ho
      refine ⟨by rw [ho]; intro x; simp, ?_⟩
      split at hX
      · rename_i p hp
        have hrun : ∀ a, Agr e a → ∀ w v, (loadVar t p.addr).run P w = .ok v w → (execOp a.eval o).run P w = .ok (.value v) w := by
          intro a hA w v hv
          simp only [execOp, ho, Instr.loadAt, evG_ok hA (Holds.nil a) hp, TV.enc, V1.enc, Lf.enc, Option.map_some, Instr.sureAddr, Sem.run_bind, Sem.run_pure, Result.andThen_ok, hv]
        split at hX
        · rename_i k hk
          subst hX
          obtain ⟨y, hr, hK⟩ := h
          obtain ⟨hg, d, hd⟩ := shT_lf hk
          refine ⟨_, _, hK, fun p' ls hh => by cases hh; exact hr, fun a hA w' hw => hrun a hA w' _ (loadVar_lf hd hg (hw p _ rfl))⟩
        · rename_i ks hk
          subst hX
          obtain ⟨y, hr, hK⟩ := h
          obtain ⟨hg, ⟨d, hd⟩, hl⟩ := shT_agg hk
          refine ⟨_, _, hK, fun p' ls hh => by cases hh; exact hr, fun a hA w' hw => hrun a hA w' _ (loadVar_agg hd hg (by rw [Ks.len]; exact hl) (hw p _ rfl))⟩
        · subst hX; exact h.elim
      · subst hX; exact h.elim
    · rename_i x ho
      subst hX
      obtain ⟨v, h1, h2⟩ := nop_ok h hpn (.inl ⟨x, ho⟩)
      exact ⟨by rw [ho]; intro x; simp, v, none, h1, noR, fun a hA w _ => h2 a hA w⟩
    · rename_i t x i ho
      subst hX
      obtain ⟨v, h1, h2⟩ := nop_ok h hpn (.inr (.inl ⟨t, x, i, ho⟩))
      exact ⟨by rw [ho]; intro x; simp, v, none, h1, noR, fun a hA w _ => h2 a hA w⟩
    · rename_i t x i ho
      subst hX
      obtain ⟨v, h1, h2⟩ := nop_ok h hpn (.inr (.inr (.inl ⟨t, x, i, ho⟩)))
      exact ⟨by rw [ho]; intro x; simp, v, none, h1, noR, fun a hA w _ => h2 a hA w⟩
    · rename_i op t x y u ho
      subst hX
      obtain ⟨v, h1, h2⟩ := nop_ok h hpn (.inr (.inr (.inr ⟨op, t, x, y, u, ho⟩)))
      exact ⟨by rw [ho]; intro x; simp, v, none, h1, noR, fun a hA w _ => h2 a hA w⟩
    · subst hX; exact h.elim
end
end Go.X
